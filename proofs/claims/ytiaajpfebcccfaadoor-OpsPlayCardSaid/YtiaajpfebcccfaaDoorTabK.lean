/-
  The operators' table: its keys can be read as keys of a map. Condition: the sort is a whole number of 64 bits, the name has at most maxLen bytes.
-/
import Derived.Test.YtiaajpfebcccfaaDoorProg
import Derived.Test.YtiaajpfebcccfaaDoorMaps
import Derived.KernelRfl
namespace Go.Proofs.YtiaajpfebcccfaaDoor
open Go.RowKit Go.Maps
set_option maxRecDepth 100000

abbrev OpK := Int × List UInt8
abbrev OpV := Int × Int
def opk (k : OpK) : Value := .agg #[.int .i64 k.1, .string ⟨k.2.toArray⟩]
def opv (v : OpV) : Value := .agg #[.int .i64 v.1, .int .i64 v.2]
def okOpK (k : OpK) : Prop := (-9223372036854775808 ≤ k.1 ∧ k.1 ≤ 9223372036854775807) ∧ k.2.length ≤ maxLen

theorem opk_inj (a b : OpK) (h : opk a = opk b) : a = b := by
  obtain ⟨a1, a2⟩ := a
  obtain ⟨b1, b2⟩ := b
  simp [opk] at h
  rw [h.1, h.2]

theorem tabLaid : laidOutB Tryd.prog = true := by kernel_rfl
theorem keyRow : (56 : TypeId) < Tryd.prog.types.size := of_decide_eq_true (by kernel_rfl)
theorem keyWide : (match Tryd.prog.underlying 56 with | some (.array _ _) | some (.struct _) => true | _ => false) = true := by kernel_rfl
theorem keyLaw : WideMaps.KeyLaw Tryd.prog 56 := deep_law_laid tabLaid (m := 2) (by omega) keyRow (by kernel_rfl) keyWide
theorem keyIs : Tryd.prog.keyType 56 = true := by kernel_rfl
theorem keyFields : ∃ f g, Tryd.prog.underlying 56 = some (.struct #[f, g]) ∧ f.type = 3 ∧ g.type = 9 ∧ f.offset = 0 ∧ g.offset = 1 ∧ (f.name != "_") = true ∧ (g.name != "_") = true := ⟨_, _, Tryd.underlying56, rfl, rfl, rfl, rfl, by decide, by decide⟩
theorem keyCells : Tryd.prog.cellsOf 56 = 2 := by kernel_rfl
theorem intCells : Tryd.prog.cellsOf 3 = 1 := by kernel_rfl
theorem stringCells : Tryd.prog.cellsOf 9 = 1 := by kernel_rfl
theorem typesPos : ∃ m, Tryd.prog.types.size = m + 1 := ⟨Tryd.prog.types.size - 1, (Nat.succ_pred_eq_of_pos (Nat.lt_of_le_of_lt (Nat.zero_le _) keyRow)).symm⟩

theorem int_wf {a : Int} (h1 : -9223372036854775808 ≤ a) (h2 : a ≤ 9223372036854775807) : (Lit.int .i64 a).wf = true := by
  have e1 : IntKind.i64.min = -9223372036854775808 := by decide
  have e2 : IntKind.i64.max = 9223372036854775807 := by decide
  simp only [Lit.wf, Bool.and_eq_true, e1, e2]
  exact ⟨decide_eq_true h1, decide_eq_true h2⟩

theorem keyReads (k : OpK) (h : okOpK k) : ∃ l, keyOf Tryd.prog 56 (opk k) = some l := by
  obtain ⟨f, g, hu, f1, g1, f2, g2, f3, g3⟩ := keyFields
  obtain ⟨m, hm⟩ := typesPos
  obtain ⟨⟨h1, h2⟩, h3⟩ := h
  have hw := int_wf h1 h2
  unfold keyOf
  simp only [hu]
  rw [if_pos (by simp [keyIs, opk, Value.formed, hu, keyCells]), hm]
  refine ⟨.string (keyBytes [.int .i64 k.1, .string k.2]), ?_⟩
  unfold Program.keyLits
  simp only [hu, opk, Value.cells]
  rw [if_pos ⟨by rw [keyCells]; rfl, by simp [f3, g3]⟩]
  simp only [List.mapM_cons, List.mapM_nil, f1, g1, f2, g2, intCells, stringCells]
  simp [Program.keyLits, Tryd.underlying3, Tryd.underlying9, hw, ByteArray.size, h3]
theorem opKE : KE Tryd.prog 56 opk okOpK := ⟨Keyed.of_law keyLaw, keyReads, opk_inj⟩
end Go.Proofs.YtiaajpfebcccfaaDoor
