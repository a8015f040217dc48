import Derived.Test.YtjdnigepnfeboaaGreatDoorJG03
import Derived.WalkSpells
import Derived.Handy
namespace Go.Proofs.YtjdnigepnfeboaaGreatDoor
open Go.RowKit Go.Maps
set_option maxRecDepth 100000
abbrev OpK := Int × List UInt8
abbrev OpV := Int × Int
def opk (k : OpK) : Value := .agg #[.int .i64 k.1, .string ⟨k.2.toArray⟩]
def opv (v : OpV) : Value := .agg #[.int .i64 v.1, .int .i64 v.2]
def okOpK (k : OpK) : Prop := (-9223372036854775808 ≤ k.1 ∧ k.1 ≤ 9223372036854775807) ∧ k.2.length ≤ maxLen
theorem opk_inj (a b : OpK) (h : opk a = opk b) : a = b := by
 obtain ⟨a1, a2⟩ := a
 obtain ⟨b1, b2⟩ := b
 simp [opk] at h
 rw [h.1, h.2]
theorem tabLaid : laidOutB Tryz.prog = true := by kernel_rfl
theorem keyRow : (86 : TypeId) < Tryz.prog.types.size := of_decide_eq_true (by kernel_rfl)
theorem keyWide : (match Tryz.prog.underlying 86 with | some (.array _ _) | some (.struct _) => true | _ => false) = true := by kernel_rfl
theorem keyLaw : WideMaps.KeyLaw Tryz.prog 86 := deep_law_laid tabLaid (m := 2) (by omega) keyRow (by kernel_rfl) keyWide
theorem keyIs : Tryz.prog.keyType 86 = true := by kernel_rfl
theorem keyFields : ∃ f g, Tryz.prog.underlying 86 = some (.struct #[f, g]) ∧ f.type = 3 ∧ g.type = 9 ∧ f.offset = 0 ∧ g.offset = 1 ∧ (f.name != "_") = true ∧ (g.name != "_") = true := ⟨_, _, Tryz.underlying86, rfl, rfl, rfl, rfl, by decide, by decide⟩
theorem keyCells : Tryz.prog.cellsOf 86 = 2 := by kernel_rfl
theorem intCells : Tryz.prog.cellsOf 3 = 1 := by kernel_rfl
theorem stringCells : Tryz.prog.cellsOf 9 = 1 := by kernel_rfl
theorem typesPos : ∃ m, Tryz.prog.types.size = m + 1 := ⟨Tryz.prog.types.size - 1, (Nat.succ_pred_eq_of_pos (Nat.lt_of_le_of_lt (Nat.zero_le _) keyRow)).symm⟩
theorem int_wf {a : Int} (h1 : -9223372036854775808 ≤ a) (h2 : a ≤ 9223372036854775807) : (Lit.int .i64 a).wf = true := by
 have e1 : IntKind.i64.min = -9223372036854775808 := by decide
 have e2 : IntKind.i64.max = 9223372036854775807 := by decide
 simp only [Lit.wf, Bool.and_eq_true, e1, e2]
 exact ⟨decide_eq_true h1, decide_eq_true h2⟩
theorem keyReads (k : OpK) (h : okOpK k) : ∃ l, keyOf Tryz.prog 86 (opk k) = some l := by
 obtain ⟨f, g, hu, f1, g1, f2, g2, f3, g3⟩ := keyFields
 obtain ⟨m, hm⟩ := typesPos
 obtain ⟨⟨h1, h2⟩, h3⟩ := h
 have hw := int_wf h1 h2
 unfold keyOf
 simp only [hu]
 rw [if_pos (by simp [keyIs, opk, Value.formed, hu, keyCells]), hm]
 refine ⟨.string (keyBytes [.int .i64 k.1, .string k.2]), ?_⟩
 unfold Program.keyLits
 simp only [hu, opk, Value.cells]
 rw [if_pos ⟨by rw [keyCells]; rfl, by simp [f3, g3]⟩]
 simp only [List.mapM_cons, List.mapM_nil, f1, g1, f2, g2, intCells, stringCells]
 simp [Program.keyLits, Tryz.underlying3, Tryz.underlying9, hw, ByteArray.size, h3]
theorem opKE : KE Tryz.prog 86 opk okOpK := ⟨Keyed.of_law keyLaw, keyReads, opk_inj⟩
def kSort (t : Int) : Int := if t ≤ 0 then 0 else if t ≤ 3 then 2 else if t ≤ 5 then 1 else 3
def kLeft (t : Int) : Int := if t = 1 ∨ t = 2 ∨ t = 6 then 1 else 0
def kRight (t : Int) : Int := if t = 1 ∨ t = 3 ∨ t = 4 then 1 else 0
theorem kSort_bd (t : Int) : 0 ≤ kSort t ∧ kSort t ≤ 3 := by unfold kSort; repeat' split <;> omega
def KindsAt (w : World) : Prop := ∀ t : Nat, t ≤ 7 → w.cell? ⟨0, t * 3, none⟩ = some (.int .i64 (kSort t)) ∧ w.cell? ⟨0, t * 3 + 1, none⟩ = some (.int .i64 (kLeft t)) ∧ w.cell? ⟨0, t * 3 + 2, none⟩ = some (.int .i64 (kRight t))
theorem KindsAt.lt {w : World} (h : KindsAt w) : 0 < w.heap.size := World.block_lt_of_cell? w _ (h 0 (by omega)).1
theorem KindsAt.keep {w w' : World} (h : KindsAt w) (hb : w'.heap[0]? = w.heap[0]?) : KindsAt w' := fun t ht => by
 obtain ⟨a, b, c⟩ := h t ht
 exact ⟨(World.cell?_of_block (a := ⟨0, t * 3, none⟩) hb).trans a, (World.cell?_of_block (a := ⟨0, t * 3 + 1, none⟩) hb).trans b, (World.cell?_of_block (a := ⟨0, t * 3 + 2, none⟩) hb).trans c⟩
theorem KindsAt.below {w w' : World} {B : Nat} (h : KindsAt w) (hb : Below B w w') (hB : 0 < B) : KindsAt w' := h.keep (hb.block _ hB)
def goodOp (x : OpK × OpV) : Prop := x.1.1 = kSort x.2.2 ∧ x.1.2.length ≤ 1000 ∧ 1 ≤ x.2.1 ∧ x.2.1 ≤ 1200 ∧ 1 ≤ x.2.2 ∧ x.2.2 ≤ 7
theorem goodOp.ok {x : OpK × OpV} (h : goodOp x) : okOpK x.1 := by
 obtain ⟨h1, h2, _⟩ := h
 have := kSort_bd x.2.2
 unfold okOpK maxLen
 omega
structure TabAt (w : World) (bt bm : Nat) (es : List (OpK × OpV)) : Prop where
 cell : w.cell? ⟨bt, 0, none⟩ = some (.map (some bm))
 map : MapAt w bm opk opv es
 good : ∀ x ∈ es, goodOp x
theorem TabAt.ok {w : World} {bt bm : Nat} {es : List (OpK × OpV)} (h : TabAt w bt bm es) : ∀ x ∈ es, okOpK x.1 := fun x hx => (h.good x hx).ok
theorem TabAt.lt {w : World} {bt bm : Nat} {es : List (OpK × OpV)} (h : TabAt w bt bm es) : bt < w.heap.size := World.block_lt_of_cell? w _ h.cell
theorem TabAt.keep {w w' : World} {bt bm : Nat} {es : List (OpK × OpV)} (h : TabAt w bt bm es) (h1 : w'.heap[bt]? = w.heap[bt]?) (h2 : w'.heap[bm]? = w.heap[bm]?) : TabAt w' bt bm es :=
 ⟨(World.cell?_of_block (a := ⟨bt, 0, none⟩) h1).trans h.cell, h.map.keep h2, h.good⟩
theorem TabAt.below {w w' : World} {bt bm B : Nat} {es : List (OpK × OpV)} (h : TabAt w bt bm es) (hb : Below B w w') (h1 : bt < B) (h2 : bm < B) : TabAt w' bt bm es := h.keep (hb.block _ h1) (hb.block _ h2)
theorem TabAt.later {w w' : World} {bt bm : Nat} {es : List (OpK × OpV)} (h : TabAt w bt bm es) (hb : Below w.heap.size w w') : TabAt w' bt bm es := h.below hb h.lt h.map.lt
theorem KindsAt.later {w w' : World} (h : KindsAt w) (hb : Below w.heap.size w w') : KindsAt w' := h.below hb h.lt
def tsides (es : List (OpK × OpV)) (s : Int) (n : List UInt8) : Int × Int × Int :=
 match mget es (s, n) with
 | some (p, t) => (p, p - kLeft t, p - kRight t)
 | none => (0, 0, 0)
end Go.Proofs.YtjdnigepnfeboaaGreatDoor
