/-
  DbOrder holds: for every row of bools and every row of bytes the law answers true, and each argument reads behind the call as it read before. No condition.
-/
import Derived.Test.YtiaajpfebcccfaaDbOrdW
import Derived.Test.YtiaajpfebcccfaaReadGen
import Derived.Deep.Grids
import Derived.HandedShaped
import Derived.Shelf.Vars
namespace Go.Proofs.Ytiaajpfebcccfaa.DbOrderP
set_option maxRecDepth 100000
open Go.ChangeShapes Go.WideShapes Go.ChangeAt Go.RowKit Go.Deep

theorem own : ownKnob Try.prog.godebug = none := by kernel_rfl
theorem laidOut : laidOutB Try.prog = true := by kernel_rfl
theorem params_ok : ∀ t ∈ Try.f3.params.toList, Try.prog.readableRec t = true ∧ t < Try.prog.types.size := by
  intro t ht
  have h : t ∈ [22, 23] := ht
  simp only [List.mem_cons, List.mem_nil_iff, or_false] at h
  rcases h with rfl | rfl
  · exact ⟨by kernel_rfl, of_decide_eq_true (by kernel_rfl)⟩
  · exact ⟨by kernel_rfl, of_decide_eq_true (by kernel_rfl)⟩

theorem one_of_trod {α H : Type} {enc : TypeId × Value → H} {W : World} {base : Nat} {sp : Nat → Bool} {held : Bool} {n : Nat} {v : Value} {y : DataW H × List MemPlace} {t e : TypeId} (f : α → Value) (ht : Try.prog.underlying t = some (.slice e)) (hc : Try.prog.cellsOf e = 1)
    (hel : ∀ (m : Nat) (u : Value) (z : DataW H × List MemPlace), DataW.trod enc Try.prog W base sp held m e [u] = some z → ∃ x, u = f x) (h : DataW.trod enc Try.prog W base sp held n t [v] = some y) :
    ∃ (A : Option Addr) (k c : Nat) (l : List α), v = .slice A k c ∧ OneAt W W.heap.size f A k l ∧ k ≤ maxLen := by
  rcases open_slice1 ht hc h with ⟨h0, _⟩ | ⟨a, len, cap, m, n', V, D, Pl, hcs, _, hlc, hcm, hm, _, hx⟩
  · obtain rfl : v = .slice none 0 0 := by simpa using h0
    exact ⟨none, 0, 0, [], rfl, ⟨rfl, fun i x h => by simp at h⟩, by simp [maxLen]⟩
  · obtain rfl : v = .slice (some a) len cap := by simpa using hcs
    have hlm : len ≤ m := by rw [hm]; split <;> omega
    have key : ∀ i, i < len → ∃ x : α, ∃ b off, (some a : Option Addr) = some ⟨b, off, none⟩ ∧ b < W.heap.size ∧ W.cell? ⟨b, off + i, none⟩ = some (f x) := by
      intro i hi
      have h00 := (hx 0 (by omega)).1
      rw [show a.add 0 = a by simp [Addr.add]] at h00
      have ha := addr_of_cell h00
      obtain ⟨h1, h2⟩ := hx i (by omega)
      obtain ⟨x, hxx⟩ := hel _ _ _ h2
      rw [ha, add_lit'] at h1
      exact ⟨x, a.block, a.off, by rw [← ha], World.block_lt_of_cell? W ⟨a.block, a.off + i, none⟩ h1, by rw [h1, hxx]⟩
    obtain ⟨l, hl, hq⟩ := exists_list len key
    exact ⟨some a, len, cap, l, rfl, ⟨hl, fun i x hx => hq i x hx⟩, by omega⟩
theorem bools_of_trod {H : Type} {enc : TypeId × Value → H} {W : World} {base : Nat} {sp : Nat → Bool} {held : Bool} {n : Nat} {v : Value} {y : DataW H × List MemPlace} (h : DataW.trod enc Try.prog W base sp held n 22 [v] = some y) :
    ∃ (A : Option Addr) (k c : Nat) (l : List Bool), v = .slice A k c ∧ OneAt W W.heap.size encB A k l ∧ k ≤ maxLen :=
  one_of_trod encB Try.underlying22 (by kernel_rfl) (fun m u z hz => by
    obtain ⟨b, hb, _⟩ := DataW.trod_bool Try.underlying4 hz
    have hu : u = .bool b := by simpa using hb
    exact ⟨b, hu⟩) h
theorem bytes_of_trod {H : Type} {enc : TypeId × Value → H} {W : World} {base : Nat} {sp : Nat → Bool} {held : Bool} {n : Nat} {v : Value} {y : DataW H × List MemPlace} (h : DataW.trod enc Try.prog W base sp held n 23 [v] = some y) :
    ∃ (A : Option Addr) (k c : Nat) (l : List UInt8), v = .slice A k c ∧ OneAt W W.heap.size encU A k l ∧ k ≤ maxLen :=
  one_of_trod encU Try.underlying23 (by kernel_rfl) (fun m u z hz => by
    obtain ⟨p, hp, _, hw⟩ := DataW.trod_int Try.underlying5 hz
    have hb := bounds_u8 hw
    refine ⟨UInt8.ofNat p.toNat, ?_⟩
    have hu : u = .int .u8 p := by simpa using hp
    rw [hu]
    unfold encU
    congr 1
    simp only [UInt8.toNat_ofNat']
    omega) h

theorem walk (W : World) (v0 v1 : Value) (A1 A2 : Option Addr) (n c1 m c2 : Nat) (e0 : v0 = .slice A1 n c1) (e1 : v1 = .slice A2 m c2) (l : List Bool) (r : List UInt8) (hn : n ≤ maxLen) (hm : m ≤ maxLen) (h1 : OneAt W W.heap.size encB A1 n l) (h2 : OneAt W W.heap.size encU A2 m r) :
    Calls Try.prog 3 #[v0, v1] W fun e w' => e = .returned (.bool true) ∧ Below W.heap.size W w' := by
  subst e0 e1
  unfold maxLen at hn hm
  exact order_any W A1 A2 n c1 m c2 l r (by omega) (by omega) h1 h2

theorem lifted (os : Os) (started : os.Started) (H : Type) (enc : TypeId × Value → H) :
    ReturnsInHanded {} Try.checked os 3 .any (Rows.dbOrderSpec.pre6 enc Try.prog Try.f3 Rows.dbOrderRow.domain false) (Rows.dbOrderSpec.post enc Try.prog Try.f3 false true false false) := by
  refine returnsInHanded_of_change_shaped (C := Try.checked) own started (by kernel_rfl) Try.func3
    (ChangeSpec.witness6 (enc := enc) (C := Try.checked) false ⟨#[], #[.slice none 0 0, .slice none 0 0], []⟩ 8 (by kernel_rfl) (by kernel_rfl) (by kernel_rfl) (by kernel_rfl)) ?_
  intro W base args ds gs before hval0 hW _ _ _ _
  have hval : ∀ (j : Nat) t v, Try.f3.params[j]? = some t → args[j]? = some v → Value.okWide Try.prog W .any base t v := hval0
  have hW' := hW
  obtain ⟨p, q, hA0, hV, rfl, hfz, hnd⟩ := hW
  have hA : DataW.TrodAll enc Try.prog W 0 (fun _ => true) true Try.f3.params.toList args.toList ds p := hA0
  rw [Try.params3] at hA hval
  obtain ⟨v0, v1, d0, d1, p0, p1, rfl, rfl, rfl, h0, h1⟩ := trodAll_two hA
  obtain ⟨rfl, rfl⟩ := trodVars_none hV
  obtain ⟨A0, n0, c0, hv0⟩ := okWide_slice Try.underlying22 (hval 0 22 v0 rfl rfl)
  obtain ⟨A1, n1, c1, hv1⟩ := okWide_slice Try.underlying23 (hval 1 23 v1 rfl rfl)
  obtain ⟨fuel0, h0⟩ := h0
  obtain ⟨fuel1, h1⟩ := h1
  subst hv0 hv1
  obtain ⟨B0, k0, e0, l, hq0, ha0, hl0⟩ := bools_of_trod (v := .slice A0 n0 c0) h0
  obtain ⟨B1, k1, e1, r, hq1, ha1, hl1⟩ := bytes_of_trod (v := .slice A1 n1 c1) h1
  refine (walk W _ _ B0 B1 k0 e0 k1 e1 hq0 hq1 l r hl0 hl1 ha0 ha1).mono fun e W' ⟨he, hb⟩ => ?_
  subst he
  exact ⟨_, rfl, law_post laidOut Try.underlying4 rfl rfl hW' hb params_ok rfl rfl rfl⟩

theorem said : Rows.DbOrderSaid :=
  OpenClaim.holds_of_wide 3 Try.f3 rfl rfl rfl rfl rfl rfl rfl ⟨rfl, rfl, rfl, rfl, rfl⟩ rfl rfl rfl rfl rfl (by kernel_rfl) Try.func3 (by kernel_rfl)
    (of_decide_eq_true (by kernel_rfl)) (by unfold Func.isWrapper; first | (rw [if_pos (by decide +kernel)]; kernel_rfl) | (rw [if_neg (by decide +kernel)]; exact ⟨rfl, rfl⟩))
    (fun os started H enc _ => lifted os started H enc)
end Go.Proofs.Ytiaajpfebcccfaa.DbOrderP
