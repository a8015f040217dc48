/-
  What the document's Same answers of two slices that read as one list: true. Condition: the list has fewer than 2^62 elements.
-/
import Derived.Test.YtiaajpfebcccfaaDoorSortRow
import Derived.Test.YtiaajpfebcccfaaDoorTab
import Derived.LoopTactic
namespace Go.Proofs.YtiaajpfebcccfaaDoor
open Go.RowKit Go.Maps Go.Lib Go.Sort
set_option maxRecDepth 100000

set_option maxHeartbeats 1000000 in
theorem same_any (w : World) (B : Nat) (v1 v2 : Value) (l : List DefT) (h1 : SlAt w B 3 encDef v1 l) (h2 : SlAt w B 3 encDef v2 l) (hn : l.length < 4611686018427387904) :
    Calls Tryd.prog 19 #[v1, v2] w fun e w' => e = .returned (.bool true) ∧ Below w.heap.size w w' := by
  obtain ⟨A1, cap1, rfl, hA1⟩ := h1.shape
  obtain ⟨A2, cap2, rfl, hA2⟩ := h2.shape
  have HA1 := Lib.hid hA1
  have HA2 := Lib.hid hA2
  clear h1 h2 hA1 hA2
  go_enter Tryd.func19, Tryd.ntmps19
  go_wp2_with fail
  go_loopw [13] (fun i wr => ∃ k nq : Nat, k ≤ l.length ∧ i = .int .i64 k ∧ wr = w.drewN nq) (fun i _ => l.length - (intOf i).toNat)
  case atStart => exact ⟨0, 0, Nat.zero_le _, rfl, rfl⟩
  case round =>
    obtain ⟨k, nq, hk, rfl, rfl⟩ := hrel
    by_cases hlt : k < l.length
    · have hne : l ≠ [] := by rintro rfl; simp at hlt
      obtain ⟨b1, o1, e1, hb1, hc1⟩ := HA1.out hne
      obtain ⟨b2, o2, e2, hb2, hc2⟩ := HA2.out hne
      have hx := List.getElem?_eq_getElem hlt
      generalize l[k] = x at hx
      have c0 := hc1 k x hx 0 _ rfl
      have c1 := hc1 k x hx 1 _ rfl
      have c2 := hc1 k x hx 2 _ rfl
      have d0 := hc2 k x hx 0 _ rfl
      have d1 := hc2 k x hx 1 _ rfl
      have d2 := hc2 k x hx 2 _ rfl
      simp only [Nat.add_zero] at c0 d0
      have hlt' : (k : Int) < (l.length : Int) := by omega
      clear hc1 hc2 hx
      subst e1 e2
      go_wp2_with fail
      go_quiet (fail)
      go_wp2
      go_roundw
      case rel => exact ⟨k + 1, _, hlt, by go_num, rfl⟩
      case measure => simp [intOf]; omega
    · have hkn : k = l.length := by omega
      subst hkn
      go_wp2
      go_ret
      exact ⟨rfl, rfl, rfl, rfl, Nat.le_refl _, fun _ _ => rfl⟩
end Go.Proofs.YtiaajpfebcccfaaDoor
