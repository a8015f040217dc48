/-
  What the document's Sort answers; what the table's sides and Op's errors say of a look-up. No condition.
-/
import Derived.Test.YtiaajpfebcccfaaDoorOpsA
import Derived.Test.YtiaajpfebcccfaaDoorMget
namespace Go.Proofs.YtiaajpfebcccfaaDoor
open Go.RowKit Go.Maps
set_option maxRecDepth 100000

def refSort (t : Int) : Int := if t ≤ 3 then 2 else if t ≤ 5 then 1 else 3
theorem refSort_kSort (t : Int) (h : 1 ≤ t) : refSort t = kSort t := by unfold refSort kSort; split <;> (try split) <;> (try split) <;> omega

set_option maxHeartbeats 400000 in
theorem refSort_any (w : World) (t : Int) : Calls Tryd.prog 23 #[.int .i64 t] w fun e w' => e = .returned (.int .i64 (refSort t)) ∧ w = w' := by
  unfold refSort
  by_cases h1 : t ≤ 3
  · rw [if_pos h1]
    go_enter Tryd.func23, Tryd.ntmps23
    go_wp2
    go_ret
    exact ⟨rfl, rfl⟩
  · rw [if_neg h1]
    by_cases h2 : t ≤ 5
    · rw [if_pos h2]
      go_enter Tryd.func23, Tryd.ntmps23
      go_wp2
      go_ret
      exact ⟨rfl, rfl⟩
    · rw [if_neg h2]
      go_enter Tryd.func23, Tryd.ntmps23
      go_wp2
      go_ret
      exact ⟨rfl, rfl⟩

theorem tsides_put_other (es : List (OpK × OpV)) (s s' : Int) (n n' : List UInt8) (v : OpV) (h : n' ≠ n ∨ s' ≠ s) : tsides (mput es (s, n) v) s' n' = tsides es s' n' := by
  unfold tsides
  rw [mget_mput_other]
  rintro e
  cases e
  rcases h with h | h <;> exact h rfl
theorem tsides_put_same (es : List (OpK × OpV)) (s : Int) (n : List UInt8) (v : OpV) : tsides (mput es (s, n) v) s n = (v.1, v.1 - kLeft v.2, v.1 - kRight v.2) := by
  unfold tsides
  rw [mget_mput_same]
theorem tsides_none {es : List (OpK × OpV)} {s : Int} {n : List UInt8} (h : mget es (s, n) = none) : tsides es s n = (0, 0, 0) := by
  unfold tsides
  rw [h]

/-- Behind an Op of a priority that was taken. -/
theorem opErr_zero {es : List (OpK × OpV)} {p t : Int} {n : List UInt8} (h : opErr es p t n = 0) (hp : 1 ≤ p) :
    opTab es p t n = mput es (kSort t, n) (p, t) ∧ 1 ≤ t ∧ t ≤ 7 ∧ (kSort t = 2 → mget es (3, n) = none) ∧ (kSort t = 3 → mget es (2, n) = none) := by
  have h' := h
  unfold opErr at h
  split at h
  · cases h
  rename_i h1
  split at h
  · cases h
  split at h
  · omega
  split at h
  · cases h
  rename_i h4
  refine ⟨by unfold opTab; rw [h', if_neg (by simp), if_neg (by omega)], by omega, by omega, ?_, ?_⟩
  · intro e
    simp only [e, true_and, not_or] at h4
    simpa using h4.1
  · intro e
    simp only [e, true_and, not_or] at h4
    simpa using h4.2

end Go.Proofs.YtiaajpfebcccfaaDoor
