import Derived.Test.YtjdnigepnfeboaaGreatDoorJG05
namespace Go.Proofs.YtjdnigepnfeboaaGreatDoor
open Go.RowKit
set_option maxRecDepth 100000
def tryC (k : Int) (t : TokIs) : Value := tryV (if t.kind = k then some (some t) else none)
section
variable (w : World) (x : Value) {s : List UInt8} {t : TokIs} (h : Suf s t)
include h
set_option maxHeartbeats 4000000 in
theorem stop_c : Calls Tryz.prog 40 #[x, .string ⟨s.toArray⟩] w fun e w' => e = .returned (tryC 7 t) ∧ Below w.heap.size w w' := by
 cases h
 all_goals
  go_enter Tryz.func40, Tryz.ntmps40
  go_wp2_with fail
  first
   | (refine bodyPost_ret ?_ rfl ⟨rfl, (Below.refl _ _).alloc (Nat.le_refl _) _⟩
      simp [results, Tryz.results40, go_sem, tryC, tryV, tokV]
      done)
   | (refine (sort_c _ _ 1 (by decide)).mono ?_
      rintro y w1 ⟨rfl, rfl⟩
      go_wp2_with fail
      refine bodyPost_ret ?_ rfl ⟨rfl, (Below.refl _ _).alloc (Nat.le_refl _) _⟩
      simp [results, Tryz.results40, go_sem, tryC, tryV, tokV]
      done)
set_option maxHeartbeats 4000000 in
theorem name_c (ht : t.kind ≠ 7) : Calls Tryz.prog 41 #[x, .string ⟨s.toArray⟩] w fun e w' => e = .returned (tryC 1 t) ∧ Below w.heap.size w w' := by
 cases h <;> first | (exact absurd rfl ht) | skip
 all_goals
  clear ht
  go_enter Tryz.func41, Tryz.ntmps41
  go_wp2_with fail
  first
   | refine (sort_c _ _ 2 (by decide)).mono ?_
   | refine (sort_c _ _ 3 (by decide)).mono ?_
   | refine (sort_c _ _ 4 (by decide)).mono ?_
   | refine (sort_c _ _ 7 (by decide)).mono ?_
  rintro y w1 ⟨rfl, rfl⟩
  go_wp2_with fail
  first
   | (refine bodyPost_ret ?_ rfl ⟨rfl, (Below.refl _ _).alloc (Nat.le_refl _) _⟩; simp [results, Tryz.results41, go_sem, tryC, tryV, tokV] <;> rfl)
   | (refine (word_c _ _ ⟨1, 0, [112], 1⟩ (by constructor) (.inl rfl)).mono ?_; rintro y w1 ⟨rfl, rfl⟩; go_wp2_with fail; (refine bodyPost_ret ?_ rfl ⟨rfl, (Below.refl _ _).alloc (Nat.le_refl _) _⟩; simp [results, Tryz.results41, go_sem, tryC, tryV, tokV] <;> rfl))
set_option maxHeartbeats 4000000 in
theorem named_c (ht : t.kind ≠ 7) : Calls Tryz.prog 42 #[x, .string ⟨s.toArray⟩] w fun e w' => e = .returned (tryC 4 t) ∧ Below w.heap.size w w' := by
 cases h <;> first | (exact absurd rfl ht) | skip
 all_goals
  clear ht
  go_enter Tryz.func42, Tryz.ntmps42
  go_wp2_with fail
  first
   | refine (sort_c _ _ 2 (by decide)).mono ?_
   | refine (sort_c _ _ 3 (by decide)).mono ?_
   | refine (sort_c _ _ 4 (by decide)).mono ?_
   | refine (sort_c _ _ 7 (by decide)).mono ?_
  rintro y w1 ⟨rfl, rfl⟩
  go_wp2_with fail
  first
   | (refine bodyPost_ret ?_ rfl ⟨rfl, (Below.refl _ _).alloc (Nat.le_refl _) _⟩; simp [results, Tryz.results42, go_sem, tryC, tryV, tokV] <;> rfl)
   | (refine (word_c _ _ ⟨4, 0, [88], 1⟩ (by constructor) (.inr rfl)).mono ?_; rintro y w1 ⟨rfl, rfl⟩; go_wp2_with fail; (refine bodyPost_ret ?_ rfl ⟨rfl, (Below.refl _ _).alloc (Nat.le_refl _) _⟩; simp [results, Tryz.results42, go_sem, tryC, tryV, tokV] <;> rfl))
set_option maxHeartbeats 4000000 in
theorem punct_c (ht : t.kind ≠ 7) : Calls Tryz.prog 45 #[x, .string ⟨s.toArray⟩] w fun e w' => e = .returned (tryC 6 t) ∧ Below w.heap.size w w' := by
 cases h <;> first | (exact absurd rfl ht) | skip
 all_goals
  clear ht
  go_enter Tryz.func45, Tryz.ntmps45
  go_wp2_with fail
  first
   | refine (sort_c _ _ 2 (by decide)).mono ?_
   | refine (sort_c _ _ 3 (by decide)).mono ?_
   | refine (sort_c _ _ 4 (by decide)).mono ?_
   | refine (sort_c _ _ 7 (by decide)).mono ?_
  rintro y w1 ⟨rfl, rfl⟩
  go_wp2_with fail
  (refine bodyPost_ret ?_ rfl ⟨rfl, (Below.refl _ _).alloc (Nat.le_refl _) _⟩; simp [results, Tryz.results45, go_sem, tryC, tryV, tokV] <;> rfl)
set_option maxHeartbeats 4000000 in
theorem quoted_c (ht : t.kind ≠ 7) : Calls Tryz.prog 44 #[x, .string ⟨s.toArray⟩] w fun e w' => e = .returned (tryC 2 t) ∧ Below w.heap.size w w' := by
 cases h <;> first | (exact absurd rfl ht) | skip
 all_goals
  clear ht
  go_enter Tryz.func44, Tryz.ntmps44
  go_wp2_with fail
  (refine bodyPost_ret ?_ rfl ⟨rfl, ((Below.refl _ _).alloc (Nat.le_refl _) _).alloc (by simp) _⟩; simp [results, Tryz.results44, go_sem, tryC, tryV, tokV])
end
end Go.Proofs.YtjdnigepnfeboaaGreatDoor
