/-
  How List's sort compares two definitions: by name, then by type. No condition.
-/
import Derived.Test.YtiaajpfebcccfaaDoorEncDef
import Derived.Test.YtiaajpfebcccfaaDoorShelfO
import Derived.Shelf.SlSortCmp.InsertionK
import Derived.StillTailTactics
import Derived.Handy
namespace Go.Proofs.YtiaajpfebcccfaaDoor
open Go.RowKit Go.Maps Go.Lib
set_option maxRecDepth 100000

set_option maxHeartbeats 400000 in
theorem cmpOr_first (w : World) (g : Nat) (c1 : Int) (h1 : w.cell? ⟨g, 0, none⟩ = some (.int .i64 c1)) (hz : ¬ c1 = 0) :
    Calls Tryd.prog 31 #[.slice (some ⟨g, 0, none⟩) 2 2] w fun e w' => e = .returned (.int .i64 c1) ∧ w = w' := by
  have hz' : (c1 == 0) = false := by simpa using hz
  go_enter Tryd.func31, Tryd.ntmps31
  go_wp2_with fail
  refine wp_loop_rounds 1 ?_
  rw [rounds_succ]
  go_wp2
  go_ret
  exact ⟨rfl, rfl⟩

set_option maxHeartbeats 400000 in
theorem cmpOr_second (w : World) (g : Nat) (c2 : Int) (h1 : w.cell? ⟨g, 0, none⟩ = some (.int .i64 0)) (h2 : w.cell? ⟨g, 1, none⟩ = some (.int .i64 c2)) :
    Calls Tryd.prog 31 #[.slice (some ⟨g, 0, none⟩) 2 2] w fun e w' => e = .returned (.int .i64 c2) ∧ w = w' := by
  by_cases hz : c2 = 0
  · subst hz
    go_enter Tryd.func31, Tryd.ntmps31
    go_wp2_with fail
    refine wp_loop_rounds 3 ?_
    rw [rounds_succ]
    go_wp2
    rw [rounds_succ]
    go_wp2
    rw [rounds_succ]
    go_wp2
    go_ret
    exact ⟨rfl, rfl⟩
  · have hz' : (c2 == 0) = false := by simpa using hz
    go_enter Tryd.func31, Tryd.ntmps31
    go_wp2_with fail
    refine wp_loop_rounds 2 ?_
    rw [rounds_succ]
    go_wp2
    rw [rounds_succ]
    go_wp2
    go_ret
    exact ⟨rfl, rfl⟩

def firstOf (c1 c2 : Int) : Int := if c1 ≠ 0 then c1 else c2
theorem cmpOr_any (w : World) (g : Nat) (c1 c2 : Int) (h1 : w.cell? ⟨g, 0, none⟩ = some (.int .i64 c1)) (h2 : w.cell? ⟨g, 1, none⟩ = some (.int .i64 c2)) :
    Calls Tryd.prog 31 #[.slice (some ⟨g, 0, none⟩) 2 2] w fun e w' => e = .returned (.int .i64 (firstOf c1 c2)) ∧ w = w' := by
  unfold firstOf
  by_cases hz : c1 = 0
  · subst hz
    exact cmpOr_second w g c2 h1 h2
  · rw [if_pos hz]
    exact cmpOr_first w g c1 h1 hz

theorem cell_third (w : World) (a b : Obj) (cs : Array Value) (t : TypeId) (i : Nat) (u : Value) (h : cs[i]? = some u) :
    ((((w.alloc a).alloc b).alloc (.cells cs t)).drew).cell? ⟨w.heap.size + 1 + 1, i, none⟩ = some u := by
  have hb : ((((w.alloc a).alloc b).alloc (.cells cs t)).drew).heap[w.heap.size + 1 + 1]? = some (.cells cs t (0, 0)) := by
    have := heap_alloc_new ((w.alloc a).alloc b) (.cells cs t)
    have e : ((w.alloc a).alloc b).heap.size = w.heap.size + 1 + 1 := by simp
    rw [e] at this
    exact this
  rw [cell_of_row _ _ i cs t (0, 0) hb]
  exact h

set_option maxHeartbeats 1000000 in
theorem defCmp_any (w : World) (x y : DefT) : Calls Tryd.prog 30 #[.agg (encDef x).toArray, .agg (encDef y).toArray] w fun e w' => e = .returned (.int .i64 (defCmp x y)) ∧ ∃ q os', w' = Sort.grow (w.drewN q) os' := by
  have hs : ∀ W, Calls Tryd.prog 32 #[.string ⟨x.2.2.toArray⟩, .string ⟨y.2.2.toArray⟩] W fun e w' => e = .returned (.int .i64 (compareBytes x.2.2 y.2.2)) ∧ w' = W := fun W => Tryd.strings_Compare _ _ W
  have hi : ∀ W, Calls Tryd.prog 33 #[.int .i64 x.2.1, .int .i64 y.2.1] W fun e w' => e = .returned (.int .i64 (compareInt x.2.1 y.2.1)) ∧ w' = W := fun W => Tryd.cmp_Compare_int _ _ W
  have e0 : defCmp x y = firstOf (compareBytes x.2.2 y.2.2) (compareInt x.2.1 y.2.1) := rfl
  rw [e0]
  generalize compareBytes x.2.2 y.2.2 = r1 at *
  generalize compareInt x.2.1 y.2.1 = r2 at *
  unfold encDef
  obtain ⟨W, hW⟩ : ∃ W, W = (((w.alloc (.cells #[.int .i64 x.1, .int .i64 x.2.1, .string ⟨x.2.2.toArray⟩] 67)).alloc (.cells #[.int .i64 y.1, .int .i64 y.2.1, .string ⟨y.2.2.toArray⟩] 67)).drew) := ⟨_, rfl⟩
  have f1 : W.cell? ⟨w.heap.size, 1, none⟩ = some (.int .i64 x.2.1) := by rw [hW]; simp
  have f2 : W.cell? ⟨w.heap.size, 2, none⟩ = some (.string ⟨x.2.2.toArray⟩) := by rw [hW]; simp
  have f3 : W.cell? ⟨w.heap.size + 1, 1, none⟩ = some (.int .i64 y.2.1) := by rw [hW]; simp
  have f4 : W.cell? ⟨w.heap.size + 1, 2, none⟩ = some (.string ⟨y.2.2.toArray⟩) := by rw [hW]; simp
  go_enter Tryd.func30, Tryd.ntmps30
  go_wp2_with fail
  refine wp_region_still_tail 10 (by kernel_rfl) (by kernel_rfl) ?_
  simp only [List.take_succ_cons, List.take_zero, List.drop_succ_cons, List.drop_zero]
  change wpStill _ _ (((w.alloc _).alloc _).drew) (fun a' => wpList _ _ _ _ a' (((w.alloc _).alloc _).drew)) _ _
  rw [← hW]
  repeat still_step
  still_call (hs _)
  repeat still_step
  still_call (hi _)
  refine wpStill_nil ?_
  go_wp2_with fail
  refine (cmpOr_any _ _ r1 r2 (cell_third _ _ _ _ _ 0 _ rfl) (cell_third _ _ _ _ _ 1 _ rfl)).mono ?_
  rintro e w' ⟨rfl, rfl⟩
  go_wp2_with fail
  go_ret
  exact ⟨rfl, 1, _, by rw [Sort.alloc_eq_grow, Sort.alloc_eq_grow, Sort.alloc_eq_grow, Sort.grow_grow, Sort.grow_grow]; rfl⟩
end Go.Proofs.YtiaajpfebcccfaaDoor
