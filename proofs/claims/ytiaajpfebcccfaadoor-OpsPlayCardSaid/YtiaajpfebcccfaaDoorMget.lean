/-
  Looking up behind a store or a deletion in a typed map: plain laws, no condition.
-/
import Derived.Test.YtiaajpfebcccfaaDoorTabOp
namespace Go.Proofs.YtiaajpfebcccfaaDoor
section
variable {κ ν : Type} [DecidableEq κ]
theorem mget_nil (k : κ) : mget ([] : List (κ × ν)) k = none := rfl
theorem mget_cons (y : κ × ν) (r : List (κ × ν)) (k : κ) : mget (y :: r) k = if y.1 = k then some y.2 else mget r k := by
  unfold mget
  rw [List.find?_cons]
  by_cases e : y.1 = k <;> simp [e]
theorem mget_append (l r : List (κ × ν)) (k : κ) : mget (l ++ r) k = (mget l k).or (mget r k) := by
  unfold mget
  rw [List.find?_append]
  cases l.find? (fun x => decide (x.1 = k)) <;> simp
theorem mget_map_put (l : List (κ × ν)) (k k' : κ) (v : ν) : mget (l.map (fun x => if x.1 = k then (k, v) else x)) k' = if k' = k then (mget l k).map (fun _ => v) else mget l k' := by
  induction l with
  | nil => by_cases e : k' = k <;> simp [mget_nil, e]
  | cons y r ih =>
    rw [List.map_cons, mget_cons, ih, mget_cons, mget_cons]
    by_cases e : y.1 = k
    · by_cases e2 : k' = k
      · subst e2; simp [e]
      · have e3 : ¬ k = k' := fun h => e2 h.symm
        simp [e, e2, e3]
    · by_cases e2 : k' = k
      · subst e2; simp [e]
      · simp [e, e2]
theorem mget_mput_same (l : List (κ × ν)) (k : κ) (v : ν) : mget (mput l k v) k = some v := by
  unfold mput
  split
  · rename_i h
    rw [mget_map_put, if_pos rfl]
    obtain ⟨x, hx⟩ := Option.isSome_iff_exists.1 h
    rw [hx]
    rfl
  · rename_i h
    have hn : mget l k = none := by simpa using h
    rw [mget_append, hn, mget_cons]
    simp
theorem mget_mput_other (l : List (κ × ν)) (k k' : κ) (v : ν) (h : k' ≠ k) : mget (mput l k v) k' = mget l k' := by
  unfold mput
  split
  · rw [mget_map_put, if_neg h]
  · have : ¬ k = k' := fun e => h e.symm
    rw [mget_append, mget_cons, mget_nil, if_neg this]
    simp
theorem mget_mdel_same (l : List (κ × ν)) (k : κ) : mget (mdel l k) k = none :=
  mget_none fun x hx => by simpa using (List.mem_filter.1 hx).2
theorem mget_mdel_other (l : List (κ × ν)) (k k' : κ) (h : k' ≠ k) : mget (mdel l k) k' = mget l k' := by
  unfold mdel mget
  induction l with
  | nil => rfl
  | cons y r ih =>
    by_cases e : y.1 = k
    · have e1 : ¬ y.1 = k' := fun e2 => h (e2.symm.trans e)
      rw [List.filter_cons_of_neg (by simpa using e), List.find?_cons_of_neg (by simpa using e1)]
      exact ih
    · rw [List.filter_cons_of_pos (by simpa using e)]
      by_cases e1 : y.1 = k'
      · simp [e1]
      · rw [List.find?_cons_of_neg (by simpa using e1), List.find?_cons_of_neg (by simpa using e1)]
        exact ih
end
end Go.Proofs.YtiaajpfebcccfaaDoor
