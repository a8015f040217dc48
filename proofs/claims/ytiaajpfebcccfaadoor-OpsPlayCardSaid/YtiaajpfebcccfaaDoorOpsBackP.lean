/-
  Plain laws behind OpsBack: the table stays small; what was made is listed once; unmade, all is as it was. No condition.
-/
import Derived.Test.YtiaajpfebcccfaaDoorDefOrd
import Derived.Test.YtiaajpfebcccfaaDoorRefSort
namespace Go.Proofs.YtiaajpfebcccfaaDoor
open Go.Lib

theorem mput_len {κ ν : Type} [DecidableEq κ] (l : List (κ × ν)) (k : κ) (v : ν) : (mput l k v).length = if (mget l k).isSome then l.length else l.length + 1 := by
  unfold mput
  split <;> simp
theorem mdel_len {κ ν : Type} [DecidableEq κ] (l : List (κ × ν)) (k : κ) : (mdel l k).length ≤ l.length := List.length_filter_le _ _
theorem mdel_mput {κ ν : Type} [DecidableEq κ] (l : List (κ × ν)) (k : κ) (v : ν) (h : mget l k = none) : mdel (mput l k v) k = l := by
  unfold mput mdel
  rw [h]
  simp only [Option.isSome_none, Bool.false_eq_true, if_false, List.filter_append]
  rw [List.filter_eq_self.2 (by intro x hx; simpa using mget_eq_none h x hx)]
  simp

theorem opTab_len (es : List (OpK × OpV)) (p t : Int) (n : List UInt8) (h : es.length ≤ 256) : (opTab es p t n).length ≤ 256 := by
  unfold opTab
  by_cases h0 : opErr es p t n = 0
  · rw [if_neg (by simp [h0])]
    by_cases hp : p = 0
    · rw [if_pos hp]
      exact Nat.le_trans (mdel_len _ _) h
    · rw [if_neg hp, mput_len]
      split
      · exact h
      · rename_i hs
        unfold opErr at h0
        split at h0
        · cases h0
        split at h0
        · cases h0
        split at h0
        · cases h0
        split at h0
        · cases h0
        · rename_i hf
          simp only [not_and] at hf
          have : ¬ 256 ≤ es.length := fun hh => hf hh (by simpa using hs)
          omega
  · rw [if_pos h0]
    exact h
theorem init_len : opsInit.length ≤ 256 := by decide +kernel
theorem defs_nodup {es : List (OpK × OpV)} (hd : (es.map (·.1)).Nodup) (hg : ∀ x ∈ es, goodOp x) : (es.map defOf).Nodup := by
  unfold List.Nodup at *
  rw [List.pairwise_map] at *
  refine List.Pairwise.imp_of_mem ?_ hd
  intro x y hx hy h e
  apply h
  obtain ⟨g1, _⟩ := hg x hx
  obtain ⟨g2, _⟩ := hg y hy
  unfold defOf at e
  simp only [Prod.mk.injEq] at e
  exact Prod.ext (by rw [g1, g2, e.2.1]) e.2.2
theorem count_one {α : Type} [BEq α] [LawfulBEq α] : ∀ (l : List α) (a : α), l.Nodup → a ∈ l → l.count a = 1
  | [], a, _, h => by cases h
  | b :: r, a, hd, h => by
    rw [List.nodup_cons] at hd
    rw [List.count_cons]
    by_cases e : b = a
    · subst e
      rw [List.count_eq_zero_of_not_mem hd.1]
      simp
    · have : a ∈ r := by
        rcases List.mem_cons.1 h with h | h
        · exact absurd h.symm e
        · exact h
      rw [count_one r a hd.2 this]
      simp [e]
theorem made_once {es : List (OpK × OpV)} (hd : (es.map (·.1)).Nodup) (hg : ∀ x ∈ es, goodOp x) {p t : Int} {n : List UInt8} (h : mget es (kSort t, n) = some (p, t)) {L : List DefT} (hL : L.Perm (es.map defOf)) : L.count (p, t, n) = 1 := by
  rw [hL.count_eq]
  exact count_one _ _ (defs_nodup hd hg) (List.mem_map.2 ⟨_, mget_mem h, rfl⟩)

/-- Whether the law's list has one of that name and sort. -/
def oldIn (k : Int) (n : List UInt8) (L : List DefT) : Bool := L.any fun d => decide (d.2.2 = n ∧ refSort d.2.1 = refSort k)
theorem old_none {es : List (OpK × OpV)} (hg : ∀ x ∈ es, goodOp x) {k : Int} (hk : 1 ≤ k) {n : List UInt8} {L : List DefT} (hL : L.Perm (es.map defOf)) (h : oldIn k n L = false) : mget es (kSort k, n) = none := by
  cases hm : mget es (kSort k, n) with
  | none => rfl
  | some v =>
    have hx := mget_mem hm
    obtain ⟨g1, _, _, _, g5, _⟩ := hg _ hx
    have h1 : defOf ((kSort k, n), v) ∈ L := hL.mem_iff.2 (List.mem_map.2 ⟨_, hx, rfl⟩)
    unfold oldIn at h
    rw [List.any_eq_false] at h
    have := h _ h1
    simp only [defOf, decide_eq_true_eq, not_and, true_implies] at this
    exact absurd (by rw [refSort_kSort _ g5, refSort_kSort _ hk]; exact g1.symm) this

theorem op_unmake {es es' : List (OpK × OpV)} {p t : Int} {n : List UInt8} (h : opErr es p t n = 0) : opErr es' 0 t n = 0 ∧ opTab es' 0 t n = mdel es' (kSort t, n) := by
  have h0 : opErr es' 0 t n = 0 := by
    unfold opErr at h ⊢
    split at h
    · cases h
    split at h
    · cases h
    rename_i h1 h2
    rw [if_neg (by omega), if_neg h2, if_pos rfl]
  refine ⟨h0, ?_⟩
  unfold opTab
  rw [h0, if_neg (by simp), if_pos rfl]
theorem old_snoc (t : Int) (n : List UInt8) (l : List DefT) (x : DefT) : oldIn t n (l ++ [x]) = (oldIn t n l || decide (x.2.2 = n ∧ refSort x.2.1 = refSort t)) := by
  unfold oldIn
  simp
end Go.Proofs.YtiaajpfebcccfaaDoor
