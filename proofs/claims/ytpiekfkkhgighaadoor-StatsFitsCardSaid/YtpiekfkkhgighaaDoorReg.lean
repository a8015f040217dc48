/-
  A region whose order is open, by an invariant: one obligation for each operation. Condition: the invariant is kept by whatever may come up.
-/
import Derived.WalkKit
import Derived.RegionTactic
namespace Go.Proofs.YtpiekfkkhgighaaDoor
open Go.RowKit

theorem getD_false {listed : Array Bool} {i : Nat} (h : listed.getD i true = false) : ∃ hi : i < listed.size, listed[i] = false := by
  rcases Nat.lt_or_ge i listed.size with h' | h'
  · refine ⟨h', ?_⟩
    simpa [Array.getD, h'] using h
  · simp [Array.getD, Nat.not_lt.2 h'] at h
def undone (listed : Array Bool) : Nat := listed.toList.count false
theorem count_set (l : List Bool) (i : Nat) (h : l[i]? = some false) : (l.set i true).count false + 1 = l.count false := by
  induction l generalizing i with
  | nil => simp at h
  | cons b r ih =>
    cases i with
    | zero =>
      simp at h
      subst h
      simp
    | succ i =>
      have := ih i (by simpa using h)
      rw [List.set_cons_succ, List.count_cons, List.count_cons]
      omega
theorem undone_set {listed : Array Bool} {i : Nat} (h : listed.getD i true = false) : undone (listed.setIfInBounds i true) + 1 = undone listed := by
  obtain ⟨hi, hv⟩ := getD_false h
  unfold undone
  rw [Array.toList_setIfInBounds]
  refine count_set _ _ ?_
  rw [List.getElem?_eq_getElem (by simpa using hi)]
  simpa using hv

theorem wpAny_inv {P : Program} {md : Region.Mode} {ops : Array Oper} {Q : Exit → Act → World → Prop} (I : Array Bool → Act → World → Prop)
    (hd : ∀ listed a w, I listed a w → Region.ready md ops listed = [] → Q .normal a w)
    (hs : ∀ listed a w i, I listed a w → i ∈ Region.ready md ops listed → wpOp P ops Q i (I (listed.setIfInBounds i true)) a w) :
    ∀ (fuel : Nat) (listed : Array Bool) (a : Act) (w : World), undone listed ≤ fuel → I listed a w → wpAny P md ops Q fuel listed a w := by
  intro fuel
  induction fuel with
  | zero =>
    intro listed a w hu hI
    have hr : Region.ready md ops listed = [] := by
      cases hc : Region.ready md ops listed with
      | nil => rfl
      | cons i r =>
        have hi : i ∈ Region.ready md ops listed := by rw [hc]; exact List.mem_cons_self ..
        have := undone_set (mem_ready.1 hi).1
        omega
    exact ⟨hr, hd _ _ _ hI hr⟩
  | succ fuel ih =>
    intro listed a w hu hI
    refine ⟨fun hr => hd _ _ _ hI hr, fun i hi => ?_⟩
    have h1 := undone_set (mem_ready.1 hi).1
    exact wpOp_mono (fun a' w' h' => ih _ a' w' (by omega) h') (hs _ _ _ i hI hi)

/-- Six calls in their order, three reservations at any time between: what has been done. -/
def gridL (m : Nat) (p q r : Bool) : Array Bool := #[true, true, true, Nat.ble 1 m, Nat.ble 2 m, true, true, true, Nat.ble 3 m, Nat.ble 4 m, true, Nat.ble 5 m, Nat.ble 6 m, p, q, r, false, false, false]
def gridIx : Nat → Nat
  | 0 => 3
  | 1 => 4
  | 2 => 8
  | 3 => 9
  | 4 => 11
  | _ => 12
def gridR (m : Nat) (p q r : Bool) : List Nat := (cond (Nat.ble 6 m) [] [gridIx m]) ++ ((cond p [] [13]) ++ ((cond q [] [14]) ++ (cond r [] [15])))
theorem gridL_call {m : Nat} {p q r : Bool} (hm : m < 6) : (gridL m p q r).setIfInBounds (gridIx m) true = gridL (m + 1) p q r := by
  rcases (show m = 0 ∨ m = 1 ∨ m = 2 ∨ m = 3 ∨ m = 4 ∨ m = 5 by omega) with rfl | rfl | rfl | rfl | rfl | rfl <;> rfl
theorem wpAny_grid {P : Program} {ops : Array Oper} {Q : Exit → Act → World → Prop} (G : Nat → Bool → Bool → Bool → Act → World → Prop)
    (hr : ∀ m p q r, m ≤ 6 → (m = 6 → p = true → q = true → r = true → False) → Region.ready .any ops (gridL m p q r) = gridR m p q r)
    (hc : ∀ m p q r a w, m < 6 → G m p q r a w → wpOp P ops Q (gridIx m) (G (m + 1) p q r) a w)
    (h1 : ∀ m q r a w, m ≤ 6 → G m false q r a w → wpOp P ops Q 13 (G m true q r) a w)
    (h2 : ∀ m p r a w, m ≤ 6 → G m p false r a w → wpOp P ops Q 14 (G m p true r) a w)
    (h3 : ∀ m p q a w, m ≤ 6 → G m p q false a w → wpOp P ops Q 15 (G m p q true) a w)
    (hd : ∀ a w, G 6 true true true a w → wpAny P .any ops Q 3 (gridL 6 true true true) a w) :
    ∀ (N m : Nat) (p q r : Bool) (a : Act) (w : World), m ≤ 6 → (6 - m) + ((cond p 0 1) + ((cond q 0 1) + (cond r 0 1))) = N → G m p q r a w → wpAny P .any ops Q (N + 3) (gridL m p q r) a w := by
  intro N
  induction N with
  | zero =>
    intro m p q r a w hm hN hG
    have h6 : m = 6 := by omega
    subst h6
    cases p <;> cases q <;> cases r <;> simp only [cond_true, cond_false] at hN <;> first | exact hd a w hG | omega
  | succ N ih =>
    intro m p q r a w hm hN hG
    have hnot : m = 6 → p = true → q = true → r = true → False := by
      rintro rfl rfl rfl rfl
      simp at hN
    have hr' := hr m p q r hm hnot
    have hne : gridR m p q r ≠ [] := by
      unfold gridR
      intro h0
      rcases (show m < 6 ∨ m = 6 by omega) with h | h
      · rw [show Nat.ble 6 m = false from by rw [Bool.eq_false_iff]; intro h'; have := Nat.le_of_ble_eq_true h'; omega] at h0
        simp at h0
      · cases p <;> cases q <;> cases r <;> simp at h0
        exact hnot h rfl rfl rfl
    show wpAny P .any ops Q ((N + 3) + 1) _ a w
    refine wpAny_all hr' hne fun i hi => ?_
    unfold gridR at hi
    rcases List.mem_append.1 hi with hi | hi
    · cases hb : Nat.ble 6 m with
      | true => rw [hb] at hi; simp at hi
      | false =>
        rw [hb] at hi
        have hm6 : m < 6 := by
          rcases Nat.lt_or_ge m 6 with h | h
          · exact h
          · rw [Nat.ble_eq_true_of_le h] at hb; cases hb
        have : i = gridIx m := by simpa using hi
        subst this
        rw [gridL_call hm6]
        exact wpOp_mono (fun a' w' h' => ih (m + 1) p q r a' w' hm6 (by omega) h') (hc m p q r a w hm6 hG)
    rcases List.mem_append.1 hi with hi | hi
    · cases p with
      | true => simp at hi
      | false =>
        have : i = 13 := by simpa using hi
        subst this
        exact wpOp_mono (fun a' w' h' => ih m true q r a' w' hm (by simp only [cond_true, cond_false] at hN ⊢; omega) h') (h1 m q r a w hm hG)
    rcases List.mem_append.1 hi with hi | hi
    · cases q with
      | true => simp at hi
      | false =>
        have : i = 14 := by simpa using hi
        subst this
        exact wpOp_mono (fun a' w' h' => ih m p true r a' w' hm (by simp only [cond_true, cond_false] at hN ⊢; omega) h') (h2 m p r a w hm hG)
    · cases r with
      | true => simp at hi
      | false =>
        have : i = 15 := by simpa using hi
        subst this
        exact wpOp_mono (fun a' w' h' => ih m p q true a' w' hm (by simp only [cond_true, cond_false] at hN ⊢; omega) h') (h3 m p q a w hm hG)
end Go.Proofs.YtpiekfkkhgighaaDoor
