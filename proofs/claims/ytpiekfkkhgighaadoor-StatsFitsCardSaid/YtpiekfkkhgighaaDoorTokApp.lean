/-
  A text that ends by a byte 10, and another text behind it: the first one's tokens stay. Plain laws; no condition but those that are named.
-/
import Derived.Test.YtpiekfkkhgighaaDoorToks
namespace Go.Proofs.YtpiekfkkhgighaaDoor

def Ends (l : List UInt8) : Prop := l.getLast? = some 10
theorem Ends.ne {l : List UInt8} (h : Ends l) : l ≠ [] := by rintro rfl; cases h
theorem Ends.tail {c : UInt8} {r : List UInt8} (h : Ends (c :: r)) (hr : r ≠ []) : Ends r := by
  unfold Ends at *
  rwa [List.getLast?_cons_of_ne_nil hr] at h
theorem Ends.drop {l : List UInt8} (h : Ends l) : ∀ (k : Nat), k < l.length → Ends (l.drop k) := by
  intro k
  induction k generalizing l with
  | zero => intro _; simpa using h
  | succ k ih =>
    intro hk
    cases l with
    | nil => simp at hk
    | cons c r =>
      rw [List.drop_succ_cons]
      simp only [List.length_cons] at hk
      exact ih (h.tail (by rintro rfl; simp at hk)) (by omega)
theorem Ends.one {c : UInt8} (h : Ends [c]) : c = 10 := by simpa [Ends] using h
theorem Ends.app {l b : List UInt8} (h : Ends b) : Ends (l ++ b) := by
  unfold Ends at *
  rw [List.getLast?_append, h]
  rfl

theorem spanN_app (p : UInt8 → Bool) (b : List UInt8) : ∀ u : List UInt8, spanN p u < u.length → spanN p (u ++ b) = spanN p u
  | [], h => by simp at h
  | c :: r, h => by
    rw [List.cons_append, spanN_cons, spanN_cons]
    rw [spanN_cons, List.length_cons] at h
    split
    · rename_i hc
      rw [if_pos hc] at h
      rw [spanN_app p b r (by omega)]
    · rfl
theorem spanN_lt (p : UInt8 → Bool) (hp : p 10 = false) : ∀ u : List UInt8, Ends u → spanN p u < u.length
  | [], h => absurd rfl h.ne
  | c :: r, h => by
    rw [spanN_cons, List.length_cons]
    split
    · rename_i hc
      have hr : r ≠ [] := by
        rintro rfl
        rw [h.one, hp] at hc
        cases hc
      have := spanN_lt p hp r (h.tail hr)
      omega
    · omega

theorem codedF_app (base : Nat) (b : List UInt8) : ∀ (l : List UInt8) (n i x k : Nat), codedF base l n i = (x, k, true) → codedF base (l ++ b) n i = (x, k, true) ∧ k ≤ i + l.length
  | [], n, i, x, k, h => by simp [codedF] at h
  | c :: r, n, i, x, k, h => by
    rw [List.cons_append]
    unfold codedF at h ⊢
    split at h
    · rename_i hc
      rw [if_pos hc]
      refine ⟨h, ?_⟩
      simp only [Prod.mk.injEq] at h
      rw [List.length_cons]
      omega
    · rename_i hc
      rw [if_neg hc]
      split at h
      · cases h
      · rename_i h1
        rw [if_neg h1]
        split at h
        · cases h
        · rename_i h2
          rw [if_neg h2]
          have := codedF_app base b r _ _ _ _ h
          refine ⟨this.1, ?_⟩
          rw [List.length_cons]
          omega
theorem escapeF_cons (c : UInt8) (r : List UInt8) : escapeF (c :: r) = match escKnown c with
    | some n => (n, 1, true)
    | none =>
      if c = 120 then ((codedF 16 r 0 0).1, (codedF 16 r 0 0).2.1 + 1, (codedF 16 r 0 0).2.2)
      else if c = 48 ∧ (r = [] ∨ (isOct (r.headD 0) = false ∧ r.headD 0 ≠ 92)) then (0, 1, true)
      else if isOct c then codedF 8 (c :: r) 0 0
      else (0, 0, false) := rfl
theorem coded_eta (base : Nat) (l : List UInt8) (n i : Nat) (h : (codedF base l n i).2.2 = true) : codedF base l n i = ((codedF base l n i).1, (codedF base l n i).2.1, true) :=
  Prod.ext rfl (Prod.ext rfl h)
theorem escapeF_app {r : List UInt8} (b : List UInt8) (hr : Ends r) (h : (escapeF r).2.2 = true) : escapeF (r ++ b) = escapeF r := by
  cases r with
  | nil => cases h
  | cons c r =>
    rw [List.cons_append, escapeF_cons, escapeF_cons]
    rw [escapeF_cons] at h
    cases hk : escKnown c with
    | some n => rfl
    | none =>
      rw [hk] at h
      simp only at h ⊢
      by_cases h1 : c = 120
      · rw [if_pos h1] at h
        rw [if_pos h1, if_pos h1]
        simp only at h
        have := (codedF_app 16 b r 0 0 _ _ (coded_eta _ _ _ _ h)).1
        rw [this]
        exact Prod.ext rfl (Prod.ext rfl h.symm)
      · rw [if_neg h1] at h
        rw [if_neg h1, if_neg h1]
        have hne : r ≠ [] := by
          rintro rfl
          rw [hr.one] at h
          revert h
          decide
        obtain ⟨d, r', rfl⟩ := List.exists_cons_of_ne_nil hne
        by_cases h2 : c = 48 ∧ (d :: r' = [] ∨ (isOct ((d :: r').headD 0) = false ∧ (d :: r').headD 0 ≠ 92))
        · have h2' : c = 48 ∧ (d :: r' ++ b = [] ∨ (isOct ((d :: r' ++ b).headD 0) = false ∧ (d :: r' ++ b).headD 0 ≠ 92)) := by simpa using h2
          rw [if_pos h2, if_pos h2']
        · have h2' : ¬ (c = 48 ∧ (d :: r' ++ b = [] ∨ (isOct ((d :: r' ++ b).headD 0) = false ∧ (d :: r' ++ b).headD 0 ≠ 92))) := by simpa using h2
          rw [if_neg h2] at h
          rw [if_neg h2, if_neg h2']
          by_cases h3 : isOct c = true
          · rw [if_pos h3] at h
            rw [if_pos h3, if_pos h3]
            have := (codedF_app 8 b (c :: d :: r') 0 0 _ _ (coded_eta _ _ _ _ h)).1
            rw [List.cons_append] at this
            rw [this]
            exact Prod.ext rfl (Prod.ext rfl h.symm)
          · rw [if_neg h3] at h
            cases h

theorem getF_app (q : UInt8) (hq : q ≠ 10) (b : List UInt8) : ∀ (f : Nat) (l : List UInt8) (i : Nat) (acc t : List UInt8) (n : Nat), Ends l → l.length ≤ f → getF q f l i acc = some (t, n) →
    getF q (f + b.length) (l ++ b) i acc = some (t, n) ∧ n < i + l.length := by
  intro f
  induction f with
  | zero => intro l i acc t n _ _ h; cases l <;> cases h
  | succ f ih =>
    intro l i acc t n hl hf h
    cases l with
    | nil => cases h
    | cons c r =>
      rw [List.length_cons] at hf
      have ihd : ∀ (k i' : Nat) (acc' : List UInt8), getF q f (r.drop k) i' acc' = some (t, n) → getF q (f + b.length) (r.drop k ++ b) i' acc' = some (t, n) ∧ n < i' + (r.drop k).length ∧ k < r.length := by
        intro k i' acc' h'
        by_cases hk : k < r.length
        · have hr : Ends r := hl.tail (by rintro rfl; simp at hk)
          have := ih (r.drop k) i' acc' t n (hr.drop k hk) (by rw [List.length_drop]; omega) h'
          exact ⟨this.1, this.2, hk⟩
        · rw [List.drop_eq_nil_of_le (by omega)] at h'
          cases f <;> cases h'
      have happ : ∀ k, k < r.length → (r ++ b).drop k = r.drop k ++ b := fun k hk => List.drop_append_of_le_length (by omega)
      rw [List.cons_append, List.length_cons, show f + 1 + b.length = (f + b.length) + 1 by omega]
      simp only [getF] at h ⊢
      by_cases h1 : c = q
      · have hr : r ≠ [] := by rintro rfl; exact hq (h1.symm.trans hl.one)
        rw [if_pos h1] at h
        rw [if_pos h1]
        have hh : (r ++ b).head? = r.head? := by
          obtain ⟨d, r', rfl⟩ := List.exists_cons_of_ne_nil hr
          rfl
        rw [hh]
        by_cases h2 : r.head? = some q
        · rw [if_pos h2] at h
          rw [if_pos h2]
          rw [← List.drop_one] at h ⊢
          obtain ⟨a1, a2, a3⟩ := ihd 1 _ _ h
          rw [happ 1 a3]
          rw [List.length_drop] at a2
          exact ⟨a1, by omega⟩
        · rw [if_neg h2] at h
          rw [if_neg h2]
          refine ⟨h, ?_⟩
          simp only [Option.some.injEq, Prod.mk.injEq] at h
          have : 0 < r.length := List.length_pos_iff.2 hr
          omega
      · rw [if_neg h1] at h
        rw [if_neg h1]
        by_cases h2 : c = 10
        · rw [if_pos h2] at h
          cases h
        · rw [if_neg h2] at h
          rw [if_neg h2]
          have hr : r ≠ [] := by rintro rfl; exact h2 hl.one
          have hrl : 0 < r.length := List.length_pos_iff.2 hr
          have hE := hl.tail hr
          by_cases h3 : c ≠ 92
          · rw [if_pos h3] at h
            rw [if_pos h3]
            obtain ⟨a1, a2, a3⟩ := ihd 0 _ _ (by simpa using h)
            rw [List.drop_zero] at a1 a2
            exact ⟨a1, by omega⟩
          · rw [if_neg h3] at h
            rw [if_neg h3]
            have hrb : r ++ b ≠ [] := by simp [hr]
            rw [if_neg hr] at h
            rw [if_neg hrb]
            have hh : (r ++ b).head? = r.head? := by
              obtain ⟨d, r', rfl⟩ := List.exists_cons_of_ne_nil hr
              rfl
            rw [hh]
            by_cases h4 : r.head? = some 10
            · rw [if_pos h4] at h
              rw [if_pos h4]
              rw [← List.drop_one] at h ⊢
              obtain ⟨a1, a2, a3⟩ := ihd 1 _ _ h
              rw [happ 1 a3]
              rw [List.length_drop] at a2
              exact ⟨a1, by omega⟩
            · rw [if_neg h4] at h
              rw [if_neg h4]
              by_cases h5 : (escapeF r).2.2 = true
              · rw [if_pos h5] at h
                rw [escapeF_app b hE h5, if_pos h5]
                obtain ⟨a1, a2, a3⟩ := ihd _ _ _ h
                rw [happ _ a3]
                rw [List.length_drop] at a2
                exact ⟨a1, by omega⟩
              · rw [if_neg h5] at h
                cases h
theorem getQ_app {q : UInt8} (hq : q ≠ 10) (b : List UInt8) {l t : List UInt8} {n : Nat} (hl : Ends l) (h : getQ q l = some (t, n)) : getQ q (l ++ b) = some (t, n) ∧ n < l.length := by
  unfold getQ at h ⊢
  have := getF_app q hq b l.length l 0 [] t n hl (Nat.le_refl _) h
  rw [List.length_append]
  simpa using this

theorem digitsF_app (base : Nat) (hb : base ≤ 36) (b : List UInt8) {l : List UInt8} (frm : Nat) (hf : frm < l.length) (hl : Ends l) {x : Int × Nat} (h : digitsF base l frm = some x) : digitsF base (l ++ b) frm = some x ∧ x.2 < l.length := by
  unfold digitsF at h ⊢
  simp only at h ⊢
  have hd := hl.drop frm hf
  have hlt := spanN_lt (fun c => decide (digVal c < base)) (by have : digVal 10 = 36 := by decide
                                                               simp [this]; omega) _ hd
  rw [List.drop_append_of_le_length (by omega), spanN_app _ b _ hlt, List.take_append_of_le_length (by omega)]
  refine ⟨h, ?_⟩
  split at h
  · simp only [Option.some.injEq] at h
    subst h
    rw [List.length_drop] at hlt
    simp only
    omega
  · cases h
theorem charF_app (b : List UInt8) {l : List UInt8} (hl : Ends l) {x : Int × Nat} (h : charF l = some x) : charF (l ++ b) = some x ∧ x.2 < l.length := by
  match l, h with
  | [], h => cases h
  | [_], h => cases h
  | [_, _], h => cases h
  | c0 :: c1 :: c :: r, h =>
    simp only [List.cons_append, charF, charAt2] at h ⊢
    by_cases h1 : c = 10
    · rw [if_pos h1] at h; cases h
    · rw [if_neg h1] at h
      rw [if_neg h1]
      have hr : r ≠ [] := by
        rintro rfl
        exact h1 (((hl.tail (by simp)).tail (by simp)).one)
      obtain ⟨d, r, rfl⟩ := List.exists_cons_of_ne_nil hr
      have hE : Ends (d :: r) := ((hl.tail (by simp)).tail (by simp)).tail (by simp)
      by_cases h2 : c = 39
      · rw [if_pos h2] at h
        rw [if_pos h2]
        by_cases h3 : (d :: r).head? = some (39 : UInt8)
        · rw [if_pos h3] at h
          rw [if_pos (show (d :: r ++ b).head? = some 39 from h3)]
          refine ⟨h, ?_⟩
          have hd : d = 39 := Option.some.inj h3
          have : r ≠ [] := by rintro rfl; rw [hE.one] at hd; revert hd; decide
          have := List.length_pos_iff.2 this
          cases h
          simp only [List.length_cons]
          omega
        · rw [if_neg h3] at h
          cases h
      · rw [if_neg h2] at h
        rw [if_neg h2]
        by_cases h3 : c = 92
        · rw [if_pos h3] at h
          rw [if_pos h3]
          simp only [List.cons_append, charSlash] at h ⊢
          refine ⟨h, ?_⟩
          have hr : r ≠ [] := by
            rintro rfl
            have e : getQ 39 [92, 10, 39] = some ([], 3) := by decide +kernel
            rw [hE.one, e] at h
            cases h
          have := List.length_pos_iff.2 hr
          unfold slashRes at h
          split at h
          · cases h
            simp only [List.length_cons]
            omega
          · cases h
        · rw [if_neg h3] at h
          rw [if_neg h3]
          refine ⟨h, ?_⟩
          cases h
          simp only [List.length_cons]
          omega
end Go.Proofs.YtpiekfkkhgighaaDoor
