import Derived.Test.YtmgidfndifhcoaaDoorJReadBrackets22
import Derived.StillTailTactics
import Derived.Deep.RegionHeld3
import Derived.Shelf.Small.Strs
import Derived.Shelf.Strings.Search1
import Derived.Shelf.Strings.Search2
import Derived.Shelf.Strings.Search3
import Derived.Shelf.Strings.Count
import Derived.Shelf.LaysM
import Derived.Shelf.Strings.Shaped
import Derived.Shelf.Strings.Prefix
import Derived.Test.YtmgidfndifhcoaaDoorProg
/-
  Two texts' tokens, one behind the other, the first of which ends by a byte 10. Plain laws; no condition but those that are named.
-/
namespace Go.Proofs.YtmgidfndifhcoaaDoor

theorem head_app {r b : List UInt8} (h : r ≠ []) : (r ++ b).head? = r.head? := by
  obtain ⟨d, r', rfl⟩ := List.exists_cons_of_ne_nil h
  rfl
theorem headD_app {r b : List UInt8} (h : r ≠ []) (x : UInt8) : (r ++ b).headD x = r.headD x := by
  obtain ⟨d, r', rfl⟩ := List.exists_cons_of_ne_nil h
  rfl
theorem tail_app {r b : List UInt8} (h : r ≠ []) : (r ++ b).tail = r.tail ++ b := by
  obtain ⟨d, r', rfl⟩ := List.exists_cons_of_ne_nil h
  rfl

theorem getF_le (q : UInt8) : ∀ (f : Nat) (l : List UInt8) (i : Nat) (b t : List UInt8) (n : Nat), getF q f l i b = some (t, n) → n ≤ i + l.length := by
  intro f
  induction f with
  | zero => intro l i b t n h; cases l <;> cases h
  | succ f ih =>
    intro l i b t n h
    cases l with
    | nil => cases h
    | cons c r =>
      have ht : r.tail.length ≤ r.length := by rw [List.length_tail]; omega
      simp only [getF] at h
      rw [List.length_cons]
      split at h
      · split at h
        · rename_i hh
          have hr : r ≠ [] := by rintro rfl; cases hh
          have h0 := List.length_pos_iff.2 hr
          have := ih _ _ _ _ _ h
          rw [List.length_tail] at this
          omega
        · simp only [Option.some.injEq, Prod.mk.injEq] at h
          omega
      · split at h
        · cases h
        · split at h
          · have := ih _ _ _ _ _ h
            omega
          · split at h
            · cases h
            · rename_i hr
              have h0 := List.length_pos_iff.2 hr
              split at h
              · have := ih _ _ _ _ _ h
                rw [List.length_tail] at this
                omega
              · split at h
                · by_cases hk : (escapeF r).2.1 ≤ r.length
                  · have := ih _ _ _ _ _ h
                    rw [List.length_drop] at this
                    omega
                  · rw [List.drop_eq_nil_of_le (by omega)] at h
                    cases f <;> cases h
                · cases h
theorem getQ_le {q : UInt8} {l : List UInt8} {x : List UInt8 × Nat} (h : getQ q l = some x) : x.2 ≤ l.length := by
  have := getF_le q l.length l 0 [] x.1 x.2 h
  omega
theorem digitsF_pos {base : Nat} {l : List UInt8} {k : Nat} {x : Int × Nat} (h : digitsF base l k = some x) : 0 < x.2 := by
  unfold digitsF at h
  simp only at h
  split at h
  · rename_i hp
    cases h
    simp only
    have : 0 < spanN (fun c => decide (digVal c < base)) (l.drop k) := by
      rcases Nat.eq_zero_or_pos (spanN (fun c => decide (digVal c < base)) (l.drop k)) with h0 | h0
      · rw [h0] at hp
        simp [parseF] at hp
      · exact h0
    omega
  · cases h
theorem charF_pos {l : List UInt8} {x : Int × Nat} (h : charF l = some x) : 0 < x.2 := by
  unfold charF at h
  split at h
  · unfold charAt2 at h
    split at h
    · cases h
    · split at h
      · split at h
        · cases h; decide
        · cases h
      · split at h
        · unfold charSlash at h
          split at h
          · cases h
          · unfold slashRes at h
            split at h
            · cases h; simp only; omega
            · cases h
        · cases h; simp only; omega
  · cases h
theorem numberF_pos {l : List UInt8} {x : Int × Nat} (h : numberF l = some x) : 0 < x.2 := by
  unfold numberF at h
  split at h
  · exact digitsF_pos h
  split at h
  · exact digitsF_pos h
  split at h
  · exact digitsF_pos h
  split at h
  · exact charF_pos h
  · exact digitsF_pos h
theorem tokF_pos {l : List UInt8} {t : TokIs} (h : tokF l = some t) : 0 < t.len := by
  cases l with
  | nil => cases h
  | cons c r =>
    unfold tokF at h
    simp only at h
    have hw : isWord c = true → 0 < spanN isWord (c :: r) := fun e => by rw [spanN_cons, if_pos e]; omega
    have hs : isSign c = true → 0 < spanN isSign (c :: r) := fun e => by rw [spanN_cons, if_pos e]; omega
    split at h
    · cases h; simp only; omega
    split at h
    · rename_i e
      cases h
      exact hw (by simp [isWord, e])
    split at h
    · rename_i e
      cases h
      exact hs (by simp [isSign, e])
    split at h
    · cases h; simp only; omega
    split at h
    · rename_i e
      cases h
      exact hw (by simp [isWord, e])
    split at h
    · obtain ⟨x, hx, rfl⟩ := Option.map_eq_some_iff.1 h
      exact numberF_pos hx
    split at h
    · obtain ⟨x, hx, rfl⟩ := Option.map_eq_some_iff.1 h
      simp only; omega
    split at h
    · obtain ⟨x, hx, rfl⟩ := Option.map_eq_some_iff.1 h
      simp only; omega
    split at h
    · cases h; simp only; omega
    · cases h

theorem numberF_app (b : List UInt8) {l : List UInt8} (hl : Ends l) {x : Int × Nat} (h : numberF l = some x) : numberF (l ++ b) = some x ∧ x.2 < l.length := by
  match l, h with
  | [], h => exact absurd rfl hl.ne
  | [c], h =>
    have e : numberF [10] = none := by decide +kernel
    rw [hl.one, e] at h
    cases h
  | c :: d :: r, h =>
    have e1 : (c :: d :: r ++ b).head? = (c :: d :: r).head? := rfl
    have e2 : (c :: d :: r ++ b).tail.head? = (c :: d :: r).tail.head? := rfl
    have hr : r ≠ [] → 2 < (c :: d :: r).length := fun e => by have := List.length_pos_iff.2 e; simp only [List.length_cons]; omega
    have hd : r = [] → d = 10 := fun e => by subst e; exact (hl.tail (by simp)).one
    unfold numberF at h ⊢
    rw [e1, e2]
    have h2 : ∀ z : UInt8, (c :: d :: r).tail.head? = some z → z ≠ 10 → 2 < (c :: d :: r).length := by
      intro z hz hz2
      refine hr fun e => hz2 ?_
      rw [← hd e]
      exact (Option.some.inj hz).symm
    split at h
    · rename_i hc
      rw [if_pos hc]
      exact digitsF_app 16 (by omega) b 2 (h2 _ hc.2 (by decide)) hl h
    rename_i hc1
    rw [if_neg hc1]
    split at h
    · rename_i hc
      rw [if_pos hc]
      exact digitsF_app 8 (by omega) b 2 (h2 _ hc.2 (by decide)) hl h
    rename_i hc2
    rw [if_neg hc2]
    split at h
    · rename_i hc
      rw [if_pos hc]
      exact digitsF_app 2 (by omega) b 2 (h2 _ hc.2 (by decide)) hl h
    rename_i hc3
    rw [if_neg hc3]
    split at h
    · rename_i hc
      rw [if_pos hc]
      exact charF_app b hl h
    rename_i hc4
    rw [if_neg hc4]
    exact digitsF_app 10 (by omega) b 0 (by simp) hl h

theorem tokF_app (b : List UInt8) {u : List UInt8} {t : TokIs} (hu : Ends u) (h : tokF u = some t) : tokF (u ++ b) = some t ∧ t.len < u.length := by
  cases u with
  | nil => cases h
  | cons c r =>
    have hw := spanN_lt isWord (by decide +kernel) _ hu
    have hs := spanN_lt isSign (by decide +kernel) _ hu
    have hr : c ≠ 10 → r ≠ [] := fun e h => by subst h; exact e hu.one
    have hr1 : c ≠ 10 → 1 < (c :: r).length := fun e => by have := List.length_pos_iff.2 (hr e); simp only [List.length_cons]; omega
    have s10 : bsort 10 = 1 := by decide +kernel
    rw [List.cons_append]
    unfold tokF at h ⊢
    simp only at h ⊢
    rw [← List.cons_append, spanN_app isWord b _ hw, spanN_app isSign b _ hs, List.take_append_of_le_length (Nat.le_of_lt hw), List.take_append_of_le_length (Nat.le_of_lt hs)]
    by_cases h1 : c = 46 ∧ (r = [] ∨ r.headD 0 = 37 ∨ bsort (r.headD 0) = 1)
    · have hne : r ≠ [] := hr (by rw [h1.1]; decide)
      rw [if_pos h1] at h
      rw [if_pos ⟨h1.1, .inr (by rw [headD_app hne]; exact h1.2.resolve_left hne)⟩]
      refine ⟨h, ?_⟩
      cases h
      exact hr1 (by rw [h1.1]; decide)
    · have h1' : ¬ (c = 46 ∧ (r ++ b = [] ∨ (r ++ b).headD 0 = 37 ∨ bsort ((r ++ b).headD 0) = 1)) := by
        rintro ⟨e, h'⟩
        have hne : r ≠ [] := hr (by rw [e]; decide)
        rw [headD_app hne] at h'
        exact h1 ⟨e, .inr (h'.resolve_left (by simp [hne]))⟩
      rw [if_neg h1] at h
      rw [if_neg h1']
      by_cases h2 : bsort c = 2
      · rw [if_pos h2] at h
        rw [if_pos h2]
        refine ⟨h, ?_⟩
        cases h
        exact hw
      rw [if_neg h2] at h
      rw [if_neg h2]
      by_cases h3 : bsort c = 5
      · rw [if_pos h3] at h
        rw [if_pos h3]
        refine ⟨h, ?_⟩
        cases h
        exact hs
      rw [if_neg h3] at h
      rw [if_neg h3]
      by_cases h4 : bsort c = 6
      · rw [if_pos h4] at h
        rw [if_pos h4]
        refine ⟨h, ?_⟩
        cases h
        exact hr1 (by rintro rfl; rw [s10] at h4; cases h4)
      rw [if_neg h4] at h
      rw [if_neg h4]
      by_cases h5 : bsort c = 3
      · rw [if_pos h5] at h
        rw [if_pos h5]
        refine ⟨h, ?_⟩
        cases h
        exact hw
      rw [if_neg h5] at h
      rw [if_neg h5]
      by_cases h6 : bsort c = 4
      · rw [if_pos h6] at h
        rw [if_pos h6]
        obtain ⟨x, hx, rfl⟩ := Option.map_eq_some_iff.1 h
        obtain ⟨a1, a2⟩ := numberF_app b hu hx
        rw [a1]
        exact ⟨rfl, a2⟩
      rw [if_neg h6] at h
      rw [if_neg h6]
      by_cases h7 : c = 39
      · rw [if_pos h7] at h
        rw [if_pos h7]
        obtain ⟨x, hx, rfl⟩ := Option.map_eq_some_iff.1 h
        obtain ⟨a1, a2⟩ := getQ_app (by decide) b (hu.tail (hr (by rw [h7]; decide))) hx
        rw [a1]
        refine ⟨rfl, ?_⟩
        simp only [List.length_cons]
        omega
      rw [if_neg h7] at h
      rw [if_neg h7]
      by_cases h8 : c = 34
      · rw [if_pos h8] at h
        rw [if_pos h8]
        obtain ⟨x, hx, rfl⟩ := Option.map_eq_some_iff.1 h
        obtain ⟨a1, a2⟩ := getQ_app (by decide) b (hu.tail (hr (by rw [h8]; decide))) hx
        rw [a1]
        refine ⟨rfl, ?_⟩
        simp only [List.length_cons]
        omega
      rw [if_neg h8] at h
      rw [if_neg h8]
      by_cases h9 : bsort c = 7
      · rw [if_pos h9] at h
        rw [if_pos h9]
        refine ⟨h, ?_⟩
        cases h
        exact hr1 (by rintro rfl; rw [s10] at h9; cases h9)
      · rw [if_neg h9] at h
        cases h

theorem endOf_le : ∀ (l : List UInt8) (n : Nat), endOf l = some n → n + 1 < l.length
  | [], n, h => by cases h
  | c :: r, n, h => by
    unfold endOf at h
    split at h
    · rename_i hc
      cases h
      cases r with
      | nil => simp at hc
      | cons d r => simp only [List.length_cons]; omega
    · obtain ⟨m, hm, rfl⟩ := Option.map_eq_some_iff.1 h
      have := endOf_le r m hm
      rw [List.length_cons]
      omega
theorem endOf_app (b : List UInt8) : ∀ (l : List UInt8) (n : Nat), endOf l = some n → endOf (l ++ b) = some n
  | [], n, h => by cases h
  | c :: r, n, h => by
    rw [List.cons_append]
    unfold endOf at h ⊢
    split at h
    · rename_i hc
      have hne : r ≠ [] := by rintro rfl; simp at hc
      rw [if_pos (by rw [head_app hne]; exact hc)]
      exact h
    · rename_i hc
      obtain ⟨m, hm, rfl⟩ := Option.map_eq_some_iff.1 h
      have hne : r ≠ [] := by rintro rfl; cases hm
      rw [if_neg (by rw [head_app hne]; exact hc), endOf_app b r m hm]
      rfl

theorem skipF_fuel : ∀ (f g : Nat) (l : List UInt8), l.length ≤ f → l.length ≤ g → skipF f l = skipF g l := by
  intro f
  induction f with
  | zero =>
    intro g l hf hg
    obtain rfl : l = [] := List.eq_nil_of_length_eq_zero (by omega)
    cases g <;> rfl
  | succ f ih =>
    intro g l hf hg
    cases l with
    | nil => cases g <;> rfl
    | cons c r =>
      cases g with
      | zero => simp at hg
      | succ g =>
        simp only [List.length_cons] at hf hg
        simp only [skipF]
        rw [ih g r (by omega) (by omega), ih g (r.drop _) (by rw [List.length_drop]; omega) (by rw [List.length_drop]; omega)]
        split
        · rfl
        · split
          · rfl
          · split
            · cases h : endOf r.tail with
              | none => rfl
              | some n =>
                simp only
                rw [ih g (r.tail.drop _) (by rw [List.length_drop, List.length_tail]; omega) (by rw [List.length_drop, List.length_tail]; omega)]
            · rfl
theorem skipF_drop : ∀ (f : Nat) (l : List UInt8), ∃ k, (skipF f l).1 = l.drop k ∧ k ≤ l.length := by
  intro f
  induction f with
  | zero => exact fun l => ⟨0, rfl, Nat.zero_le _⟩
  | succ f ih =>
    intro l
    cases l with
    | nil => exact ⟨0, rfl, Nat.zero_le _⟩
    | cons c r =>
      simp only [skipF, List.length_cons]
      split
      · obtain ⟨k, h, hk⟩ := ih r
        exact ⟨k + 1, by rw [h, List.drop_succ_cons], by omega⟩
      · split
        · obtain ⟨k, h, hk⟩ := ih (r.drop (spanN (fun c => decide (c ≠ 10)) r))
          have := spanN_le (fun c => decide (c ≠ 10)) r
          refine ⟨spanN (fun c => decide (c ≠ 10)) r + k + 1, by rw [h, List.drop_succ_cons, List.drop_drop], ?_⟩
          rw [List.length_drop] at hk
          omega
        · split
          · cases h : endOf r.tail with
            | none => exact ⟨0, rfl, Nat.zero_le _⟩
            | some n =>
              simp only
              obtain ⟨k, h', hk⟩ := ih (r.tail.drop (n + 2))
              have := endOf_le _ _ h
              rw [List.length_tail] at this
              refine ⟨n + 2 + k + 1 + 1, ?_, ?_⟩
              · rw [h', List.drop_succ_cons, ← List.drop_one, List.drop_drop, List.drop_drop]
                congr 1
                omega
              · rw [List.length_drop, List.length_tail] at hk
                omega
          · exact ⟨0, rfl, Nat.zero_le _⟩
theorem skipB_drop (l : List UInt8) : ∃ k, (skipB l).1 = l.drop k ∧ k ≤ l.length := skipF_drop _ l
theorem skipB_len (l : List UInt8) : (skipB l).1.length ≤ l.length := by
  obtain ⟨k, h, _⟩ := skipB_drop l
  rw [h, List.length_drop]
  omega
def behind (b : List UInt8) (k : List UInt8 × Bool) : List UInt8 × Bool := if k.1 = [] then skipF b.length b else (k.1 ++ b, true)
theorem skipF_cons (f : Nat) (c : UInt8) (r : List UInt8) : skipF (f + 1) (c :: r) = if bsort c = 1 then skipF f r
    else if c = 37 then skipF f (r.drop (spanN (fun c => decide (c ≠ 10)) r))
    else if c = 47 ∧ r.head? = some 42 then
      match endOf r.tail with
      | none => (c :: r, false)
      | some n => skipF f (r.tail.drop (n + 2))
    else (c :: r, true) := rfl
theorem skipF_app (b : List UInt8) : ∀ (f : Nat) (u : List UInt8), Ends u → u.length ≤ f → (skipF f u).2 = true →
    skipF (f + b.length) (u ++ b) = behind b (skipF f u) := by
  intro f
  induction f with
  | zero =>
    intro u hu hf h
    exact absurd (List.eq_nil_of_length_eq_zero (by omega)) hu.ne
  | succ f ih =>
    intro u hu hf h
    have base : ∀ r : List UInt8, r.length ≤ f → (r = [] ∨ Ends r) → (skipF f r).2 = true → skipF (f + b.length) (r ++ b) = behind b (skipF f r) := by
      intro r hr he h
      rcases he with rfl | he
      · have e : (skipF f ([] : List UInt8)).1 = [] := by cases f <;> rfl
        unfold behind
        rw [if_pos e, List.nil_append]
        exact skipF_fuel _ _ _ (by omega) (Nat.le_refl _)
      · exact ih r he hr h
    cases u with
    | nil => exact absurd rfl hu.ne
    | cons c r =>
      rw [List.length_cons] at hf
      rw [List.cons_append, show f + 1 + b.length = (f + b.length) + 1 by omega]
      rw [skipF_cons, skipF_cons]
      rw [skipF_cons] at h
      have hE : r = [] ∨ Ends r := by
        rcases Classical.em (r = []) with e | e
        · exact .inl e
        · exact .inr (hu.tail e)
      by_cases h1 : bsort c = 1
      · rw [if_pos h1] at h
        rw [if_pos h1, if_pos h1]
        exact base r (by omega) hE h
      · rw [if_neg h1] at h
        rw [if_neg h1, if_neg h1]
        have hne : r ≠ [] := by
          rintro rfl
          rw [hu.one] at h1
          exact h1 (by decide +kernel)
        have hr := hu.tail hne
        by_cases h2 : c = 37
        · rw [if_pos h2] at h
          rw [if_pos h2, if_pos h2]
          have hlt := spanN_lt (fun c => decide (c ≠ 10)) (by decide) r hr
          rw [spanN_app _ b r hlt, List.drop_append_of_le_length (by omega)]
          exact base _ (by rw [List.length_drop]; omega) (.inr (hr.drop _ hlt)) h
        · rw [if_neg h2] at h
          rw [if_neg h2, if_neg h2, head_app hne]
          by_cases h3 : c = 47 ∧ r.head? = some 42
          · rw [if_pos h3] at h
            rw [if_pos h3, if_pos h3, tail_app hne]
            cases he : endOf r.tail with
            | none =>
              rw [he] at h
              cases h
            | some n =>
              rw [he] at h
              rw [endOf_app b _ _ he]
              simp only at h ⊢
              have := endOf_le _ _ he
              rw [List.drop_append_of_le_length (by omega)]
              refine base _ (by rw [List.length_drop, List.length_tail]; omega) ?_ h
              rcases Nat.lt_or_ge (n + 2) r.tail.length with hl | hl
              · rw [← List.drop_one] at hl ⊢
                right
                rw [List.drop_drop]
                exact hr.drop _ (by rw [List.length_drop] at hl; omega)
              · exact .inl (List.drop_eq_nil_of_le hl)
          · rw [if_neg h3] at h
            rw [if_neg h3, if_neg h3]
            unfold behind
            rw [if_neg (by simp)]
            rfl
theorem skipB_app (b : List UInt8) {u : List UInt8} (hu : Ends u) (h : (skipB u).2 = true) : skipB (u ++ b) = behind b (skipB u) := by
  have := skipF_app b u.length u hu (Nat.le_refl _) h
  unfold skipB
  rw [List.length_append]
  exact this

theorem lexF_fuel : ∀ (f g : Nat) (l : List UInt8) (line : Nat) (first : Bool), l.length < f → l.length < g → lexF f l line first = lexF g l line first := by
  intro f
  induction f with
  | zero => intro g l line first hf; omega
  | succ f ih =>
    intro g l line first hf hg
    cases g with
    | zero => omega
    | succ g =>
      simp only [lexF]
      split
      · rfl
      · split
        · rfl
        · cases ht : tokF (skipB l).1 with
          | none => rfl
          | some t =>
            simp only
            have h1 := tokF_pos ht
            have h2 := skipB_len l
            have hne : 0 < (skipB l).1.length := List.length_pos_iff.2 (by assumption)
            rw [ih g _ _ _ (by rw [List.length_drop]; omega) (by rw [List.length_drop]; omega)]
theorem lexF_step (f : Nat) (l : List UInt8) (line : Nat) (first : Bool) (hf : l.length < f) :
    lexF f l line first = if (skipB l).2 = false then ([], ((line + lines (l.take (l.length - (skipB l).1.length)) : Nat) : Int), 5)
    else if (skipB l).1 = [] then ([⟨0, ((line + lines (l.take (l.length - (skipB l).1.length)) : Nat) : Int), 0, [], false, false⟩], 0, 0)
    else match tokF (skipB l).1 with
      | none => ([], ((line + lines (l.take (l.length - (skipB l).1.length)) : Nat) : Int), 5)
      | some t =>
        (⟨t.kind, ((line + lines (l.take (l.length - (skipB l).1.length)) : Nat) : Int), t.n, t.s, decide (((skipB l).1.drop t.len).head? = some 40), !first && (skipB l).1.length == l.length⟩ :: (lexF f ((skipB l).1.drop t.len) (line + lines (l.take (l.length - (skipB l).1.length)) + lines ((skipB l).1.take t.len)) false).1,
          (lexF f ((skipB l).1.drop t.len) (line + lines (l.take (l.length - (skipB l).1.length)) + lines ((skipB l).1.take t.len)) false).2) := by
  cases f with
  | zero => omega
  | succ f =>
    rw [lexF]
    simp only
    split
    · rfl
    · split
      · rfl
      · cases ht : tokF (skipB l).1 with
        | none => rfl
        | some t =>
          simp only
          have h1 := tokF_pos ht
          have h2 := skipB_len l
          have hne : 0 < (skipB l).1.length := List.length_pos_iff.2 (by assumption)
          rw [lexF_fuel f (f + 1) _ _ _ (by rw [List.length_drop]; omega) (by rw [List.length_drop]; omega)]

def shiftT (k : Nat) (t : Tok) : Tok := { t with line := t.line + (k : Int) }
theorem lexF_shift (k : Nat) : ∀ (f : Nat) (l : List UInt8) (a : Nat) (first : Bool), (lexF f l (a + k) first).1 = (lexF f l a first).1.map (shiftT k) ∧ (lexF f l (a + k) first).2.2 = (lexF f l a first).2.2 := by
  intro f
  induction f with
  | zero => exact fun l a first => ⟨rfl, rfl⟩
  | succ f ih =>
    intro l a first
    simp only [lexF]
    split
    · exact ⟨rfl, rfl⟩
    · split
      · refine ⟨?_, rfl⟩
        simp only [List.map_cons, List.map_nil, shiftT]
        congr 2
        omega
      · cases ht : tokF (skipB l).1 with
        | none => exact ⟨rfl, rfl⟩
        | some t =>
          simp only
          have h := ih ((skipB l).1.drop t.len) (a + lines (l.take (l.length - (skipB l).1.length)) + lines ((skipB l).1.take t.len)) false
          rw [show a + lines (l.take (l.length - (skipB l).1.length)) + lines ((skipB l).1.take t.len) + k = a + k + lines (l.take (l.length - (skipB l).1.length)) + lines ((skipB l).1.take t.len) by omega] at h
          rw [h.1, h.2]
          refine ⟨?_, rfl⟩
          simp only [List.map_cons, shiftT]
          congr 2
          omega

def endTok (line : Nat) : Tok := ⟨0, line, 0, [], false, false⟩
theorem lines_app (a b : List UInt8) : lines (a ++ b) = lines a + lines b := by unfold lines; rw [List.count_append]
theorem lines_split (l : List UInt8) (k : Nat) : lines (l.take k) + lines (l.drop k) = lines l := by rw [← lines_app, List.take_append_drop]
theorem lex_app (b : List UInt8) : ∀ (f : Nat) (u : List UInt8) (line : Nat) (first : Bool) (ts : List Tok) (ln : Int), Ends u → u.length < f → lexF f u line first = (ts, ln, 0) →
    ∃ ts0, ts = ts0 ++ [endTok (line + lines u)] ∧ lexF (f + b.length) (u ++ b) line first = (ts0 ++ (lexF (b.length + 1) b (line + lines u) true).1, (lexF (b.length + 1) b (line + lines u) true).2) := by
  intro f
  induction f with
  | zero => intro u line first ts ln _ hf; omega
  | succ f ih =>
    intro u line first ts ln hu hf h
    have hb : (u ++ b).length < f + 1 + b.length := by rw [List.length_append]; omega
    rw [lexF_step _ (u ++ b) _ _ hb]
    rw [lexF_step _ u _ _ hf] at h
    by_cases h1 : (skipB u).2 = false
    · rw [if_pos h1] at h
      cases h
    rw [if_neg h1] at h
    have h1' : (skipB u).2 = true := by simpa using h1
    have happ := skipB_app b hu h1'
    obtain ⟨k, hk, hkl⟩ := skipB_drop u
    by_cases h2 : (skipB u).1 = []
    · rw [if_pos h2] at h
      have happ : skipB (u ++ b) = skipB b := by rw [happ]; unfold behind; rw [if_pos h2]; rfl
      rw [happ]
      rw [h2, List.length_nil, Nat.sub_zero, List.take_length] at h
      cases h
      refine ⟨[], rfl, ?_⟩
      have hbl := skipB_len b
      have e1 : (u ++ b).take ((u ++ b).length - (skipB b).1.length) = u ++ b.take (b.length - (skipB b).1.length) := by
        rw [List.take_append, List.length_append, List.take_of_length_le (by omega)]
        congr 2
        omega
      have e2 : (!first && ((skipB b).1.length == (u ++ b).length)) = (!true && ((skipB b).1.length == b.length)) := by
        have : 0 < u.length := List.length_pos_iff.2 hu.ne
        have : ((skipB b).1.length == (u ++ b).length) = false := by rw [beq_eq_false_iff_ne, List.length_append]; omega
        rw [this]
        simp
      rw [e1, e2, lines_app, ← Nat.add_assoc, List.nil_append]
      rw [lexF_step (b.length + 1) b _ _ (by omega)]
      split
      · rfl
      · split
        · rfl
        · cases ht : tokF (skipB b).1 with
          | none => rfl
          | some t =>
            simp only
            have h3 := tokF_pos ht
            have hne : 0 < (skipB b).1.length := List.length_pos_iff.2 (by assumption)
            rw [lexF_fuel (f + 1 + b.length) (b.length + 1) _ _ _ (by rw [List.length_drop]; omega) (by rw [List.length_drop]; omega)]
    · rw [if_neg h2] at h
      have happ : skipB (u ++ b) = ((skipB u).1 ++ b, true) := by rw [happ]; unfold behind; rw [if_neg h2]
      have hkk : k < u.length := by
        rcases Nat.lt_or_ge k u.length with hl | hl
        · exact hl
        · exact absurd (by rw [hk, List.drop_eq_nil_of_le hl]) h2
      have hE : Ends (skipB u).1 := by rw [hk]; exact hu.drop k hkk
      rw [happ]
      cases ht : tokF (skipB u).1 with
      | none =>
        rw [ht] at h
        cases h
      | some t =>
        rw [ht] at h
        obtain ⟨ht', hlt⟩ := tokF_app b hE ht
        simp only at h ⊢
        rw [ht']
        simp only
        have hpos := tokF_pos ht
        have hsl := skipB_len u
        have e1 : (u ++ b).take ((u ++ b).length - ((skipB u).1 ++ b).length) = u.take (u.length - (skipB u).1.length) := by
          rw [List.length_append, List.length_append, List.take_append_of_le_length (by omega)]
          congr 1
          omega
        have e2 : ((skipB u).1 ++ b).drop t.len = (skipB u).1.drop t.len ++ b := List.drop_append_of_le_length (by omega)
        have e3 : ((skipB u).1 ++ b).take t.len = (skipB u).1.take t.len := List.take_append_of_le_length (by omega)
        have e4 : (((skipB u).1 ++ b).length == (u ++ b).length) = ((skipB u).1.length == u.length) := by
          rw [List.length_append, List.length_append]
          by_cases e : (skipB u).1.length = u.length
          · rw [e]; simp
          · have : (skipB u).1.length + b.length ≠ u.length + b.length := by omega
            rw [beq_eq_false_iff_ne.2 e, beq_eq_false_iff_ne.2 this]
        have hE2 : Ends ((skipB u).1.drop t.len) := hE.drop _ hlt
        have hne2 : (skipB u).1.drop t.len ≠ [] := hE2.ne
        rw [e1, e2, e3, e4, head_app hne2]
        have hl2 : ((skipB u).1.drop t.len).length < f := by rw [List.length_drop]; omega
        generalize hL1 : line + lines (u.take (u.length - (skipB u).1.length)) = L1 at h ⊢
        have hlines : L1 + lines ((skipB u).1.take t.len) + lines ((skipB u).1.drop t.len) = line + lines u := by
          have a1 := lines_split (skipB u).1 t.len
          have a2 := lines_split u k
          rw [← hk] at a2
          have a3 : u.length - (skipB u).1.length = k := by rw [hk, List.length_drop]; omega
          rw [a3] at hL1
          omega
        cases hr : lexF (f + 1) ((skipB u).1.drop t.len) (L1 + lines ((skipB u).1.take t.len)) false with
        | mk ts1 x =>
          obtain ⟨ln1, e1'⟩ := x
          rw [hr] at h
          simp only [Prod.mk.injEq] at h
          obtain ⟨rfl, rfl, rfl⟩ := h
          rw [lexF_fuel (f + 1) f _ _ _ (by omega) hl2] at hr
          obtain ⟨ts0, rfl, h0⟩ := ih _ _ _ _ _ hE2 hl2 hr
          rw [hlines] at h0 ⊢
          refine ⟨_ :: ts0, rfl, ?_⟩
          rw [lexF_fuel (f + 1 + b.length) (f + b.length) _ _ _ (by rw [List.length_append]; omega) (by rw [List.length_append]; omega), h0, if_neg (by simp), if_neg (by simp [h2])]
          rfl
end Go.Proofs.YtmgidfndifhcoaaDoor
/-
  What the lexer's functions answer: a clause's end, a text in quotes, a name, or none of that sort. No condition but the sizes that are named.
-/
namespace Go.Proofs.YtmgidfndifhcoaaDoor
open Go.RowKit
set_option maxRecDepth 100000

theorem below_two' {w u w1 : World} {o1 o2 : Obj} (hb : Below u.heap.size u w1) (hu : u.heap = ((w.alloc o1).alloc o2).heap) : w1.heap[w.heap.size]? = some o1 ∧ w1.heap[w.heap.size + 1]? = some o2 := by
  have e1 : u.heap.size = w.heap.size + 1 + 1 := by rw [hu]; simp
  have e2 : (w.alloc o1).heap.size = w.heap.size + 1 := by simp
  refine ⟨?_, ?_⟩
  · rw [hb.block _ (by omega), hu, Below.heap_alloc _ _ _ (by omega)]
    exact heap_alloc_new w o1
  · rw [hb.block _ (by omega), hu, ← e2]
    exact heap_alloc_new (w.alloc o1) o2
theorem below_one' {w u w1 : World} {o1 : Obj} (hb : Below u.heap.size u w1) (hu : u.heap = (w.alloc o1).heap) : w1.heap[w.heap.size]? = some o1 := by
  have e1 : u.heap.size = w.heap.size + 1 := by rw [hu]; simp
  rw [hb.block _ (by omega), hu]
  exact heap_alloc_new w o1

set_option maxHeartbeats 2000000 in
theorem stop_any (w : World) (xv : Value) (l : List UInt8) (c : UInt8) (r : List UInt8) (hlc : l = c :: r) (hl : (l.length : Int) ≤ 1000000) :
    Calls Tryd.prog 22 #[xv, .string ⟨l.toArray⟩] w fun e w' => e = .returned (tryV (if c = 46 ∧ (r = [] ∨ r.headD 0 = 37 ∨ bsort (r.headD 0) = 1) then some (some ⟨7, 0, [], 1⟩) else none)) ∧ Below w.heap.size w w' := by
  have hlen : 0 < l.length := by rw [hlc]; simp
  have hx : (⟨l.toArray⟩ : ByteArray)[0]'(by show 0 < l.toArray.size; simpa using hlen) = c := by subst hlc; rfl
  by_cases h46 : c = 46
  · have t46 : ((c.toNat : Int) == 46) = true := byte_eq h46
    by_cases h1 : (l.length : Int) = 1
    · have t1 : ((l.length : Int) == 1) = true := by rw [h1]; rfl
      rw [if_pos ⟨h46, .inl (List.eq_nil_of_length_eq_zero (by rw [hlc] at h1; simp at h1; omega))⟩]
      clear h1 h46 hlc
      go_enter Tryd.func22, Tryd.ntmps22
      go_wp2_with fail
      refine bodyPost_ret (v := tryV (some (some ⟨7, 0, [], 1⟩))) (by simp [results, Tryd.results22, go_sem, tryV, tokV]) rfl ⟨rfl, ?_⟩
      repeat (refine Below.setCell ?_ (by simp) _)
      exact (Below.refl _ _).alloc (Nat.le_refl _) _
    · have t1 : ((l.length : Int) == 1) = false := beq_eq_false_iff_ne.2 h1
      have h1l : 1 < l.length := by omega
      have h1' : (1 : Int) < (l.length : Int) := by omega
      obtain ⟨d, hd, hx1, -⟩ := byte_at l 1 h1l
      have hr : r = d :: l.drop (1 + 1) := by rw [← hd, hlc]; rfl
      have hrd : r.headD 0 = d := by rw [hr]; rfl
      have hrn : r ≠ [] := by rw [hr]; simp
      rw [hrd]
      clear hr hrd hd h1
      by_cases h37 : d = 37
      · have t37 : ((d.toNat : Int) == 37) = true := byte_eq h37
        rw [if_pos ⟨h46, .inr (.inl h37)⟩]
        clear h37 h46 hlc hrn
        go_enter Tryd.func22, Tryd.ntmps22
        go_wp2_with fail
        refine bodyPost_ret (v := tryV (some (some ⟨7, 0, [], 1⟩))) (by simp [results, Tryd.results22, go_sem, tryV, tokV]) rfl ⟨rfl, ?_⟩
        repeat (refine Below.setCell ?_ (by simp) _)
        exact (Below.refl _ _).alloc (Nat.le_refl _) _
      · have t37 : ((d.toNat : Int) == 37) = false := byte_ne h37
        by_cases hb : bsort d = 1
        · rw [if_pos ⟨h46, .inr (.inr hb)⟩]
          clear h37 h46 hlc hrn
          go_enter Tryd.func22, Tryd.ntmps22
          go_wp2_with fail
          refine (sort_byte _ d).mono ?_
          rintro e w' ⟨rfl, rfl⟩
          go_wp2_with fail
          refine bodyPost_ret (v := tryV (some (some ⟨7, 0, [], 1⟩))) (by simp [results, Tryd.results22, go_sem, tryV, tokV]) rfl ⟨rfl, ?_⟩
          repeat (refine Below.setCell ?_ (by simp) _)
          exact (Below.refl _ _).alloc (Nat.le_refl _) _
        · have tb : (bsort d == 1) = false := beq_eq_false_iff_ne.2 hb
          rw [if_neg (fun h => h.2.elim hrn (fun h => h.elim h37 hb))]
          clear h37 h46 hlc hrn hb
          go_enter Tryd.func22, Tryd.ntmps22
          go_wp2_with fail
          refine (sort_byte _ d).mono ?_
          rintro e w' ⟨rfl, rfl⟩
          go_wp2_with fail
          refine bodyPost_ret (v := tryV none) (by simp [results, Tryd.results22, go_sem, tryV, tokV]) rfl ⟨rfl, ?_⟩
          repeat (refine Below.setCell ?_ (by simp) _)
          exact (Below.refl _ _).alloc (Nat.le_refl _) _
  · have t46 : ((c.toNat : Int) == 46) = false := byte_ne h46
    rw [if_neg (fun h => h46 h.1)]
    clear h46 hlc
    go_enter Tryd.func22, Tryd.ntmps22
    go_wp2_with fail
    refine bodyPost_ret (v := tryV none) (by simp [results, Tryd.results22, go_sem, tryV, tokV]) rfl ⟨rfl, ?_⟩
    repeat (refine Below.setCell ?_ (by simp) _)
    exact (Below.refl _ _).alloc (Nat.le_refl _) _

set_option maxHeartbeats 2000000 in
theorem quoted_any (w : World) (xv : Value) (l : List UInt8) (c : UInt8) (r : List UInt8) (hlc : l = c :: r) (hl : (l.length : Int) ≤ 1000000) :
    Calls Tryd.prog 26 #[xv, .string ⟨l.toArray⟩] w fun e w' => e = .returned (tryV (if c = 39 then some ((getQ 39 r).map fun x => ⟨2, 0, x.1, x.2 + 1⟩) else if c = 34 then some ((getQ 34 r).map fun x => ⟨5, 0, x.1, x.2 + 1⟩) else none)) ∧ Below w.heap.size w w' := by
  have hlen : 0 < l.length := by rw [hlc]; simp
  have hx : (⟨l.toArray⟩ : ByteArray)[0]'(by show 0 < l.toArray.size; simpa using hlen) = c := by subst hlc; rfl
  have hs : (⟨l.toArray⟩ : ByteArray).extract 1 l.length = ⟨r.toArray⟩ := by rw [slice_end, hlc]; rfl
  have hrl : (r.length : Int) + 1 ≤ 1000000 := by rw [hlc] at hl; simpa using hl
  have hl1 : (1 : Int) ≤ (l.length : Int) := by omega
  clear hlc
  by_cases h39 : c = 39
  · rw [if_pos h39]
    subst h39
    have hbd : ∀ x, getQ 39 r = some x → x.2 ≤ r.length := fun x h => getQ_le h
    have HBD := Lib.hid hbd
    clear hbd
    cases hG : getQ 39 r with
    | none =>
      have HG := Lib.hid hG
      clear hG
      simp only [Option.map_none]
      go_enter Tryd.func26, Tryd.ntmps26
      go_wp2_with fail
      go_region_held3 (fun _ => True) (trivial) (first | (go_at_call 49; refine (get_any _ r 39 39 rfl (by omega)).mono ?_; rintro e w1 ⟨rfl, hb⟩; rw [HG.out]; simp only [getRes]))
      obtain ⟨hA, hB⟩ := below_two' (w := w) hb rfl
      obtain ⟨⟨a0, a1, a2, a3, a4, a5⟩, hfa⟩ := six_cells hA
      obtain ⟨⟨b0, b1, b2, b3, b4, b5⟩, hfb⟩ := six_cells hB
      have hz : w.heap.size + 2 ≤ w1.heap.size := by have := hb.size; simp at this; omega
      have HB := Lib.hid hb
      clear hb hA hB
      go_wp2_with fail
      refine bodyPost_ret (v := tryV (some none)) (by simp [results, Tryd.results26, go_sem, tryV, tokV, a0, a1, a2, a3, a4, a5]) rfl ⟨rfl, ?_⟩
      repeat (refine Below.setCell ?_ (by simp) _)
      exact ((((Below.refl _ _).alloc (Nat.le_refl _) _).alloc (by simp) _).drew.trans (HB.out.mono (by simp; omega)))
    | some x =>
      obtain ⟨x1, x2⟩ := x
      have HG := Lib.hid hG
      have hx2 := HBD.out _ hG
      simp only at hx2
      have hx2' : (x2 : Int) ≤ 1000000 := by omega
      clear hG hx2
      simp only [Option.map_some]
      go_enter Tryd.func26, Tryd.ntmps26
      go_wp2_with fail
      go_region_held3 (fun _ => True) (trivial) (first | (go_at_call 49; refine (get_any _ r 39 39 rfl (by omega)).mono ?_; rintro e w1 ⟨rfl, hb⟩; rw [HG.out]; simp only [getRes]))
      obtain ⟨hA, hB⟩ := below_two' (w := w) hb rfl
      obtain ⟨⟨a0, a1, a2, a3, a4, a5⟩, hfa⟩ := six_cells hA
      obtain ⟨⟨b0, b1, b2, b3, b4, b5⟩, hfb⟩ := six_cells hB
      have hz : w.heap.size + 2 ≤ w1.heap.size := by have := hb.size; simp at this; omega
      have HB := Lib.hid hb
      clear hb hA hB
      go_wp2_with fail
      refine bodyPost_ret (v := tryV (some (some ⟨2, 0, x1, x2 + 1⟩))) (by simp [results, Tryd.results26, go_sem, tryV, tokV, a0, a1, a2, a3, a4, a5]) rfl ⟨rfl, ?_⟩
      repeat (refine Below.setCell ?_ (by simp) _)
      exact ((((Below.refl _ _).alloc (Nat.le_refl _) _).alloc (by simp) _).drew.trans (HB.out.mono (by simp; omega)))
  rw [if_neg h39]
  have t39 : ((c.toNat : Int) == 39) = false := byte_ne h39
  by_cases h34 : c = 34
  · rw [if_pos h34]
    subst h34
    have hbd : ∀ x, getQ 34 r = some x → x.2 ≤ r.length := fun x h => getQ_le h
    have HBD := Lib.hid hbd
    clear hbd
    cases hG : getQ 34 r with
    | none =>
      have HG := Lib.hid hG
      clear hG
      simp only [Option.map_none]
      go_enter Tryd.func26, Tryd.ntmps26
      go_wp2_with fail
      go_region_held3 (fun _ => True) (trivial) (first | (go_at_call 49; refine (get_any _ r 34 34 rfl (by omega)).mono ?_; rintro e w1 ⟨rfl, hb⟩; rw [HG.out]; simp only [getRes]))
      obtain ⟨hA, hB⟩ := below_two' (w := w) hb rfl
      obtain ⟨⟨a0, a1, a2, a3, a4, a5⟩, hfa⟩ := six_cells hA
      obtain ⟨⟨b0, b1, b2, b3, b4, b5⟩, hfb⟩ := six_cells hB
      have hz : w.heap.size + 2 ≤ w1.heap.size := by have := hb.size; simp at this; omega
      have HB := Lib.hid hb
      clear hb hA hB
      go_wp2_with fail
      refine bodyPost_ret (v := tryV (some none)) (by simp [results, Tryd.results26, go_sem, tryV, tokV, a0, a1, a2, a3, a4, a5]) rfl ⟨rfl, ?_⟩
      repeat (refine Below.setCell ?_ (by simp) _)
      exact ((((Below.refl _ _).alloc (Nat.le_refl _) _).alloc (by simp) _).drew.trans (HB.out.mono (by simp; omega)))
    | some x =>
      obtain ⟨x1, x2⟩ := x
      have HG := Lib.hid hG
      have hx2 := HBD.out _ hG
      simp only at hx2
      have hx2' : (x2 : Int) ≤ 1000000 := by omega
      clear hG hx2
      simp only [Option.map_some]
      go_enter Tryd.func26, Tryd.ntmps26
      go_wp2_with fail
      go_region_held3 (fun _ => True) (trivial) (first | (go_at_call 49; refine (get_any _ r 34 34 rfl (by omega)).mono ?_; rintro e w1 ⟨rfl, hb⟩; rw [HG.out]; simp only [getRes]))
      obtain ⟨hA, hB⟩ := below_two' (w := w) hb rfl
      obtain ⟨⟨a0, a1, a2, a3, a4, a5⟩, hfa⟩ := six_cells hA
      obtain ⟨⟨b0, b1, b2, b3, b4, b5⟩, hfb⟩ := six_cells hB
      have hz : w.heap.size + 2 ≤ w1.heap.size := by have := hb.size; simp at this; omega
      have HB := Lib.hid hb
      clear hb hA hB
      go_wp2_with fail
      refine bodyPost_ret (v := tryV (some (some ⟨5, 0, x1, x2 + 1⟩))) (by simp [results, Tryd.results26, go_sem, tryV, tokV, a0, a1, a2, a3, a4, a5]) rfl ⟨rfl, ?_⟩
      repeat (refine Below.setCell ?_ (by simp) _)
      exact ((((Below.refl _ _).alloc (Nat.le_refl _) _).alloc (by simp) _).drew.trans (HB.out.mono (by simp; omega)))
  rw [if_neg h34]
  have t34 : ((c.toNat : Int) == 34) = false := byte_ne h34
  clear h39 h34
  go_enter Tryd.func26, Tryd.ntmps26
  go_wp2_with fail
  refine bodyPost_ret (v := tryV none) (by simp [results, Tryd.results26, go_sem, tryV, tokV]) rfl ⟨rfl, ?_⟩
  repeat (refine Below.setCell ?_ (by simp) _)
  exact ((Below.refl _ _).alloc (Nat.le_refl _) _).alloc (by simp) _

end Go.Proofs.YtmgidfndifhcoaaDoor
/-
  Contracts of functions of Go's library over this program, as the kit's tools lay them (lay-shelf, lay-plain), those that are used here. Each names its own conditions.
-/
namespace Go.Proofs
open Go.Shelf
def Tryd.lays137_ren : Go.Shelf.Ren := ⟨fun | 137 => 51 | 217 => 76 | 266 => 98 | n => n, fun | 9 => 9 | 5 => 5 | 3 => 3 | n => n, fun | n => n⟩
theorem Tryd.lays137 : Go.Proofs.Lays.n137 Tryd.prog Tryd.lays137_ren := {
  mixed := by kernel_rfl
  f137 := Tryd.func51.trans (congrArg some (by kernel_rfl))
  f217 := Tryd.func76.trans (congrArg some (by kernel_rfl))
  f266 := Tryd.func98.trans (congrArg some (by kernel_rfl))
  t3 := Tryd.underlying3
  a3 := Tryd.isAgg3
  z3 := Tryd.sizeOf3
  v3 := Tryd.zeroValue3
  t5 := Tryd.underlying5
  a5 := Tryd.isAgg5
  z5 := Tryd.sizeOf5
  v5 := Tryd.zeroValue5
  t9 := Tryd.underlying9
  a9 := Tryd.isAgg9
  z9 := Tryd.sizeOf9
  v9 := Tryd.zeroValue9 }
open Go.RowKit in
theorem Tryd.strings_IndexByte (s : ByteArray) (c : Int) (w : World) :
    Calls Tryd.prog 51 #[.string s, .int .u8 c] w fun e w' => e = .returned (.int .i64 (Lib.indexByte s.data.toList c.toNat.toUInt8)) ∧ w' = w := Any.strings_IndexByte Tryd.lays137 s c w
def Tryd.lays143_ren : Go.Shelf.Ren := ⟨fun | 143 => 53 | 219 => 78 | 217 => 76 | 225 => 99 | 224 => 100 | 267 => 101 | 266 => 98 | 314 => 110 | n => n, fun | 9 => 9 | 3 => 3 | 4 => 4 | 5 => 5 | 46 => 171 | 146 => 187 | 51 => 155 | n => n, fun | 1 => 3 | n => n⟩
theorem Tryd.lays143 : Go.Proofs.Lays.n143 Tryd.prog Tryd.lays143_ren := {
  mixed := by kernel_rfl
  f143 := Tryd.func53.trans (congrArg some (by kernel_rfl))
  f217 := Tryd.func76.trans (congrArg some (by kernel_rfl))
  f219 := Tryd.func78.trans (congrArg some (by kernel_rfl))
  f224 := Tryd.func100.trans (congrArg some (by kernel_rfl))
  f225 := Tryd.func99.trans (congrArg some (by kernel_rfl))
  f266 := Tryd.func98.trans (congrArg some (by kernel_rfl))
  f267 := Tryd.func101.trans (congrArg some (by kernel_rfl))
  f314 := Tryd.func110.trans (congrArg some (by kernel_rfl))
  t3 := Tryd.underlying3
  a3 := Tryd.isAgg3
  z3 := Tryd.sizeOf3
  v3 := Tryd.zeroValue3
  t4 := Tryd.underlying4
  a4 := Tryd.isAgg4
  z4 := Tryd.sizeOf4
  v4 := Tryd.zeroValue4
  t5 := Tryd.underlying5
  a5 := Tryd.isAgg5
  z5 := Tryd.sizeOf5
  v5 := Tryd.zeroValue5
  t9 := Tryd.underlying9
  a9 := Tryd.isAgg9
  z9 := Tryd.sizeOf9
  v9 := Tryd.zeroValue9
  t46 := Tryd.underlying171
  a46 := Tryd.isAgg171
  z46 := Tryd.sizeOf171
  v46 := Tryd.zeroValue171
  t51 := Tryd.underlying155
  a51 := Tryd.isAgg155
  z51 := Tryd.sizeOf155
  v51 := Tryd.zeroValue155
  t146 := Tryd.underlying187
  a146 := Tryd.isAgg187
  z146 := Tryd.sizeOf187
  v146 := Tryd.zeroValue187
  g1 := by kernel_rfl }
open Go.RowKit Go.Lib in
theorem Tryd.strings_Index (s sub : ByteArray) (m : Int) (w : World) (hs : s.size < 4294967281) (hm : w.cell? ⟨3, 0, none⟩ = some (.int .i64 m)) :
    Calls Tryd.prog 53 #[.string s, .string sub] w fun e w' => e = .returned (.int .i64 (Lib.index s.data.toList sub.data.toList)) ∧ w' = w := Any.strings_Index Tryd.lays143 s sub m w hs hm
def Tryd.lays138_ren : Go.Shelf.Ren := ⟨fun | 138 => 75 | 195 => 96 | 218 => 97 | 143 => 53 | 219 => 78 | 217 => 76 | 225 => 99 | 224 => 100 | 267 => 101 | 266 => 98 | 314 => 110 | n => n, fun | 9 => 9 | 3 => 3 | 4 => 4 | 5 => 5 | 0 => 0 | 46 => 171 | 146 => 187 | 51 => 155 | n => n, fun | 1 => 3 | n => n⟩
theorem Tryd.lays138 : Go.Proofs.Lays.n138 Tryd.prog Tryd.lays138_ren := {
  mixed := by kernel_rfl
  f138 := Tryd.func75.trans (congrArg some (by kernel_rfl))
  f143 := Tryd.func53.trans (congrArg some (by kernel_rfl))
  f195 := Tryd.func96.trans (congrArg some (by kernel_rfl))
  f217 := Tryd.func76.trans (congrArg some (by kernel_rfl))
  f218 := Tryd.func97.trans (congrArg some (by kernel_rfl))
  f219 := Tryd.func78.trans (congrArg some (by kernel_rfl))
  f224 := Tryd.func100.trans (congrArg some (by kernel_rfl))
  f225 := Tryd.func99.trans (congrArg some (by kernel_rfl))
  f266 := Tryd.func98.trans (congrArg some (by kernel_rfl))
  f267 := Tryd.func101.trans (congrArg some (by kernel_rfl))
  f314 := Tryd.func110.trans (congrArg some (by kernel_rfl))
  t0 := Tryd.underlying0
  a0 := Tryd.isAgg0
  z0 := Tryd.sizeOf0
  v0 := Tryd.zeroValue0
  t3 := Tryd.underlying3
  a3 := Tryd.isAgg3
  z3 := Tryd.sizeOf3
  v3 := Tryd.zeroValue3
  t4 := Tryd.underlying4
  a4 := Tryd.isAgg4
  z4 := Tryd.sizeOf4
  v4 := Tryd.zeroValue4
  t5 := Tryd.underlying5
  a5 := Tryd.isAgg5
  z5 := Tryd.sizeOf5
  v5 := Tryd.zeroValue5
  t9 := Tryd.underlying9
  a9 := Tryd.isAgg9
  z9 := Tryd.sizeOf9
  v9 := Tryd.zeroValue9
  t46 := Tryd.underlying171
  a46 := Tryd.isAgg171
  z46 := Tryd.sizeOf171
  v46 := Tryd.zeroValue171
  t51 := Tryd.underlying155
  a51 := Tryd.isAgg155
  z51 := Tryd.sizeOf155
  v51 := Tryd.zeroValue155
  t146 := Tryd.underlying187
  a146 := Tryd.isAgg187
  z146 := Tryd.sizeOf187
  v146 := Tryd.zeroValue187
  g1 := by kernel_rfl }
open Go.RowKit Go.Lib in
theorem Tryd.strings_Count_one (s : ByteArray) (c : UInt8) (w : World) :
    Calls Tryd.prog 75 #[.string s, .string ⟨#[c]⟩] w fun e w' => e = .returned (.int .i64 (Lib.countByte s.data.toList c)) ∧ w' = w := Any.strings_Count_one Tryd.lays138 s c w
end Go.Proofs
