/-
  The tokens of two atoms as they are written, with blanks and comments between them. No condition.
-/
import Derived.Test.YtplejnlgehjgjaaDoorTokAtomsP
namespace Go.Proofs.YtplejnlgehjgjaaDoor

def atL (n : Int) (t : Tok) : Tok := { t with line := n }
/-- An atom's tokens, no line told. -/
def atomToks (s : List UInt8) : List Tok :=
  if s = [91, 93] then [⟨6, 0, 0, [91], false, false⟩, ⟨6, 0, 0, [93], false, true⟩]
  else if s = [123, 125] then [⟨6, 0, 0, [123], false, false⟩, ⟨6, 0, 0, [125], false, true⟩]
  else [⟨if plainB s then 1 else 2, 0, 0, s, false, false⟩]

section
variable {x : UInt8} (hx : bsort x = 1) (R : List UInt8)
include hx
theorem x_word : isWord x = false := by simp [isWord, hx]
theorem x_sign : isSign x = false := by simp [isSign, hx]
theorem x_ne {c : UInt8} (hc : bsort c ≠ 1) : x ≠ c := fun e => hc (e ▸ hx)
omit hx in
theorem span_x {p : UInt8 → Bool} {l : List UInt8} (h : l.all p = true) (hp : p x = false) : spanN p (l ++ x :: R) = l.length :=
  spanN_all p x hp R l (List.all_eq_true.1 h)
theorem atom_tok (s : List UInt8) (h1 : s ≠ [91, 93]) (h2 : s ≠ [123, 125]) :
    tokF (putB s ++ x :: R) = some ⟨if plainB s then 1 else 2, 0, s, (putB s).length⟩ ∧ skipB (putB s ++ x :: R) = (putB s ++ x :: R, true) ∧ putB s ≠ [] := by
  by_cases hp : plainB s = true
  · have hput : putB s = s := by unfold putB; rw [if_pos hp]
    rw [hput, if_pos hp]
    have hp' := hp
    unfold plainB at hp'
    split at hp'
    · cases hp'
    rename_i hne
    simp only [not_or] at hne
    cases s with
    | nil => exact absurd rfl hne.1
    | cons c r =>
      have htk : (c :: (r ++ x :: R)).take (c :: r).length = c :: r := by rw [show c :: (r ++ x :: R) = (c :: r) ++ x :: R from rfl, List.take_left]
      rw [show (c :: r) ++ x :: R = c :: (r ++ x :: R) from rfl]
      split at hp'
      · rename_i h4
        have h5 : c :: r = [33] ∨ c :: r = [59] := by
          rcases h4 with h | h | h | h
          · exact absurd h h1
          · exact .inl h
          · exact .inr h
          · exact absurd h h2
        have hc : bsort c = 6 := by rcases h5 with h | h <;> (cases h; decide)
        have hr : r = [] := by rcases h5 with h | h <;> (cases h; rfl)
        subst hr
        refine ⟨?_, skip_at (by rw [hc]; decide) (by rintro rfl; revert hc; decide) (by rintro ⟨rfl, -⟩; revert hc; decide), by simp⟩
        have c46 : c ≠ 46 := by rintro rfl; revert hc; decide
        unfold tokF
        simp only
        rw [if_neg (by simp [c46]), if_neg (by rw [hc]; decide), if_neg (by rw [hc]; decide), if_pos hc]
        rfl
      rename_i h4
      split at hp'
      · rename_i hsm
        have hc : bsort c = 2 := hsm
        have c46 : c ≠ 46 := by rintro rfl; revert hc; decide
        refine ⟨?_, skip_at (by rw [hc]; decide) (by rintro rfl; revert hc; decide) (by rintro ⟨rfl, -⟩; revert hc; decide), by simp⟩
        have hsp : spanN isWord (c :: (r ++ x :: R)) = (c :: r).length := span_x R hp' (x_word hx)
        unfold tokF
        simp only
        rw [if_neg (by simp [c46]), if_pos hc, hsp, htk]
      · rename_i hsm
        rw [Bool.and_eq_true] at hp'
        obtain ⟨hq1, hq2⟩ := hp'
        have hc : bsort c = 5 := by
          have := List.all_eq_true.1 hq2 c (List.mem_cons_self ..)
          simpa [isSign] using this
        have hsl : ¬ (c = 47 ∧ (r ++ x :: R).head? = some 42) := by
          rintro ⟨rfl, h⟩
          cases r with
          | nil => simp at h; exact x_ne hx (c := 42) (by decide) h
          | cons d r => simp at h; subst h; simp at hq1
        have hdot : ¬ (c = 46 ∧ ((r ++ x :: R) = [] ∨ (r ++ x :: R).headD 0 = 37 ∨ bsort ((r ++ x :: R).headD 0) = 1)) := by
          rintro ⟨rfl, h⟩
          cases r with
          | nil => exact hne.2 rfl
          | cons d r =>
            have hd := List.all_eq_true.1 hq2 d (by simp)
            have hd5 : bsort d = 5 := by simpa [isSign] using hd
            rcases h with h | h | h
            · simp at h
            · simp at h; subst h; revert hd5; decide
            · simp at h; rw [hd5] at h; revert h; decide
        refine ⟨?_, skip_at (by rw [hc]; decide) (by rintro rfl; revert hc; decide) hsl, by simp⟩
        have hsp : spanN isSign (c :: (r ++ x :: R)) = (c :: r).length := span_x R hq2 (x_sign hx)
        unfold tokF
        simp only
        rw [if_neg hdot, if_neg (by rw [hc]; decide), if_pos hc, hsp, htk]
  · have hput : putB s = 39 :: (s.flatMap escB ++ [39]) := by unfold putB; rw [if_neg hp]; simp [quoteB]
    rw [hput, if_neg hp]
    have hg := getQ_esc s (x :: R) (by simp; exact x_ne hx (c := 39) (by decide))
    generalize s.flatMap escB = E at *
    have he : 39 :: (E ++ [39]) ++ x :: R = 39 :: (E ++ 39 :: (x :: R)) := by simp
    rw [he]
    have h39 : bsort 39 = 8 := by decide
    refine ⟨?_, skip_at (by decide) (by decide) (by simp), by simp⟩
    unfold tokF
    simp only [h39, hg]
    rw [if_neg (by simp)]
    simp
/-- An atom behind what stands between tokens. -/
theorem lexF_atom (s sep : List UInt8) (f line : Nat) (first : Bool) (hs : skipB (sep ++ (putB s ++ x :: R)) = (putB s ++ x :: R, true)) (hsep : first = true ∨ sep ≠ []) (hf : (sep ++ (putB s ++ x :: R)).length < f) :
    ∃ L L', lexF f (sep ++ (putB s ++ x :: R)) line first = ((atomToks s).map (atL L) ++ (lexF f (x :: R) L' false).1, (lexF f (x :: R) L' false).2) := by
  have ht : (!first && ((putB s ++ x :: R).length == (sep ++ (putB s ++ x :: R)).length)) = false := by
    rcases hsep with h | h
    · rw [h]; rfl
    · have : 0 < sep.length := List.length_pos_iff.2 h
      simp
      intro
      exact h
  have h40 : x ≠ 40 := x_ne hx (c := 40) (by decide)
  have pair : ∀ a b : UInt8, tokF (a :: b :: x :: R) = some ⟨6, 0, [a], 1⟩ → tokF (b :: x :: R) = some ⟨6, 0, [b], 1⟩ → skipB (b :: x :: R) = (b :: x :: R, true) → b ≠ 40 → a ≠ 10 → skipB (sep ++ (a :: b :: x :: R)) = (a :: b :: x :: R, true) →
      (!first && ((a :: b :: x :: R).length == (sep ++ (a :: b :: x :: R)).length)) = false → (sep ++ (a :: b :: x :: R)).length < f →
      ∃ L L', lexF f (sep ++ (a :: b :: x :: R)) line first = (([⟨6, 0, 0, [a], false, false⟩, ⟨6, 0, 0, [b], false, true⟩] : List Tok).map (atL L) ++ (lexF f (x :: R) L' false).1, (lexF f (x :: R) L' false).2) := by
    intro a b t1 t2 s2 hb ha hs ht hf
    have hd1 : (a :: b :: x :: R).drop 1 = b :: x :: R := rfl
    have hd2 : (b :: x :: R).drop 1 = x :: R := rfl
    have hk2 : (b :: x :: R).length - (b :: x :: R).length = 0 := by omega
    rw [lexF_step _ _ _ _ hf]
    simp only [hs, t1, ht, hd1]
    rw [lexF_step f (b :: x :: R) _ _ (by rw [List.length_append] at hf; simp only [List.length_cons] at hf ⊢; omega)]
    simp only [s2, t2, hd2, hk2, List.take_zero]
    have hk1 : lines ((a :: b :: x :: R).take 1) = 0 := by simp [lines, ha]
    have hl0 : lines ([] : List UInt8) = 0 := rfl
    rw [hk1, hl0]
    generalize line + lines (List.take ((sep ++ a :: b :: x :: R).length - (a :: b :: x :: R).length) (sep ++ a :: b :: x :: R)) = N
    refine ⟨(N : Int), N + 0 + 0 + lines ((b :: x :: R).take 1), ?_⟩
    simp [atL, hb, h40]
  by_cases h1 : s = [91, 93] ∨ s = [123, 125]
  · rcases h1 with rfl | rfl
    · exact pair 91 93 rfl rfl (skip_at (by decide) (by decide) (by simp)) (by decide) (by decide) hs ht hf
    · exact pair 123 125 rfl rfl (skip_at (by decide) (by decide) (by simp)) (by decide) (by decide) hs ht hf
  · simp only [not_or] at h1
    obtain ⟨t1, s1, hne⟩ := atom_tok hx R s h1.1 h1.2
    have hd : (putB s ++ x :: R).drop (putB s).length = x :: R := List.drop_left
    rw [lexF_step _ _ _ _ hf]
    simp only [hs, t1, ht, hd]
    generalize line + lines (List.take ((sep ++ (putB s ++ x :: R)).length - (putB s ++ x :: R).length) (sep ++ (putB s ++ x :: R))) = N
    refine ⟨(N : Int), N + lines ((putB s ++ x :: R).take (putB s).length), ?_⟩
    simp [atomToks, atL, h1.1, h1.2, hne, h40]
end

def zeroL (t : Tok) : Tok := { t with line := 0 }
theorem zero_at (n : Int) (l : List Tok) (h : ∀ t ∈ l, t.line = 0) : (l.map (atL n)).map zeroL = l := by
  rw [List.map_map]
  conv => rhs; rw [← List.map_id l]
  refine List.map_congr_left fun t ht => ?_
  have := h t ht
  cases t
  simp [zeroL, atL] at *
  omega
theorem atom_zero (s : List UInt8) : ∀ t ∈ atomToks s, t.line = 0 := by
  unfold atomToks
  intro t ht
  (repeat' split at ht) <;> simp at ht
  · rcases ht with rfl | rfl <;> rfl
  · rcases ht with rfl | rfl <;> rfl
  · subst ht; rfl
  · subst ht; rfl
theorem lexF_end (x : UInt8) (hx : bsort x = 1) (f line : Nat) (hf : 1 < f) : ∃ n : Int, lexF f [x] line false = ([⟨0, n, 0, [], false, false⟩], 0, 0) := by
  have hs : skipB [x] = ([], true) := by
    unfold skipB
    rw [List.length_singleton, skipF_cons, if_pos hx]
    rfl
  rw [lexF_step _ _ _ _ (by simpa using hf)]
  simp only [hs]
  exact ⟨_, rfl⟩
theorem atom_skip {x : UInt8} (hx : bsort x = 1) (R s : List UInt8) : skipB (putB s ++ x :: R) = (putB s ++ x :: R, true) := by
  by_cases h1 : s = [91, 93]
  · subst h1
    exact skip_at (by decide) (by decide) (by simp)
  by_cases h2 : s = [123, 125]
  · subst h2
    exact skip_at (by decide) (by decide) (by simp)
  exact (atom_tok hx R s h1 h2).2.1
/-- Two atoms, blanks and comments between them, a blank behind. -/
theorem two_atoms (s t sep : List UInt8) (y z : UInt8) (hy : bsort y = 1) (hz : bsort z = 1) (hs : ∀ T : List UInt8, skipB (y :: sep ++ T) = skipB T) :
    ∃ l : List Tok, lexB (putB s ++ (y :: sep ++ (putB t ++ [z]))) = (l, 0, 0) ∧ l.map zeroL = atomToks s ++ (atomToks t ++ [⟨0, 0, 0, [], false, false⟩]) := by
  have hlen : (putB s ++ (y :: sep ++ (putB t ++ [z]))).length = (putB s).length + (sep.length + 1 + ((putB t).length + 1)) := by simp; omega
  unfold lexB
  generalize hf : (putB s ++ (y :: sep ++ (putB t ++ [z]))).length + 1 = f
  obtain ⟨L1, M1, e1⟩ := lexF_atom hy (sep ++ (putB t ++ [z])) s [] f 1 true (atom_skip hy _ s) (.inl rfl) (by rw [List.nil_append, ← hf]; exact Nat.lt_succ_self _)
  obtain ⟨L2, M2, e2⟩ := lexF_atom hz [] t (y :: sep) f M1 false (by rw [hs]; exact atom_skip hz [] t) (.inr (by simp)) (by rw [← hf, hlen]; simp only [List.length_append, List.length_cons, List.length_nil]; omega)
  obtain ⟨n, e3⟩ := lexF_end z hz f M2 (by rw [← hf, hlen]; omega)
  rw [List.nil_append] at e1
  have e2' : lexF f (y :: (sep ++ (putB t ++ [z]))) M1 false = ((atomToks t).map (atL L2) ++ (lexF f [z] M2 false).1, (lexF f [z] M2 false).2) := e2
  rw [e3] at e2'
  rw [e2'] at e1
  refine ⟨_, e1, ?_⟩
  rw [List.map_append, List.map_append, zero_at _ _ (atom_zero s), zero_at _ _ (atom_zero t)]
  rfl
theorem skip_blank (T : List UInt8) : skipB ([32] ++ T) = skipB T := by
  unfold skipB
  show skipF (T.length + 1) (32 :: T) = _
  rw [skipF_cons, if_pos (by decide)]
theorem skipF_go (c : UInt8) (hc : bsort c = 1) (T : List UInt8) : skipB (c :: T) = skipB T := by
  unfold skipB
  rw [List.length_cons, skipF_cons, if_pos hc]
theorem skip_note (T : List UInt8) : skipB ([32, 47, 42, 32, 110, 111, 116, 101, 32, 42, 47, 32, 37, 32, 109, 111, 114, 101, 10, 9] ++ T) = skipB T := by
  have e1 : ∀ U : List UInt8, skipB (47 :: 42 :: 32 :: 110 :: 111 :: 116 :: 101 :: 32 :: 42 :: 47 :: U) = skipB U := by
    intro U
    have he : endOf (32 :: 110 :: 111 :: 116 :: 101 :: 32 :: 42 :: 47 :: U) = some 6 := by simp [endOf]
    unfold skipB
    rw [List.length_cons, skipF_cons, if_neg (by decide), if_neg (by decide), if_pos (by simp)]
    simp only [List.tail_cons, he]
    rw [show (32 :: 110 :: 111 :: 116 :: 101 :: 32 :: 42 :: 47 :: U).drop (6 + 2) = U from rfl]
    exact skipF_fuel _ _ _ (by simp only [List.length_cons]; omega) (Nat.le_refl _)
  have e2 : ∀ U : List UInt8, skipB (37 :: 32 :: 109 :: 111 :: 114 :: 101 :: 10 :: U) = skipB (10 :: U) := by
    intro U
    have hsp : spanN (fun c => decide (c ≠ 10)) (32 :: 109 :: 111 :: 114 :: 101 :: 10 :: U) = 5 := by simp [spanN_cons]
    unfold skipB
    rw [List.length_cons, skipF_cons, if_neg (by decide), if_pos rfl, hsp]
    rw [show (32 :: 109 :: 111 :: 114 :: 101 :: 10 :: U).drop 5 = 10 :: U from rfl]
    exact skipF_fuel _ _ _ (by simp only [List.length_cons]; omega) (Nat.le_refl _)
  show skipB (32 :: 47 :: 42 :: 32 :: 110 :: 111 :: 116 :: 101 :: 32 :: 42 :: 47 :: 32 :: 37 :: 32 :: 109 :: 111 :: 114 :: 101 :: 10 :: 9 :: T) = _
  rw [skipF_go 32 (by decide), e1, skipF_go 32 (by decide), e2, skipF_go 10 (by decide), skipF_go 9 (by decide)]
end Go.Proofs.YtplejnlgehjgjaaDoor
