/-
  What is written in quotes is read back, and the tokens of an atom as it is written. No condition.
-/
import Derived.Test.YtpiekfkkhgighaaDoorTokBasesP
namespace Go.Proofs.YtpiekfkkhgighaaDoor

theorem hexDigit_facts : ∀ d, d < 16 → hexVal (hexDigit d) = d ∧ hexDigit d ≠ 92 := by decide
theorem codedF_hex (c : UInt8) (t : List UInt8) : codedF 16 (hexOf c ++ 92 :: t) 0 0 = (c.toNat, (hexOf c).length + 1, true) := by
  have hc := c.toNat_lt
  unfold hexOf
  split
  · rename_i h
    obtain ⟨h1, h2⟩ := hexDigit_facts _ h
    simp only [List.cons_append, List.nil_append, codedF, h1]
    rw [if_neg h2, if_neg (by omega), if_neg (by omega)]
    simp
  · rename_i h
    obtain ⟨h1, h2⟩ := hexDigit_facts (c.toNat / 16) (by omega)
    obtain ⟨h3, h4⟩ := hexDigit_facts (c.toNat % 16) (by omega)
    simp only [List.cons_append, List.nil_append, codedF, h1, h3]
    rw [if_neg h2, if_neg (by omega), if_neg (by omega), if_neg h4, if_neg (by omega), if_neg (by omega)]
    simp
    omega
theorem escapeF_hex (c : UInt8) (t : List UInt8) : escapeF (120 :: (hexOf c ++ 92 :: t)) = (c.toNat, (hexOf c).length + 2, true) := by
  have h : escKnown 120 = none := by decide
  simp only [escapeF, h]
  rw [if_pos trivial, codedF_hex]

theorem getF_esc (rest : List UInt8) (hr : rest.head? ≠ some 39) : ∀ (s : List UInt8) (f i : Nat) (acc : List UInt8), (s.flatMap escB ++ 39 :: rest).length ≤ f →
    getF 39 f (s.flatMap escB ++ 39 :: rest) i acc = some (acc ++ s, i + (s.flatMap escB).length + 1) := by
  intro s
  induction s with
  | nil =>
    intro f i acc hf
    simp only [List.flatMap_nil, List.nil_append] at hf ⊢
    rw [getQ_step _ _ _ _ _ _ (by simp at hf; omega), if_pos rfl, if_neg hr]
    simp
  | cons c s ih =>
    intro f i acc hf
    rw [List.flatMap_cons, List.append_assoc] at hf ⊢
    generalize hT : s.flatMap escB ++ 39 :: rest = T at *
    rw [List.length_append] at hf
    by_cases e1 : c = 39 ∨ c = 92
    · have he : escB c = [92, c] := by unfold escB; rw [if_pos e1]
      rw [he] at hf ⊢
      simp only [List.length_cons, List.length_nil] at hf
      have hk : escapeF (c :: T) = (c.toNat, 1, true) := by
        rcases e1 with rfl | rfl <;> rfl
      have hne : c ≠ 10 := by rcases e1 with rfl | rfl <;> decide
      show getF 39 f (92 :: (c :: T)) i acc = _
      rw [getQ_step _ _ _ _ _ _ (by rw [List.length_cons]; omega), if_neg (by decide), if_neg (by decide), if_neg (by simp), if_neg (by simp), if_neg (by simpa using hne), hk, if_pos rfl]
      rw [show (c :: T).drop 1 = T from rfl, ih f _ _ (by omega), List.length_append, List.append_assoc]
      simp
      omega
    · have he0 : escB c = if c = 10 then [92, 110] else if c = 9 then [92, 116] else if c < 32 ∨ c = 127 then [92, 120] ++ hexOf c ++ [92] else [c] := by unfold escB; rw [if_neg e1]
      by_cases e2 : c = 10
      · subst e2
        rw [he0, if_pos rfl] at hf ⊢
        simp only [List.length_cons, List.length_nil] at hf
        show getF 39 f (92 :: (110 :: T)) i acc = _
        have hk : escapeF (110 :: T) = (10, 1, true) := rfl
        rw [getQ_step _ _ _ _ _ _ (by rw [List.length_cons]; omega), if_neg (by decide), if_neg (by decide), if_neg (by simp), if_neg (by simp), if_neg (by simp), hk, if_pos rfl]
        rw [show (110 :: T : List UInt8).drop 1 = T from rfl, ih f _ _ (by omega), List.length_append, List.append_assoc]
        simp
        omega
      by_cases e3 : c = 9
      · subst e3
        rw [he0, if_neg e2, if_pos rfl] at hf ⊢
        simp only [List.length_cons, List.length_nil] at hf
        show getF 39 f (92 :: (116 :: T)) i acc = _
        have hk : escapeF (116 :: T) = (9, 1, true) := rfl
        rw [getQ_step _ _ _ _ _ _ (by rw [List.length_cons]; omega), if_neg (by decide), if_neg (by decide), if_neg (by simp), if_neg (by simp), if_neg (by simp), hk, if_pos rfl]
        rw [show (116 :: T : List UInt8).drop 1 = T from rfl, ih f _ _ (by omega), List.length_append, List.append_assoc]
        simp
        omega
      by_cases e4 : c < 32 ∨ c = 127
      · rw [he0, if_neg e2, if_neg e3, if_pos e4] at hf ⊢
        simp only [List.length_append, List.length_cons, List.length_nil] at hf
        have hx : [92, 120] ++ hexOf c ++ [92] ++ T = 92 :: (120 :: (hexOf c ++ 92 :: T)) := by simp
        rw [hx]
        rw [getQ_step _ _ _ _ _ _ (by simp only [List.length_cons, List.length_append]; omega), if_neg (by decide), if_neg (by decide), if_neg (by simp), if_neg (by simp), if_neg (by simp), escapeF_hex, if_pos rfl]
        have hd : (120 :: (hexOf c ++ 92 :: T)).drop ((hexOf c).length + 2) = T := by
          rw [List.drop_succ_cons, List.drop_append, List.drop_eq_nil_of_le (by simp)]
          simp
        simp only
        rw [hd, ih f _ _ (by omega), List.length_append, List.append_assoc]
        simp
        omega
      · rw [he0, if_neg e2, if_neg e3, if_neg e4] at hf ⊢
        simp only [not_or] at e1
        simp only [List.length_cons, List.length_nil] at hf
        show getF 39 f (c :: T) i acc = _
        rw [getQ_step _ _ _ _ _ _ (by omega), if_neg e1.1, if_neg e2, if_pos e1.2, ih f _ _ (by omega), List.length_append, List.append_assoc]
        simp
        omega
theorem getQ_esc (s rest : List UInt8) (hr : rest.head? ≠ some 39) : getQ 39 (s.flatMap escB ++ 39 :: rest) = some (s, (s.flatMap escB).length + 1) := by
  unfold getQ
  rw [getF_esc rest hr s _ 0 [] (Nat.le_refl _)]
  simp

/-- A text of one token and a blank. -/
theorem lex_one {c : UInt8} {r l0 : List UInt8} {u : TokIs} (hl : c :: r = l0 ++ [32]) (hs : skipB (c :: r) = (c :: r, true)) (ht : tokF (c :: r) = some u) (hu : u.len = l0.length) :
    lexB (c :: r) = ([⟨u.kind, 1, u.n, u.s, false, false⟩, endTok (1 + lines l0)], 0, 0) := by
  have hd : (c :: r).drop u.len = [32] := by rw [hu, hl, List.drop_left]
  have htk : (c :: r).take u.len = l0 := by rw [hu, hl, List.take_left]
  have h32 : skipB [32] = ([], true) := by decide
  unfold lexB
  rw [lexF_step _ _ _ _ (Nat.lt_succ_self _)]
  simp only [hs, ht, hd, htk]
  rw [List.length_cons, lexF]
  simp only [h32]
  simp [lines, endTok]
theorem skip_at {c : UInt8} {r : List UInt8} (h1 : bsort c ≠ 1) (h2 : c ≠ 37) (h3 : ¬ (c = 47 ∧ r.head? = some 42)) : skipB (c :: r) = (c :: r, true) := by
  unfold skipB
  rw [List.length_cons, skipF_cons, if_neg h1, if_neg h2, if_neg h3]
theorem span_all {p : UInt8 → Bool} {l : List UInt8} (h : l.all p = true) (h32 : p 32 = false) : spanN p (l ++ [32]) = l.length :=
  spanN_all p 32 h32 [] l (List.all_eq_true.1 h)

/-- The token of an atom as it is written, if it is one. -/
theorem atom_one (s : List UInt8) (h1 : s ≠ [91, 93]) (h2 : s ≠ [123, 125]) :
    ∃ n, lexB (putB s ++ [32]) = ([⟨if plainB s then 1 else 2, 1, 0, s, false, false⟩, endTok n], 0, 0) := by
  by_cases hp : plainB s = true
  · have hput : putB s = s := by unfold putB; rw [if_pos hp]
    rw [hput, if_pos hp]
    have hp' := hp
    unfold plainB at hp'
    split at hp'
    · cases hp'
    rename_i hne
    simp only [not_or] at hne
    cases s with
    | nil => exact absurd rfl hne.1
    | cons c r =>
      split at hp'
      · rename_i h4
        have h5 : c :: r = [33] ∨ c :: r = [59] := by
          rcases h4 with h | h | h | h
          · exact absurd h h1
          · exact .inl h
          · exact .inr h
          · exact absurd h h2
        rcases h5 with h | h
        · cases h; exact ⟨1, rfl⟩
        · cases h; exact ⟨1, rfl⟩
      rename_i h4
      split at hp'
      · rename_i hsm
        have hc : bsort c = 2 := hsm
        have c46 : c ≠ 46 := by rintro rfl; revert hc; decide
        have hsp : spanN isWord (c :: (r ++ [32])) = (c :: r).length := span_all hp' (by decide)
        have htk : (c :: (r ++ [32])).take (c :: r).length = c :: r := by rw [show c :: (r ++ [32]) = (c :: r) ++ [32] from rfl, List.take_left]
        have ht : tokF (c :: (r ++ [32])) = some ⟨1, 0, c :: r, (c :: r).length⟩ := by
          unfold tokF
          simp only
          rw [if_neg (by simp [c46]), if_pos hc, hsp, htk]
        have hs : skipB (c :: (r ++ [32])) = (c :: (r ++ [32]), true) := skip_at (by rw [hc]; decide) (by rintro rfl; revert hc; decide) (by rintro ⟨rfl, -⟩; revert hc; decide)
        exact ⟨_, lex_one (l0 := c :: r) rfl hs ht rfl⟩
      · rename_i hsm
        rw [Bool.and_eq_true] at hp'
        obtain ⟨hq1, hq2⟩ := hp'
        have hc : bsort c = 5 := by
          have := List.all_eq_true.1 hq2 c (List.mem_cons_self ..)
          simpa [isSign] using this
        have hsl : ¬ (c = 47 ∧ (r ++ [32]).head? = some 42) := by
          rintro ⟨rfl, h⟩
          cases r with
          | nil => simp at h
          | cons d r => simp at h; subst h; simp at hq1
        have hdot : ¬ (c = 46 ∧ ((r ++ [32]) = [] ∨ (r ++ [32]).headD 0 = 37 ∨ bsort ((r ++ [32]).headD 0) = 1)) := by
          rintro ⟨rfl, h⟩
          cases r with
          | nil => exact hne.2 rfl
          | cons d r =>
            have hd := List.all_eq_true.1 hq2 d (by simp)
            have hd5 : bsort d = 5 := by simpa [isSign] using hd
            rcases h with h | h | h
            · simp at h
            · simp at h; subst h; revert hd5; decide
            · simp at h; rw [hd5] at h; revert h; decide
        have hsp : spanN isSign (c :: (r ++ [32])) = (c :: r).length := span_all hq2 (by decide)
        have htk : (c :: (r ++ [32])).take (c :: r).length = c :: r := by rw [show c :: (r ++ [32]) = (c :: r) ++ [32] from rfl, List.take_left]
        have ht : tokF (c :: (r ++ [32])) = some ⟨1, 0, c :: r, (c :: r).length⟩ := by
          unfold tokF
          simp only
          rw [if_neg hdot, if_neg (by rw [hc]; decide), if_pos hc, hsp, htk]
        have hs : skipB (c :: (r ++ [32])) = (c :: (r ++ [32]), true) := skip_at (by rw [hc]; decide) (by rintro rfl; revert hc; decide) hsl
        exact ⟨_, lex_one (l0 := c :: r) rfl hs ht rfl⟩
  · have hput : putB s = 39 :: (s.flatMap escB ++ [39]) := by unfold putB; rw [if_neg hp]; simp [quoteB]
    rw [hput, if_neg hp]
    have hg := getQ_esc s [32] (by simp)
    generalize s.flatMap escB = E at *
    have he : 39 :: (E ++ [39]) ++ [32] = 39 :: (E ++ 39 :: [32]) := by simp
    have hl : 39 :: (E ++ 39 :: [32]) = 39 :: (E ++ [39]) ++ [32] := he.symm
    rw [he]
    have h39 : bsort 39 = 8 := by decide
    have ht : tokF (39 :: (E ++ 39 :: [32])) = some ⟨2, 0, s, E.length + 1 + 1⟩ := by
      unfold tokF
      simp only [h39, hg]
      rw [if_neg (by simp)]
      simp
    have hs : skipB (39 :: (E ++ 39 :: [32])) = (39 :: (E ++ 39 :: [32]), true) := skip_at (by decide) (by decide) (by simp)
    exact ⟨_, lex_one hl hs ht (by simp)⟩
theorem spanN_full (p : UInt8 → Bool) : ∀ l : List UInt8, (∀ c ∈ l, p c = true) → spanN p l = l.length
  | [], _ => rfl
  | c :: l, h => by
    rw [spanN_cons, if_pos (h c (List.mem_cons_self ..)), spanN_full p l (fun c' h' => h c' (List.mem_cons_of_mem _ h'))]
    rfl
theorem digsF_stop {base : Nat} (hb : 2 ≤ base) (hc : base ≤ 16) (k : Nat) (hk : k < 4294967296) (x : UInt8) (hx : base ≤ digVal x) (rest : List UInt8) : digitsF base (digsB base k ++ x :: rest) 0 = some ((k : Int), (digsB base k).length) := by
  unfold digitsF
  have hs : spanN (fun c => decide (digVal c < base)) (digsB base k ++ x :: rest) = (digsB base k).length :=
    spanN_all _ x (by simp; omega) rest _ (digsB_all hb hc (fun c => decide (digVal c < base)) (fun d hd => by simp only [decide_eq_true_eq]; rw [(hexDigit_val d (by omega)).1]; exact hd) k)
  simp only [List.drop_zero]
  rw [hs, List.take_left, parseF_digs hb hc k hk]
  simp
theorem lex_twice (n : Nat) (hn : n < 4294967296) : lexB (digsB 10 n ++ 95 :: digsB 10 n) = ([⟨3, 1, n, [], false, false⟩, ⟨4, 1, 0, 95 :: digsB 10 n, false, true⟩, endTok 1], 0, 0) := by
  have hne := digsB_ne (base := 10) (by omega) n
  have hall := digsB_all (base := 10) (by omega) (by omega) (fun c => decide (48 ≤ c.toNat ∧ c.toNat ≤ 57)) (fun d hd => by simpa using hexDigit_ten d hd) n
  have hdf := digsF_stop (base := 10) (by omega) (by omega) n hn 95 (by decide) (digsB 10 n)
  have hln : lines (digsB 10 n) = 0 := digsB_lines (base := 10) (by omega) (by omega) n
  generalize digsB 10 n = D at *
  have hsort : ∀ c ∈ D, bsort c = 4 := by
    intro c hc
    have h1 := hall c hc
    simp only [decide_eq_true_eq] at h1
    unfold bsort bsortI
    rw [if_neg (by omega), if_neg (by omega), if_neg (by omega), if_pos (by omega)]
  cases D with
  | nil => exact absurd rfl hne
  | cons c r =>
    have hc := hsort c (List.mem_cons_self ..)
    generalize hT : 95 :: (c :: r) = T at *
    have e : (c :: r) ++ T = c :: (r ++ T) := rfl
    rw [e] at hdf ⊢
    have hno : ∀ m : UInt8, (m = 120 ∨ m = 111 ∨ m = 98 ∨ m = 39) → ¬ ((c :: (r ++ T)).head? = some 48 ∧ (c :: (r ++ T)).tail.head? = some m) := by
      rintro m hm ⟨-, h⟩
      cases r with
      | nil =>
        rw [← hT] at h
        simp at h
        subst h
        revert hm; decide
      | cons d r =>
        simp at h
        have := hall d (by simp)
        simp only [decide_eq_true_eq] at this
        subst h
        rcases hm with rfl | rfl | rfl | rfl <;> revert this <;> decide
    have hnum : numberF (c :: (r ++ T)) = some ((n : Int), (c :: r).length) := by
      unfold numberF
      rw [if_neg (hno 120 (by simp)), if_neg (hno 111 (by simp)), if_neg (hno 98 (by simp)), if_neg (hno 39 (by simp))]
      exact hdf
    have ht1 : tokF (c :: (r ++ T)) = some ⟨3, n, [], (c :: r).length⟩ := by
      have c46 : c ≠ 46 := by rintro rfl; revert hc; decide
      unfold tokF
      simp only
      rw [if_neg (by simp [c46]), if_neg (by rw [hc]; decide), if_neg (by rw [hc]; decide), if_neg (by rw [hc]; decide), if_neg (by rw [hc]; decide), if_pos hc, hnum]
      rfl
    have hs1 : skipB (c :: (r ++ T)) = (c :: (r ++ T), true) := skip_at (by rw [hc]; decide) (by rintro rfl; revert hc; decide) (by rintro ⟨rfl, -⟩; revert hc; decide)
    have hd1 : (c :: (r ++ T)).drop (c :: r).length = T := by rw [← e, List.drop_left]
    have hk1 : (c :: (r ++ T)).take (c :: r).length = c :: r := by rw [← e, List.take_left]
    have hs2 : skipB T = (T, true) := by rw [← hT]; exact skip_at (by decide) (by decide) (by simp)
    have hsp : spanN isWord T = T.length := by
      refine spanN_full _ _ fun x hx => ?_
      rw [← hT] at hx
      rcases List.mem_cons.1 hx with rfl | hx
      · decide
      · have := hsort x hx
        simp [isWord, this]
    have ht2 : tokF T = some ⟨4, 0, T, T.length⟩ := by
      rw [← hT] at hsp ⊢
      unfold tokF
      simp only
      rw [if_neg (by simp), if_neg (by decide), if_neg (by decide), if_neg (by decide), if_pos (by decide), hsp, List.take_length]
    have hTn : T ≠ [] := by rw [← hT]; simp
    have hT0 : T.head? = some 95 := by rw [← hT]; rfl
    have hlT : lines T = 0 := by
      rw [← hT]
      unfold lines at *
      rw [List.count_cons, hln]
      rfl
    have hs3 : skipB [] = ([], true) := rfl
    unfold lexB
    rw [lexF_step _ _ _ _ (Nat.lt_succ_self _)]
    simp only [hs1, ht1, hd1, hk1, hln]
    rw [lexF_step _ T _ _ (by rw [← e, List.length_append]; omega)]
    simp only [hs2, ht2, List.drop_length, List.take_length, hlT]
    rw [lexF_step _ [] _ _ (by simp)]
    simp only [hs3]
    simp [hTn, hT0, endTok, lines]
theorem atom_two (s : List UInt8) (h : s = [91, 93] ∨ s = [123, 125]) : ∃ a b c, lexB (putB s ++ [32]) = ([a, b, c], 0, 0) := by
  rcases h with rfl | rfl
  · exact ⟨_, _, _, rfl⟩
  · exact ⟨_, _, _, rfl⟩
end Go.Proofs.YtpiekfkkhgighaaDoor
