/-
  Events as text and read back, as functions on lists of bytes. Definitions and plain laws; no condition.
-/
import Derived.Test.YtpiekfkkhgighaaDoorTokAtomsP
import Derived.Lib.Replace
import Derived.Lib.IndexBytes
import Derived.Lib.Strings
namespace Go.Proofs.YtpiekfkkhgighaaDoor

theorem index_head (c : UInt8) (r : List UInt8) : Lib.index (c :: r) [c] = 0 := by
  rw [Lib.index, if_pos (by simp [List.isPrefixOf])]
theorem index_other {c d : UInt8} (h : d ≠ c) (r : List UInt8) (i : Nat) (hi : Lib.index r [c] = i) : Lib.index (d :: r) [c] = ((i + 1 : Nat) : Int) := by
  rw [Lib.index, if_neg (by simp [List.isPrefixOf]; exact fun e => h e.symm), if_neg (by rw [hi, beq_iff_eq]; omega), hi]
  simp
theorem replK_one (c : UInt8) (new : List UInt8) : ∀ (l : List UInt8) (k : Nat), k = l.count c → Lib.replaceK [c] new k l = l.flatMap fun d => if d = c then new else [d] := by
  intro l
  induction l with
  | nil => intro k hk; subst hk; rfl
  | cons d r ih =>
    intro k hk
    by_cases hd : d = c
    · subst hd
      rw [List.count_cons_self] at hk
      subst hk
      rw [Lib.replaceK_hit [d] new (r.count d) (d :: r) 0 (index_head d r), List.flatMap_cons, if_pos rfl]
      simp only [List.take_zero, List.nil_append, List.length_singleton, Nat.zero_add, List.drop_succ_cons, List.drop_zero]
      rw [ih _ rfl]
    · rw [List.count_cons_of_ne (by simpa using hd)] at hk
      cases k with
      | zero =>
        have h := ih 0 hk
        rw [Lib.replaceK] at h
        rw [Lib.replaceK, List.flatMap_cons, if_neg hd, ← h]
        rfl
      | succ k =>
        have hc : 0 < Lib.count r [c] := by rw [Lib.count_one]; omega
        obtain ⟨i, hi⟩ := Lib.index_of_count hc
        have h := ih (k + 1) hk
        rw [Lib.replaceK_hit [c] new k r i hi] at h
        rw [Lib.replaceK_hit [c] new k (d :: r) (i + 1) (index_other hd r i hi), List.flatMap_cons, if_neg hd, ← h]
        simp only [List.length_singleton, List.take_succ_cons, List.drop_succ_cons, List.cons_append, List.append_assoc, List.nil_append]
theorem replaceAll_one (c : UInt8) (new l : List UInt8) (hn : [c] ≠ new) : Lib.replaceAll l [c] new = l.flatMap fun d => if d = c then new else [d] := by
  unfold Lib.replaceAll Lib.replace Lib.replaceNum
  rw [if_neg (by simpa using hn), if_pos (.inl (by decide)), Lib.count_one]
  exact replK_one c new l _ rfl
def calmB (c : UInt8) : Bool := decide (escB c = if c = 92 then [92, 92] else [c])
theorem calm_word (c : UInt8) : isWord c = true → calmB c = true := by
  have h := u8_all (fun c => !isWord c || calmB c) (by decide +kernel) c
  intro hw
  simp only [hw] at h
  simpa using h
theorem calm_sign (c : UInt8) : isSign c = true → calmB c = true := by
  have h := u8_all (fun c => !isSign c || calmB c) (by decide +kernel) c
  intro hw
  simp only [hw] at h
  simpa using h
theorem plain_calm {l : List UInt8} (h : plainB l = true) : ∀ c ∈ l, calmB c = true := by
  unfold plainB at h
  split at h
  · cases h
  split at h
  · rename_i h2
    rcases h2 with rfl | rfl | rfl | rfl <;> decide
  split at h
  · intro c hc
    exact calm_word c (List.all_eq_true.1 h c hc)
  · rw [Bool.and_eq_true] at h
    intro c hc
    exact calm_sign c (List.all_eq_true.1 h.2 c hc)
/-- A plain atom in quotes: only backslashes are doubled. -/
theorem quote_plain {l : List UInt8} (h : plainB l = true) : quoteB l = [39] ++ Lib.replaceAll l [92] [92, 92] ++ [39] := by
  rw [replaceAll_one _ _ _ (by decide)]
  unfold quoteB
  have h2 := plain_calm h
  have : l.flatMap escB = l.flatMap fun d => if d = 92 then [92, 92] else [d] := by
    clear h
    induction l with
    | nil => rfl
    | cons c r ih =>
      rw [List.flatMap_cons, List.flatMap_cons, ih (fun d hd => h2 d (List.mem_cons_of_mem _ hd)), of_decide_eq_true (h2 c (List.mem_cons_self ..))]
  rw [this]
theorem quote_notplain {l : List UInt8} (h : plainB l = false) : quoteB l = putB l := by
  unfold putB
  rw [h]
  rfl

structure Ev where
  kind : Int
  text : List UInt8
def wordB (k : Nat) : List UInt8 := match k with
  | 1 => [121, 101, 115]
  | 2 => [110, 111]
  | 3 => [119, 114, 111, 110, 103]
  | 4 => [111, 117, 116]
  | 5 => [114, 101, 115, 111, 117, 114, 99, 101]
  | 6 => [115, 121, 110, 116, 97, 120]
  | _ => []
def okKind (e : Ev) : Bool := decide (1 ≤ e.kind ∧ e.kind ≤ 6)
def lineB (e : Ev) : List UInt8 := wordB e.kind.toNat ++ [32] ++ quoteB e.text ++ [10]
/-- Events as a text; none: a kind that there isn't. -/
def showB (l : List Ev) : Option (List UInt8) := if l.all okKind then some (l.flatMap lineB) else none
/-- The kind whose word, a blank and a quote s begins with. -/
def beginsK (s : List UInt8) : Nat → Nat → Nat
  | 0, _ => 0
  | f + 1, k => if Lib.hasPrefix s (wordB k ++ [32, 39]) then k else beginsK s f (k + 1)
def beginsB (s : List UInt8) : Nat := beginsK s 6 1
def headN (k : Nat) : Nat := (wordB k).length + 2
/-- One event at the beginning, and what is behind it. -/
def evB (s : List UInt8) : Option (Ev × List UInt8) :=
  if beginsB s = 0 then none
  else match getQ 39 (s.drop (headN (beginsB s))) with
    | none => none
    | some (t, m) =>
      if s[headN (beginsB s) + m]? = some 10 ∧ quoteB t = (s.drop (headN (beginsB s) - 1)).take (m + 1) then some (⟨beginsB s, t⟩, s.drop (headN (beginsB s) + m + 1)) else none
def evsB : Nat → List UInt8 → Option (List Ev)
  | 0, _ => none
  | f + 1, s => if s = [] then some [] else match evB s with
    | none => none
    | some (e, r) => (evsB f r).map (e :: ·)
def parseE (s : List UInt8) : Option (List Ev) := evsB (s.length + 1) s

theorem okKind_cases {e : Ev} (h : okKind e = true) : e.kind = 1 ∨ e.kind = 2 ∨ e.kind = 3 ∨ e.kind = 4 ∨ e.kind = 5 ∨ e.kind = 6 := by
  have := of_decide_eq_true h
  omega
theorem lineB_eq (e : Ev) (rest : List UInt8) : lineB e ++ rest = wordB e.kind.toNat ++ (32 :: 39 :: (e.text.flatMap escB ++ 39 :: 10 :: rest)) := by
  simp [lineB, quoteB]
theorem begins_word {k : Int} (hk : k = 1 ∨ k = 2 ∨ k = 3 ∨ k = 4 ∨ k = 5 ∨ k = 6) (X : List UInt8) : beginsB (wordB k.toNat ++ (32 :: 39 :: X)) = k.toNat ∧ k.toNat ≠ 0 := by
  rcases hk with rfl | rfl | rfl | rfl | rfl | rfl <;> simp [beginsB, beginsK, Lib.hasPrefix, wordB, List.isPrefixOf]
theorem evB_line {e : Ev} (h : okKind e = true) (rest : List UInt8) : evB (lineB e ++ rest) = some (e, rest) := by
  have hk := okKind_cases h
  rw [lineB_eq]
  obtain ⟨hb, hn⟩ := begins_word hk (e.text.flatMap escB ++ 39 :: 10 :: rest)
  unfold evB
  rw [hb, if_neg hn]
  have e1 : headN e.kind.toNat = (wordB e.kind.toNat).length + 2 := rfl
  obtain ⟨W, hW⟩ : ∃ W, wordB e.kind.toNat = W := ⟨_, rfl⟩
  obtain ⟨Q, hQ⟩ : ∃ Q, e.text.flatMap escB = Q := ⟨_, rfl⟩
  have e2 : (W ++ 32 :: 39 :: (Q ++ 39 :: 10 :: rest)).drop (W.length + 2) = Q ++ 39 :: 10 :: rest := by
    rw [show W ++ 32 :: 39 :: (Q ++ 39 :: 10 :: rest) = (W ++ [32, 39]) ++ (Q ++ 39 :: 10 :: rest) by simp, List.drop_left' (by simp)]
  have e3 := getQ_esc e.text (10 :: rest) (by simp)
  rw [hQ] at e3
  rw [e1, hW, hQ, e2, e3]
  have e4 : (W ++ 32 :: 39 :: (Q ++ 39 :: 10 :: rest))[W.length + 2 + (Q.length + 1)]? = some 10 := by
    rw [← List.getElem?_drop, e2, List.getElem?_append_right (by omega), show Q.length + 1 - Q.length = 1 by omega]
    rfl
  have e5 : quoteB e.text = ((W ++ 32 :: 39 :: (Q ++ 39 :: 10 :: rest)).drop (W.length + 2 - 1)).take (Q.length + 1 + 1) := by
    rw [show W.length + 2 - 1 = W.length + 1 by omega, show W ++ 32 :: 39 :: (Q ++ 39 :: 10 :: rest) = (W ++ [32]) ++ (39 :: Q ++ [39] ++ 10 :: rest) by simp, List.drop_left' (by simp), List.take_left' (by simp)]
    unfold quoteB
    rw [hQ]
    simp
  have e6 : (W ++ 32 :: 39 :: (Q ++ 39 :: 10 :: rest)).drop (W.length + 2 + (Q.length + 1) + 1) = rest := by
    rw [show W.length + 2 + (Q.length + 1) + 1 = (W.length + 2) + (Q.length + 2) by omega, ← List.drop_drop, e2, show Q ++ 39 :: 10 :: rest = (Q ++ [39, 10]) ++ rest by simp, List.drop_left' (by simp)]
  simp only
  rw [if_pos ⟨e4, e5⟩, e6]
  have hkk : (e.kind.toNat : Int) = e.kind := by rcases hk with h | h | h | h | h | h <;> rw [h] <;> rfl
  rw [hkk]
theorem lineB_pos (e : Ev) : 0 < (lineB e).length := by
  unfold lineB
  simp only [List.length_append, List.length_cons, List.length_nil]
  omega
theorem evs_show : ∀ (l : List Ev) (f : Nat), l.all okKind = true → (l.flatMap lineB).length < f → evsB f (l.flatMap lineB) = some l := by
  intro l
  induction l with
  | nil =>
    intro f _ hf
    cases f with
    | zero => omega
    | succ f => rfl
  | cons e r ih =>
    intro f ha hf
    rw [List.all_cons, Bool.and_eq_true] at ha
    rw [List.flatMap_cons, List.length_append] at hf
    have hp := lineB_pos e
    cases f with
    | zero => omega
    | succ f =>
      rw [List.flatMap_cons, evsB, if_neg (by intro h; have := congrArg List.length h; rw [List.length_append] at this; simp only [List.length_nil] at this; omega), evB_line ha.1]
      simp only
      rw [ih f ha.2 (by omega)]
      rfl
/-- What is shown is parsed. -/
theorem parse_show {l : List Ev} {x : List UInt8} (h : showB l = some x) : parseE x = some l := by
  unfold showB at h
  split at h
  · injection h with h
    subst h
    exact evs_show l _ (by assumption) (Nat.lt_succ_self _)
  · cases h
theorem beginsK_spec (s : List UInt8) : ∀ (f k : Nat), beginsK s f k ≠ 0 → k ≤ beginsK s f k ∧ beginsK s f k < k + f ∧ Lib.hasPrefix s (wordB (beginsK s f k) ++ [32, 39]) = true
  | 0, k, h => absurd rfl h
  | f + 1, k, h => by
    rw [beginsK] at h ⊢
    split
    · rename_i h2
      exact ⟨Nat.le_refl _, by omega, h2⟩
    · rename_i h2
      rw [if_neg h2] at h
      obtain ⟨a, b, c⟩ := beginsK_spec s f (k + 1) h
      exact ⟨by omega, by omega, c⟩
theorem evB_some {s r : List UInt8} {e : Ev} (h : evB s = some (e, r)) : okKind e = true ∧ s = lineB e ++ r := by
  unfold evB at h
  split at h
  · cases h
  rename_i hb
  obtain ⟨h1, h2, h3⟩ := beginsK_spec s 6 1 hb
  have hb' : beginsK s 6 1 = beginsB s := rfl
  rw [hb'] at h1 h2 h3
  generalize beginsB s = k at *
  split at h
  · cases h
  rename_i t m hq
  split at h
  · rename_i hc
    obtain ⟨c1, c2⟩ := hc
    injection h with h
    injection h with he hr
    subst he
    refine ⟨decide_eq_true (by simp only; omega), ?_⟩
    obtain ⟨s', hs⟩ : ∃ s', s = wordB k ++ [32, 39] ++ s' := by
      obtain ⟨t, ht⟩ := List.isPrefixOf_iff_prefix.1 h3
      exact ⟨t, ht.symm⟩
    have e1 : headN k = (wordB k).length + 2 := rfl
    rw [e1] at c1 c2 hr
    have e2 : s.drop ((wordB k).length + 2 - 1) = 39 :: s' := by
      rw [hs, show wordB k ++ [32, 39] ++ s' = (wordB k ++ [32]) ++ (39 :: s') by simp, List.drop_left' (by simp)]
    have e3 : s.drop ((wordB k).length + 2) = s' := by rw [hs, List.drop_left' (by simp)]
    have e4 : s'[m]? = some 10 := by rw [← e3, List.getElem?_drop]; exact c1
    have e5 : s'.drop m = 10 :: r := by
      obtain ⟨hm, hx⟩ := List.getElem?_eq_some_iff.1 e4
      rw [List.drop_eq_getElem_cons hm, hx, ← hr, ← e3, List.drop_drop, show (wordB k).length + 2 + (m + 1) = (wordB k).length + 2 + m + 1 by omega]
    rw [e2] at c2
    have e6 : 39 :: s' = quoteB t ++ 10 :: r := by
      rw [c2, ← e5, ← List.drop_succ_cons (a := 39), List.take_append_drop]
    rw [hs, show wordB k ++ [32, 39] ++ s' = wordB k ++ [32] ++ (39 :: s') by simp, e6]
    simp [lineB]
  · cases h
theorem evs_back : ∀ (f : Nat) (s : List UInt8) (m : List Ev), evsB f s = some m → m.all okKind = true ∧ m.flatMap lineB = s := by
  intro f
  induction f with
  | zero => intro s m h; cases h
  | succ f ih =>
    intro s m h
    rw [evsB] at h
    split at h
    · injection h with h
      subst h
      exact ⟨rfl, by rename_i hs; rw [hs]; rfl⟩
    · split at h
      · cases h
      · rename_i e r he
        obtain ⟨m', hm', rfl⟩ := Option.map_eq_some_iff.1 h
        obtain ⟨a, b⟩ := ih r m' hm'
        obtain ⟨c, d⟩ := evB_some he
        exact ⟨by rw [List.all_cons, a, c]; rfl, by rw [List.flatMap_cons, b, ← d]⟩
/-- What is parsed is shown as it was. -/
theorem show_parse {s : List UInt8} {m : List Ev} (h : parseE s = some m) : showB m = some s := by
  obtain ⟨a, b⟩ := evs_back _ s m h
  unfold showB
  rw [if_pos a, b]
theorem evs_fuel : ∀ (f g : Nat) (s : List UInt8), s.length < f → s.length < g → evsB f s = evsB g s := by
  intro f
  induction f with
  | zero => intro g s h; omega
  | succ f ih =>
    intro g s hf hg
    cases g with
    | zero => omega
    | succ g =>
      rw [evsB, evsB]
      split
      · rfl
      · cases he : evB s with
        | none => rfl
        | some x =>
          obtain ⟨e, r⟩ := x
          have h2 := congrArg List.length (evB_some he).2
          rw [List.length_append] at h2
          have h3 := lineB_pos e
          simp only
          rw [ih g r (by omega) (by omega)]
theorem evs_step {s : List UInt8} (hs : s ≠ []) : parseE s = match evB s with
    | none => none
    | some (e, r) => (parseE r).map (e :: ·) := by
  unfold parseE
  rw [evsB, if_neg hs]
  cases he : evB s with
  | none => rfl
  | some x =>
    obtain ⟨e, r⟩ := x
    have h2 := congrArg List.length (evB_some he).2
    rw [List.length_append] at h2
    have h3 := lineB_pos e
    simp only
    rw [evs_fuel s.length (r.length + 1) r (by omega) (by omega)]
end Go.Proofs.YtpiekfkkhgighaaDoor
