import Derived.Test.YtcallkljcjimiaaGreatDoorJG04
import Derived.Test.YtcallkljcjimiaaGreatDoorJW34
import Derived.WalkKit
import Derived.WalkSmall
import Derived.Lib.Hide
import Derived.Test.YtcallkljcjimiaaGreatDoorProg
import Derived.KernelRfl
import Derived.Laws.AppendOwn
import Derived.Laws.MakeOwn
import Derived.Deep.OwnRows
import Derived.Laws.AppendOwnNone
import Derived.Deep.AppendLies
import Derived.Deep.RegionLaw
import Derived.WalkSpells
import Derived.BigQuiet
import Derived.Deep.QuietTactic
import Derived.StillTailTactics
import Derived.IntWalk
import Derived.Maps.Keyed
import Derived.StringKeys
import Derived.Shelf.Small.Strs
import Derived.Shelf.Small.Wraps
import Derived.Shelf.LaysM
import Derived.Shelf.Strings.Fields
import Derived.Lib.ItoaMem
import Derived.Lib.ItoaNum
namespace Go.Proofs.YtcallkljcjimiaaGreatDoor
theorem hexDigit_facts : ∀ d, d < 16 → hexVal (hexDigit d) = d ∧ hexDigit d ≠ 92 := by decide
theorem codedF_hex (c : UInt8) (t : List UInt8) : codedF 16 (hexOf c ++ 92 :: t) 0 0 = (c.toNat, (hexOf c).length + 1, true) := by
 have hc := c.toNat_lt
 unfold hexOf
 split
 ·rename_i h
  obtain ⟨h1, h2⟩ := hexDigit_facts _ h
  simp only [List.cons_append, List.nil_append, codedF, h1]
  rw [if_neg h2, if_neg (by omega), if_neg (by omega)]
  simp
 ·rename_i h
  obtain ⟨h1, h2⟩ := hexDigit_facts (c.toNat / 16) (by omega)
  obtain ⟨h3, h4⟩ := hexDigit_facts (c.toNat % 16) (by omega)
  simp only [List.cons_append, List.nil_append, codedF, h1, h3]
  rw [if_neg h2, if_neg (by omega), if_neg (by omega), if_neg h4, if_neg (by omega), if_neg (by omega)]
  simp
  omega
theorem escapeF_hex (c : UInt8) (t : List UInt8) : escapeF (120 :: (hexOf c ++ 92 :: t)) = (c.toNat, (hexOf c).length + 2, true) := by
 have h : escKnown 120 = none := by decide
 simp only [escapeF, h]
 rw [if_pos trivial, codedF_hex]
theorem getF_esc (rest : List UInt8) (hr : rest.head? ≠ some 39) : ∀ (s : List UInt8) (f i : Nat) (acc : List UInt8), (s.flatMap escB ++ 39 :: rest).length ≤ f →
    getF 39 f (s.flatMap escB ++ 39 :: rest) i acc = some (acc ++ s, i + (s.flatMap escB).length + 1) := by
 intro s
 induction s with
 | nil =>
  intro f i acc hf
  simp only [List.flatMap_nil, List.nil_append] at hf ⊢
  rw [getQ_step _ _ _ _ _ _ (by simp at hf; omega), if_pos rfl, if_neg hr]
  simp
 | cons c s ih =>
  intro f i acc hf
  rw [List.flatMap_cons, List.append_assoc] at hf ⊢
  generalize hT : s.flatMap escB ++ 39 :: rest = T at *
  rw [List.length_append] at hf
  by_cases e1 : c = 39 ∨ c = 92
  ·have he : escB c = [92, c] := by unfold escB; rw [if_pos e1]
   rw [he] at hf ⊢
   simp only [List.length_cons, List.length_nil] at hf
   have hk : escapeF (c :: T) = (c.toNat, 1, true) := by
    rcases e1 with rfl | rfl <;> rfl
   have hne : c ≠ 10 := by rcases e1 with rfl | rfl <;> decide
   show getF 39 f (92 :: (c :: T)) i acc = _
   rw [getQ_step _ _ _ _ _ _ (by rw [List.length_cons]; omega), if_neg (by decide), if_neg (by decide), if_neg (by simp), if_neg (by simp), if_neg (by simpa using hne), hk, if_pos rfl]
   rw [show (c :: T).drop 1 = T from rfl, ih f _ _ (by omega), List.length_append, List.append_assoc]
   simp
   omega
  ·have he0 : escB c = if c = 10 then [92, 110] else if c = 9 then [92, 116] else if c < 32 ∨ c = 127 then [92, 120] ++ hexOf c ++ [92] else [c] := by unfold escB; rw [if_neg e1]
   by_cases e2 : c = 10
   ·subst e2
    rw [he0, if_pos rfl] at hf ⊢
    simp only [List.length_cons, List.length_nil] at hf
    show getF 39 f (92 :: (110 :: T)) i acc = _
    have hk : escapeF (110 :: T) = (10, 1, true) := rfl
    rw [getQ_step _ _ _ _ _ _ (by rw [List.length_cons]; omega), if_neg (by decide), if_neg (by decide), if_neg (by simp), if_neg (by simp), if_neg (by simp), hk, if_pos rfl]
    rw [show (110 :: T : List UInt8).drop 1 = T from rfl, ih f _ _ (by omega), List.length_append, List.append_assoc]
    simp
    omega
   by_cases e3 : c = 9
   ·subst e3
    rw [he0, if_neg e2, if_pos rfl] at hf ⊢
    simp only [List.length_cons, List.length_nil] at hf
    show getF 39 f (92 :: (116 :: T)) i acc = _
    have hk : escapeF (116 :: T) = (9, 1, true) := rfl
    rw [getQ_step _ _ _ _ _ _ (by rw [List.length_cons]; omega), if_neg (by decide), if_neg (by decide), if_neg (by simp), if_neg (by simp), if_neg (by simp), hk, if_pos rfl]
    rw [show (116 :: T : List UInt8).drop 1 = T from rfl, ih f _ _ (by omega), List.length_append, List.append_assoc]
    simp
    omega
   by_cases e4 : c < 32 ∨ c = 127
   ·rw [he0, if_neg e2, if_neg e3, if_pos e4] at hf ⊢
    simp only [List.length_append, List.length_cons, List.length_nil] at hf
    have hx : [92, 120] ++ hexOf c ++ [92] ++ T = 92 :: (120 :: (hexOf c ++ 92 :: T)) := by simp
    rw [hx]
    rw [getQ_step _ _ _ _ _ _ (by simp only [List.length_cons, List.length_append]; omega), if_neg (by decide), if_neg (by decide), if_neg (by simp), if_neg (by simp), if_neg (by simp), escapeF_hex, if_pos rfl]
    have hd : (120 :: (hexOf c ++ 92 :: T)).drop ((hexOf c).length + 2) = T := by
     rw [List.drop_succ_cons, List.drop_append, List.drop_eq_nil_of_le (by simp)]
     simp
    simp only
    rw [hd, ih f _ _ (by omega), List.length_append, List.append_assoc]
    simp
    omega
   ·rw [he0, if_neg e2, if_neg e3, if_neg e4] at hf ⊢
    simp only [not_or] at e1
    simp only [List.length_cons, List.length_nil] at hf
    show getF 39 f (c :: T) i acc = _
    rw [getQ_step _ _ _ _ _ _ (by omega), if_neg e1.1, if_neg e2, if_pos e1.2, ih f _ _ (by omega), List.length_append, List.append_assoc]
    simp
    omega
theorem getQ_esc (s rest : List UInt8) (hr : rest.head? ≠ some 39) : getQ 39 (s.flatMap escB ++ 39 :: rest) = some (s, (s.flatMap escB).length + 1) := by
 unfold getQ
 rw [getF_esc rest hr s _ 0 [] (Nat.le_refl _)]
 simp
theorem skip_at {c : UInt8} {r : List UInt8} (h1 : bsort c ≠ 1) (h2 : c ≠ 37) (h3 : ¬ (c = 47 ∧ r.head? = some 42)) : skipB (c :: r) = (c :: r, true) := by
 unfold skipB
 rw [List.length_cons, skipF_cons, if_neg h1, if_neg h2, if_neg h3]
section
variable {x : UInt8} (hx : bsort x = 1) (R : List UInt8)
include hx
omit hx in
theorem span_x {p : UInt8 → Bool} {l : List UInt8} (h : l.all p = true) (hp : p x = false) : spanN p (l ++ x :: R) = l.length :=
 spanN_all p x hp R l (List.all_eq_true.1 h)
end
end Go.Proofs.YtcallkljcjimiaaGreatDoor
namespace Go.Proofs.YtcallkljcjimiaaGreatDoor
structure Lxm where
 sp : Bool
 kind : Int
 n : Int
 s : List UInt8
 txt : List UInt8
def Lxm.out (a : Lxm) : List UInt8 := if a.sp then 32 :: a.txt else a.txt
def flat (l : List Lxm) : List UInt8 := l.flatMap Lxm.out
def opnL (l : List Lxm) : Bool := match l with | [] => false | b :: _ => !b.sp && decide (b.txt.head? = some 40)
def tkL : Bool → List Lxm → List Tok
 | _, [] => []
 | first, a :: r => ⟨a.kind, 1, a.n, a.s, opnL r, !first && !a.sp⟩ :: tkL false r
structure Good (a : Lxm) (rest : List UInt8) : Prop where
 tok : tokF (a.txt ++ rest) = some ⟨a.kind, a.n, a.s, a.txt.length⟩
 skip : skipB (a.txt ++ rest) = (a.txt ++ rest, true)
 ln : lines a.txt = 0
 ne : a.txt ≠ []
def OkL : List Lxm → Prop
 | [] => True
 | a :: r => Good a (flat r) ∧ OkL r
theorem flat_nil : flat [] = [] := rfl
theorem flat_cons (a : Lxm) (r : List Lxm) : flat (a :: r) = a.out ++ flat r := rfl
theorem flat_app (a b : List Lxm) : flat (a ++ b) = flat a ++ flat b := by unfold flat; rw [List.flatMap_append]
theorem opn_flat : ∀ (r : List Lxm), OkL r → decide ((flat r).head? = some 40) = opnL r
 | [], _ => rfl
 | b :: r, h => by
  obtain ⟨⟨-, -, -, hne⟩, -⟩ := h
  rw [flat_cons]
  unfold opnL Lxm.out
  cases hs : b.sp with
  | true => simp [hs]
  | false =>
   cases ht : b.txt with
   | nil => exact absurd ht hne
   | cons x y => simp [hs, ht]
theorem lex_core (a : Lxm) (r : List Lxm) (f : Nat) (first : Bool) (hg : Good a (flat r)) (hr : OkL r) (hf : (a.txt ++ flat r).length < f) (ih : lexF f (flat r) 1 false = (tkL false r ++ [endTok 1], 0, 0)) :
    lexF f (a.txt ++ flat r) 1 first = (⟨a.kind, 1, a.n, a.s, opnL r, !first⟩ :: (tkL false r ++ [endTok 1]), 0, 0) := by
 obtain ⟨h1, h2, h3, h4⟩ := hg
 rw [lexF_step f _ 1 first hf, h2]
 simp only
 rw [if_neg (by decide), if_neg (by simp [h4]), h1]
 simp only
 rw [List.drop_left, List.take_left, h3, Nat.sub_self, List.take_zero]
 have e1 : lines ([] : List UInt8) = 0 := rfl
 rw [e1, Nat.add_zero, ih, opn_flat r hr]
 simp
theorem lex_flat : ∀ (l : List Lxm) (f : Nat) (first : Bool), OkL l → (flat l).length < f → lexF f (flat l) 1 first = (tkL first l ++ [endTok 1], 0, 0)
 | [], f + 1, first, _, _ => rfl
 | a :: r, f, first, h, hf => by
  obtain ⟨hg, hr⟩ := h
  rw [flat_cons] at hf ⊢
  have hl : (flat r).length < f := by rw [List.length_append] at hf; omega
  have ih := lex_flat r f false hr hl
  unfold Lxm.out at hf ⊢
  unfold tkL
  cases hs : a.sp with
  | true =>
   rw [hs] at hf
   simp only [if_true, List.cons_append, List.length_cons] at hf ⊢
   rw [lex_blank f _ 1 first hf, lex_core a r f true hg hr (by omega) ih]
   simp
  | false =>
   rw [hs] at hf
   simp only [Bool.false_eq_true, if_false] at hf ⊢
   rw [lex_core a r f first hg hr hf ih]
   simp
theorem lexB_flat (l : List Lxm) (h : OkL l) : lexB (flat l) = (tkL true l ++ [endTok 1], 0, 0) := lex_flat l _ true h (Nat.lt_succ_self _)
structure Soft (x : UInt8) : Prop where
 word : isWord x = false
 sign : isSign x = false
 quote : x ≠ 39
def SoftR (l : List UInt8) : Prop := ∃ x r, l = x :: r ∧ Soft x
theorem soft_of {x : UInt8} (h : x = 32 ∨ x = 40 ∨ x = 41 ∨ x = 44 ∨ x = 91 ∨ x = 93 ∨ x = 123 ∨ x = 124 ∨ x = 125) : Soft x := by
 rcases h with rfl | rfl | rfl | rfl | rfl | rfl | rfl | rfl | rfl <;> exact ⟨by decide, by decide, by decide⟩
theorem Soft.ne {x c : UInt8} (h : Soft x) (hc : isWord c = true ∨ isSign c = true ∨ c = 39) : x ≠ c := by
 rintro rfl
 rcases hc with h1 | h1 | h1
 ·rw [h.word] at h1; cases h1
 ·rw [h.sign] at h1; cases h1
 ·exact h.quote h1
theorem Soft.dig {x : UInt8} (h : Soft x) : ¬ digVal x < 10 := by
 intro h1
 have h2 : isWord x = true := by
  unfold digVal at h1
  unfold isWord bsort bsortI
  have h3 : 48 ≤ x.toNat ∧ x.toNat ≤ 57 := by
   split at h1
   ·assumption
   ·split at h1
    ·omega
    ·split at h1
     ·omega
     ·omega
  rw [if_neg (by omega), if_neg (by omega), if_neg (by omega), if_pos (by omega)]
  rfl
 rw [h.word] at h2
 cases h2
theorem esc_no10 (c : UInt8) : (escB c).count 10 = 0 := by
 have h := u8_all (fun c => decide ((escB c).count 10 = 0)) (by decide +kernel) c
 exact of_decide_eq_true h
theorem escs_lines : ∀ s : List UInt8, lines (s.flatMap escB) = 0
 | [] => rfl
 | c :: r => by
  rw [List.flatMap_cons, lines_app, escs_lines r]
  exact esc_no10 c
theorem count_no {p : UInt8 → Bool} (hp : p 10 = false) : ∀ l : List UInt8, l.all p = true → lines l = 0
 | [], _ => rfl
 | c :: r, h => by
  rw [List.all_cons, Bool.and_eq_true] at h
  have ih := count_no hp r h.2
  unfold lines at ih ⊢
  rw [List.count_cons, ih, if_neg (by rw [beq_iff_eq]; rintro rfl; rw [hp] at h; exact absurd h.1 (by simp))]
theorem put_lines (s : List UInt8) : lines (putB s) = 0 := by
 unfold putB
 split
 ·rename_i hp
  unfold plainB at hp
  split at hp
  ·cases hp
  ·split at hp
   ·rename_i h
    rcases h with rfl | rfl | rfl | rfl <;> rfl
   ·split at hp
    ·exact count_no (by decide) s hp
    ·rw [Bool.and_eq_true] at hp
     exact count_no (by decide) s hp.2
 ·unfold quoteB
  rw [lines_app, lines_app, escs_lines]
  rfl
section
variable {x : UInt8} (hx : Soft x) (R : List UInt8)
include hx
theorem atom_soft (s : List UInt8) (h1 : s ≠ [91, 93]) (h2 : s ≠ [123, 125]) :
    tokF (putB s ++ x :: R) = some ⟨if plainB s then 1 else 2, 0, s, (putB s).length⟩ ∧ skipB (putB s ++ x :: R) = (putB s ++ x :: R, true) ∧ putB s ≠ [] := by
 by_cases hp : plainB s = true
 ·have hput : putB s = s := by unfold putB; rw [if_pos hp]
  rw [hput, if_pos hp]
  have hp' := hp
  unfold plainB at hp'
  split at hp'
  ·cases hp'
  rename_i hne
  simp only [not_or] at hne
  cases s with
  | nil => exact absurd rfl hne.1
  | cons c r =>
   have htk : (c :: (r ++ x :: R)).take (c :: r).length = c :: r := by rw [show c :: (r ++ x :: R) = (c :: r) ++ x :: R from rfl, List.take_left]
   rw [show (c :: r) ++ x :: R = c :: (r ++ x :: R) from rfl]
   split at hp'
   ·rename_i h4
    have h5 : c :: r = [33] ∨ c :: r = [59] := by
     rcases h4 with h | h | h | h
     ·exact absurd h h1
     ·exact .inl h
     ·exact .inr h
     ·exact absurd h h2
    have hc : bsort c = 6 := by rcases h5 with h | h <;> (cases h; decide)
    have hr : r = [] := by rcases h5 with h | h <;> (cases h; rfl)
    subst hr
    refine ⟨?_, skip_at (by rw [hc]; decide) (by rintro rfl; revert hc; decide) (by rintro ⟨rfl, -⟩; revert hc; decide), by simp⟩
    have c46 : c ≠ 46 := by rintro rfl; revert hc; decide
    unfold tokF
    simp only
    rw [if_neg (by simp [c46]), if_neg (by rw [hc]; decide), if_neg (by rw [hc]; decide), if_pos hc]
    rfl
   rename_i h4
   split at hp'
   ·rename_i hsm
    have hc : bsort c = 2 := hsm
    have c46 : c ≠ 46 := by rintro rfl; revert hc; decide
    refine ⟨?_, skip_at (by rw [hc]; decide) (by rintro rfl; revert hc; decide) (by rintro ⟨rfl, -⟩; revert hc; decide), by simp⟩
    have hsp : spanN isWord (c :: (r ++ x :: R)) = (c :: r).length := span_x R hp' hx.word
    unfold tokF
    simp only
    rw [if_neg (by simp [c46]), if_pos hc, hsp, htk]
   ·rename_i hsm
    rw [Bool.and_eq_true] at hp'
    obtain ⟨hq1, hq2⟩ := hp'
    have hc : bsort c = 5 := by
     have := List.all_eq_true.1 hq2 c (List.mem_cons_self ..)
     simpa [isSign] using this
    have hsl : ¬ (c = 47 ∧ (r ++ x :: R).head? = some 42) := by
     rintro ⟨rfl, h⟩
     cases r with
     | nil => simp at h; exact hx.ne (c := 42) (by decide) h
     | cons d r => simp at h; subst h; simp at hq1
    have hdot : ¬ (c = 46 ∧ ((r ++ x :: R) = [] ∨ (r ++ x :: R).headD 0 = 37 ∨ bsort ((r ++ x :: R).headD 0) = 1)) := by
     rintro ⟨rfl, h⟩
     cases r with
     | nil => exact hne.2 rfl
     | cons d r =>
      have hd := List.all_eq_true.1 hq2 d (by simp)
      have hd5 : bsort d = 5 := by simpa [isSign] using hd
      rcases h with h | h | h
      ·simp at h
      ·simp at h; subst h; revert hd5; decide
      ·simp at h; rw [hd5] at h; revert h; decide
    refine ⟨?_, skip_at (by rw [hc]; decide) (by rintro rfl; revert hc; decide) hsl, by simp⟩
    have hsp : spanN isSign (c :: (r ++ x :: R)) = (c :: r).length := span_x R hq2 hx.sign
    unfold tokF
    simp only
    rw [if_neg hdot, if_neg (by rw [hc]; decide), if_pos hc, hsp, htk]
 ·have hput : putB s = 39 :: (s.flatMap escB ++ [39]) := by unfold putB; rw [if_neg hp]; simp [quoteB]
  rw [hput, if_neg hp]
  have hg := getQ_esc s (x :: R) (by simp; exact hx.ne (c := 39) (by decide))
  generalize s.flatMap escB = E at *
  have he : 39 :: (E ++ [39]) ++ x :: R = 39 :: (E ++ 39 :: (x :: R)) := by simp
  rw [he]
  have h39 : bsort 39 = 8 := by decide
  refine ⟨?_, skip_at (by decide) (by decide) (by simp), by simp⟩
  unfold tokF
  simp only [h39, hg]
  rw [if_neg (by simp)]
  simp
theorem name_good (sp : Bool) (s : List UInt8) (h1 : s ≠ [91, 93]) (h2 : s ≠ [123, 125]) : Good ⟨sp, if plainB s then 1 else 2, 0, s, putB s⟩ (x :: R) := by
 obtain ⟨a, b, c⟩ := atom_soft hx R s h1 h2
 exact ⟨a, b, put_lines s, c⟩
theorem num_good (sp : Bool) (u : Nat) (hu : u ≤ 9223372036854775808) : Good ⟨sp, 3, tops u, [], Lib.decDigits u⟩ (x :: R) := by
 have hall := dec_all u
 have hp := parse_dec u hu
 have hne := dec_ne u
 have hln := dec_lines u
 generalize hD : Lib.decDigits u = D at *
 cases D with
 | nil => exact absurd rfl hne
 | cons c r =>
  have h1 := hall c (List.mem_cons_self ..)
  have hs := digit_sort h1
  have c46 : c ≠ 46 := by rintro rfl; revert hs; decide
  have hspan : spanN (fun c => decide (digVal c < 10)) (c :: r ++ x :: R) = (c :: r).length :=
   spanN_all _ x (by simpa using hx.dig) R (c :: r) fun y hy => by simpa using digit_val (hall y hy)
  have h2 : ∀ y, (r ++ x :: R).head? = some y → y = x ∨ 48 ≤ y.toNat ∧ y.toNat ≤ 57 := by
   intro y hy
   cases r with
   | nil => simp at hy; exact .inl hy.symm
   | cons d r =>
    simp at hy
    subst hy
    exact .inr (hall d (by simp))
  have hno : ∀ m : UInt8, (m = 120 ∨ m = 111 ∨ m = 98 ∨ m = 39) → ¬ ((c :: (r ++ x :: R)).head? = some 48 ∧ (c :: (r ++ x :: R)).tail.head? = some m) := by
   rintro m hm ⟨-, h⟩
   rcases h2 m h with h3 | h3
   ·exact hx.ne (c := m) (by rcases hm with rfl | rfl | rfl | rfl <;> decide) h3.symm
   ·rcases hm with rfl | rfl | rfl | rfl <;> revert h3 <;> decide
  have hn : numberF (c :: (r ++ x :: R)) = some (tops u, (c :: r).length) := by
   unfold numberF
   rw [if_neg (hno 120 (by decide)), if_neg (hno 111 (by decide)), if_neg (hno 98 (by decide)), if_neg (hno 39 (by decide))]
   unfold digitsF
   rw [List.cons_append] at hspan
   simp only [List.drop_zero]
   rw [hspan, show c :: (r ++ x :: R) = (c :: r) ++ x :: R from rfl, List.take_left, hp]
   simp
  refine ⟨?_, skip_at (by rw [hs]; decide) (by rintro rfl; revert hs; decide) (by rintro ⟨rfl, -⟩; revert hs; decide), hln, by simp⟩
  rw [List.cons_append]
  unfold tokF
  simp only
  rw [if_neg (by simp [c46]), if_neg (by rw [hs]; decide), if_neg (by rw [hs]; decide), if_neg (by rw [hs]; decide), if_neg (by rw [hs]; decide), if_pos hs, hn]
  rfl
theorem var_good (sp : Bool) (n : Int) (hn : 0 ≤ n) : Good ⟨sp, 4, 0, 95 :: Lib.itoa n, 95 :: Lib.itoa n⟩ (x :: R) := by
 obtain ⟨u, rfl⟩ : ∃ u : Nat, n = (u : Int) := ⟨n.toNat, by omega⟩
 rw [Lib.itoa_nonneg]
 have hall := dec_all u
 have hln := dec_lines u
 generalize Lib.decDigits u = D at *
 have hw : (95 :: D).all isWord = true := by
  rw [List.all_cons, Bool.and_eq_true]
  refine ⟨by decide, List.all_eq_true.2 fun c hc => ?_⟩
  unfold isWord
  rw [digit_sort (hall c hc)]
  rfl
 have hsp : spanN isWord (95 :: D ++ x :: R) = (95 :: D).length := span_x R hw hx.word
 have htk : (95 :: D ++ x :: R).take (95 :: D).length = 95 :: D := List.take_left
 refine ⟨?_, skip_at (by decide) (by decide) (fun h => absurd h.1 (by decide)), count_no (by decide) _ hw, by simp⟩
 rw [List.cons_append] at hsp htk ⊢
 have e1 : bsort 95 = 3 := by decide
 unfold tokF
 simp only
 rw [if_neg (fun h => absurd h.1 (by decide)), if_neg (by rw [e1]; decide), if_neg (by rw [e1]; decide), if_neg (by rw [e1]; decide), if_pos e1, hsp, htk]
end
theorem minus_good (sp : Bool) (d : UInt8) (R : List UInt8) (hd : isSign d = false) : Good ⟨sp, 1, 0, [45], [45]⟩ (d :: R) :=
 ⟨sign_tok d R hd, skip_at (by decide) (by decide) (fun h => absurd h.1 (by decide)), rfl, by simp⟩
theorem punct_good (sp : Bool) (c : UInt8) (rest : List UInt8) (hc : c = 40 ∨ c = 41 ∨ c = 44 ∨ c = 91 ∨ c = 93 ∨ c = 123 ∨ c = 124 ∨ c = 125) : Good ⟨sp, 6, 0, [c], [c]⟩ rest := by
 have hb : bsort c = 7 := by rcases hc with rfl | rfl | rfl | rfl | rfl | rfl | rfl | rfl <;> decide
 have h1 : c ≠ 46 ∧ c ≠ 39 ∧ c ≠ 34 ∧ c ≠ 37 ∧ c ≠ 47 := by rcases hc with rfl | rfl | rfl | rfl | rfl | rfl | rfl | rfl <;> decide
 obtain ⟨a1, a2, a3, a4, a5⟩ := h1
 refine ⟨?_, skip_at (by rw [hb]; decide) a4 (fun h => a5 h.1), ?_, by simp⟩
 ·rw [List.singleton_append]
  unfold tokF
  simp only
  rw [if_neg (fun h => a1 h.1), if_neg (by rw [hb]; decide), if_neg (by rw [hb]; decide), if_neg (by rw [hb]; decide), if_neg (by rw [hb]; decide), if_neg (by rw [hb]; decide), if_neg a2, if_neg a3, if_pos hb]
  rfl
 ·rcases hc with rfl | rfl | rfl | rfl | rfl | rfl | rfl | rfl <;> rfl
def stopL : Lxm := ⟨true, 7, 0, [], [46]⟩
theorem stop_good : Good stopL [] := ⟨rfl, rfl, rfl, by simp [stopL]⟩
end Go.Proofs.YtcallkljcjimiaaGreatDoor
namespace Go.Proofs.YtcallkljcjimiaaGreatDoor
def pL (c : UInt8) : Lxm := ⟨false, 6, 0, [c], [c]⟩
def nmL (s : List UInt8) : List Lxm := if s = [91, 93] ∨ s = [123, 125] then [pL (s.headD 0), pL (s.tail.headD 0)] else [⟨false, if plainB s then 1 else 2, 0, s, putB s⟩]
def vrL (n : Int) : Lxm := ⟨false, 4, 0, 95 :: Lib.itoa n, 95 :: Lib.itoa n⟩
def numL (u : Nat) : Lxm := ⟨false, 3, tops u, [], Lib.decDigits u⟩
def minL : Lxm := ⟨false, 1, 0, [45], [45]⟩
def inL (n : Int) : List Lxm := if n < 0 then [minL, numL n.natAbs] else [numL n.toNat]
def spL : List Lxm → List Lxm
 | [] => []
 | a :: r => { a with sp := true } :: r
section
variable (es : List (OpK × OpV)) (way : Int) (g : Tm → Int → List Lxm)
def commaL : List Tm → List Lxm
 | [] => []
 | [t] => g t 999
 | t :: r => g t 999 ++ pL 44 :: commaL r
def opdL (t : Tm) (o : OpR) (same : Bool) : List Lxm := if withinF es way t o same then pL 40 :: (g t 1200 ++ [pL 41]) else g t 1200
def opeL (o : OpR) (l : List Tm) : List Lxm :=
 if o.side = 1 then nmL o.name ++ spL (opdL es way g (l.getD 0 noTm) o false)
 else if o.side = 3 then opdL es way g (l.getD 0 noTm) o false ++ spL (nmL o.name)
 else opdL es way g (l.getD 0 noTm) o o.left ++ (if o.name = [44] then pL 44 :: opdL es way g (l.getD 1 noTm) o o.right else spL (nmL o.name) ++ spL (opdL es way g (l.getD 1 noTm) o o.right))
def tailL (t : Tm) : List Lxm := if t.k = 3 ∧ t.s = [91, 93] then [] else pL 124 :: g t 999
def lstL (t : Tm) : List Lxm := pL 91 :: (commaL g (consF t.size t).1 ++ (tailL g (consF t.size t).2 ++ [pL 93]))
def cmpL (t : Tm) (most : Int) : List Lxm :=
 if consT t = true then lstL g t
 else if way ≠ 2 ∧ t.s = [123, 125] ∧ t.args.length = 1 then pL 123 :: (g (t.args.getD 0 noTm) 1200 ++ [pL 125])
 else match operF es way t with
  | none => nmL t.s ++ pL 40 :: (commaL g t.args ++ [pL 41])
  | some o => if most < o.pri then pL 40 :: (opeL es way g o t.args ++ [pL 41]) else opeL es way g o t.args
def lxStep (t : Tm) (most : Int) : List Lxm :=
 if t.k = 1 then [vrL t.n]
 else if t.k = 2 then inL t.n
 else if t.k = 3 then nmL t.s
 else cmpL es way g t most
end
def lxF (es : List (OpK × OpV)) (way : Int) : Nat → Tm → Int → List Lxm
 | 0, _, _ => []
 | f + 1, t, most => lxStep es way (lxF es way f) t most
def HeadOk (l : List Lxm) : Prop := ∃ a r, l = a :: r ∧ a.sp = false
structure LxOk (l : List Lxm) (txt : List UInt8) : Prop where
 flat : flat l = txt
 head : HeadOk l
 ok : ∀ rest, SoftR (Go.Proofs.YtcallkljcjimiaaGreatDoor.flat rest) → OkL rest → OkL (l ++ rest)
theorem sp_out {a : Lxm} (h : a.sp = false) : a.out = a.txt := by unfold Lxm.out; rw [h]; rfl
theorem flat_sp {l : List Lxm} (h : HeadOk l) : flat (spL l) = 32 :: flat l := by
 obtain ⟨a, r, rfl, ha⟩ := h
 unfold spL
 rw [flat_cons, flat_cons, sp_out ha]
 rfl
theorem okL_sp : ∀ (l rest : List Lxm), OkL (l ++ rest) → OkL (spL l ++ rest)
 | [], _, h => h
 | _ :: _, _, h => ⟨⟨h.1.tok, h.1.skip, h.1.ln, h.1.ne⟩, h.2⟩
theorem flat_p (c : UInt8) (r : List Lxm) : flat (pL c :: r) = c :: flat r := rfl
theorem soft_p {c : UInt8} (hc : c = 40 ∨ c = 41 ∨ c = 44 ∨ c = 91 ∨ c = 93 ∨ c = 123 ∨ c = 124 ∨ c = 125) (r : List Lxm) : SoftR (flat (pL c :: r)) :=
 ⟨c, flat r, flat_p c r, soft_of (by rcases hc with h | h | h | h | h | h | h | h <;> simp [h])⟩
theorem okL_p {c : UInt8} (hc : c = 40 ∨ c = 41 ∨ c = 44 ∨ c = 91 ∨ c = 93 ∨ c = 123 ∨ c = 124 ∨ c = 125) {r : List Lxm} (h : OkL r) : OkL (pL c :: r) := ⟨punct_good false c _ hc, h⟩
theorem soft_sp {l : List Lxm} (h : HeadOk l) (r : List Lxm) : SoftR (flat (spL l ++ r)) := by
 rw [flat_app, flat_sp h]
 exact ⟨32, _, rfl, soft_of (.inl rfl)⟩
theorem headOk_app {a : List Lxm} (b : List Lxm) (h : HeadOk a) : HeadOk (a ++ b) := by
 obtain ⟨x, r, rfl, hx⟩ := h
 exact ⟨x, r ++ b, rfl, hx⟩
theorem lx_name (s : List UInt8) : LxOk (nmL s) (putB s) := by
 unfold nmL
 by_cases h : s = [91, 93] ∨ s = [123, 125]
 ·rw [if_pos h]
  rcases h with rfl | rfl
  ·exact ⟨by decide +kernel, ⟨_, _, rfl, rfl⟩, fun rest hr ho => okL_p (by decide) (okL_p (by decide) ho)⟩
  ·exact ⟨by decide +kernel, ⟨_, _, rfl, rfl⟩, fun rest hr ho => okL_p (by decide) (okL_p (by decide) ho)⟩
 ·rw [if_neg h]
  refine ⟨?_, ⟨_, _, rfl, rfl⟩, fun rest hr ho => ?_⟩
  ·rw [flat_cons, flat_nil, sp_out rfl, List.append_nil]
  ·obtain ⟨x, R, hR, hx⟩ := hr
   refine ⟨?_, ho⟩
   show Good _ (flat rest)
   rw [hR]
   exact name_good hx R false s (fun e => h (.inl e)) (fun e => h (.inr e))
theorem lx_var (n : Int) (hn : 0 ≤ n) : LxOk [vrL n] (95 :: Lib.itoa n) := by
 refine ⟨?_, ⟨_, _, rfl, rfl⟩, fun rest hr ho => ?_⟩
 ·rw [flat_cons, flat_nil, sp_out rfl, List.append_nil]
  rfl
 ·obtain ⟨x, R, hR, hx⟩ := hr
  refine ⟨?_, ho⟩
  show Good _ (flat rest)
  rw [hR]
  exact var_good hx R false n hn
theorem lx_num (u : Nat) (hu : u ≤ 9223372036854775808) : LxOk [numL u] (Lib.decDigits u) := by
 refine ⟨?_, ⟨_, _, rfl, rfl⟩, fun rest hr ho => ?_⟩
 ·rw [flat_cons, flat_nil, sp_out rfl, List.append_nil]
  rfl
 ·obtain ⟨x, R, hR, hx⟩ := hr
  refine ⟨?_, ho⟩
  show Good _ (flat rest)
  rw [hR]
  exact num_good hx R false u hu
theorem lx_int (n : Int) (hn : -9223372036854775808 ≤ n ∧ n ≤ 9223372036854775807) : LxOk (inL n) (Lib.itoa n) := by
 unfold inL Lib.itoa
 by_cases h : n < 0
 ·rw [if_pos h, if_pos h]
  have h1 := lx_num n.natAbs (by omega)
  refine ⟨?_, ⟨_, _, rfl, rfl⟩, fun rest hr ho => ⟨?_, h1.ok rest hr ho⟩⟩
  ·rw [flat_cons, h1.flat, sp_out rfl]
   rfl
  ·show Good minL (flat (numL n.natAbs :: rest))
   rw [flat_cons, sp_out rfl]
   have hall := dec_all n.natAbs
   have hne := dec_ne n.natAbs
   show Good minL (Lib.decDigits n.natAbs ++ flat rest)
   cases hD : Lib.decDigits n.natAbs with
   | nil => exact absurd hD hne
   | cons d r =>
    rw [hD] at hall
    refine minus_good false d _ ?_
    unfold isSign
    rw [digit_sort (hall d (List.mem_cons_self ..))]
    rfl
 ·rw [if_neg h, if_neg h]
  exact lx_num n.toNat (by omega)
theorem lx_paren {l : List Lxm} {t : List UInt8} (a b : UInt8) (ha : a = 40 ∨ a = 41 ∨ a = 44 ∨ a = 91 ∨ a = 93 ∨ a = 123 ∨ a = 124 ∨ a = 125) (hb : b = 40 ∨ b = 41 ∨ b = 44 ∨ b = 91 ∨ b = 93 ∨ b = 123 ∨ b = 124 ∨ b = 125) (h : LxOk l t) : LxOk (pL a :: (l ++ [pL b])) (a :: (t ++ [b])) := by
 refine ⟨?_, ⟨_, _, rfl, rfl⟩, fun rest hr ho => ?_⟩
 ·rw [flat_p, flat_app, h.flat]
  rfl
 ·rw [List.cons_append, List.append_assoc]
  exact okL_p ha (h.ok _ (soft_p hb _) (okL_p hb ho))
theorem lx_comma {g : Tm → Int → List Lxm} {g' : Tm → Int → List UInt8} : ∀ (l : List Tm), l ≠ [] → (∀ t ∈ l, LxOk (g t 999) (g' t 999)) → LxOk (commaL g l) (commaF g' l)
 | [], h, _ => absurd rfl h
 | [t], _, h => h t (by simp)
 | t :: u :: r, _, h => by
  have ih := lx_comma (u :: r) (by simp) (fun x hx => h x (List.mem_cons_of_mem _ hx))
  have h1 := h t (by simp)
  simp only [commaL, commaF] at ih ⊢
  refine ⟨?_, headOk_app _ h1.head, fun rest hr ho => ?_⟩
  ·rw [flat_app, h1.flat, flat_p, ih.flat]
  ·rw [List.append_assoc, List.cons_append]
   exact h1.ok _ (soft_p (by decide) _) (okL_p (by decide) (ih.ok rest hr ho))
section
variable {es : List (OpK × OpV)} {way : Int} {g : Tm → Int → List Lxm} {g' : Tm → Int → List UInt8}
theorem lx_opd (t : Tm) (o : OpR) (same : Bool) (h : LxOk (g t 1200) (g' t 1200)) : LxOk (opdL es way g t o same) (operandF es way g' t o same) := by
 unfold opdL operandF
 split
 ·exact lx_paren 40 41 (by decide) (by decide) h
 ·exact h
theorem lx_ope (hway : way ≠ 0) (o : OpR) (l : List Tm) (h : ∀ i, i < l.length → LxOk (g (l.getD i noTm) 1200) (g' (l.getD i noTm) 1200)) (hl : ((o.side = 1 ∨ o.side = 3) ∧ l.length = 1 ∨ o.side = 2 ∧ l.length = 2)) :
    LxOk (opeL es way g o l) (operateF es way g' o l) := by
 have hn := lx_name o.name
 have ht : textF way o.name = putB o.name := by unfold textF; rw [if_neg hway]
 unfold opeL operateF
 rw [ht]
 rcases hl with ⟨hs | hs, hl⟩ | ⟨hs, hl⟩
 ·have h0 := lx_opd (es := es) (way := way) _ o false (h 0 (by omega))
  rw [if_pos hs, if_pos hs]
  refine ⟨?_, headOk_app _ hn.head, fun rest hr ho => ?_⟩
  ·rw [flat_app, hn.flat, flat_sp h0.head, h0.flat]
  ·rw [List.append_assoc]
   exact hn.ok _ (soft_sp h0.head _) (okL_sp _ _ (h0.ok rest hr ho))
 ·have h0 := lx_opd (es := es) (way := way) _ o false (h 0 (by omega))
  have n1 : ¬ o.side = 1 := by omega
  rw [if_neg n1, if_pos hs, if_neg n1, if_pos hs]
  refine ⟨?_, headOk_app _ h0.head, fun rest hr ho => ?_⟩
  ·rw [flat_app, h0.flat, flat_sp hn.head, hn.flat]
  ·rw [List.append_assoc]
   exact h0.ok _ (soft_sp hn.head _) (okL_sp _ _ (hn.ok rest hr ho))
 ·have h0 := lx_opd (es := es) (way := way) _ o o.left (h 0 (by omega))
  have h1 := lx_opd (es := es) (way := way) _ o o.right (h 1 (by omega))
  have n1 : ¬ o.side = 1 := by omega
  have n3 : ¬ o.side = 3 := by omega
  rw [if_neg n1, if_neg n3, if_neg n1, if_neg n3]
  by_cases hc : o.name = [44]
  ·rw [if_pos hc, if_pos hc]
   refine ⟨?_, headOk_app _ h0.head, fun rest hr ho => ?_⟩
   ·rw [flat_app, h0.flat, flat_p, h1.flat]
    rfl
   ·rw [List.append_assoc, List.cons_append]
    exact h0.ok _ (soft_p (by decide) _) (okL_p (by decide) (h1.ok rest hr ho))
  ·rw [if_neg hc, if_neg hc]
   refine ⟨?_, headOk_app _ h0.head, fun rest hr ho => ?_⟩
   ·rw [flat_app, h0.flat, flat_app, flat_sp hn.head, flat_sp h1.head, hn.flat, h1.flat]
    simp
   ·rw [List.append_assoc, List.append_assoc]
    exact h0.ok _ (soft_sp hn.head _) (okL_sp _ _ (hn.ok _ (soft_sp h1.head _) (okL_sp _ _ (h1.ok rest hr ho))))
end
theorem args_ne {t : Tm} (h : WfT t) (hk : t.k = 4) : t.args ≠ [] := by
 obtain ⟨k, n, s, l⟩ := t
 have h1 := h.may
 rw [Tm.may, Bool.and_eq_true] at h1
 have h1 := h1.1
 have hk : k = 4 := hk
 subst hk
 unfold mayP at h1
 rw [if_neg (by decide), if_neg (by decide), if_neg (by decide), if_pos rfl] at h1
 have := of_decide_eq_true h1
 show l ≠ []
 rintro rfl
 simp at this
theorem var_pos {t : Tm} (h : WfT t) (hk : t.k = 1) : 0 ≤ t.n := by
 obtain ⟨k, n, s, l⟩ := t
 have h1 := h.may
 rw [Tm.may, Bool.and_eq_true] at h1
 have h1 := h1.1
 have hk : k = 1 := hk
 subst hk
 unfold mayP at h1
 rw [if_pos rfl] at h1
 have := of_decide_eq_true h1
 exact this.1
theorem lx_ok (es : List (OpK × OpV)) (way : Int) (hway : way ≠ 0) : ∀ (f : Nat) (t : Tm) (m : Int), t.size ≤ f → WfT t → LxOk (lxF es way f t m) (wrF es way f t m)
 | 0, t, _, h, _ => by have := size_pos t; omega
 | f + 1, t, m, h, hw => by
  have ih : ∀ x : Tm, x.size < t.size → WfT x → ∀ m, LxOk (lxF es way f x m) (wrF es way f x m) := fun x hx hwx m => lx_ok es way hway f x m (by omega) hwx
  unfold lxF wrF lxStep wrStep
  by_cases h1 : t.k = 1
  ·rw [if_pos h1, if_pos h1]
   exact lx_var t.n (var_pos hw h1)
  by_cases h2 : t.k = 2
  ·rw [if_neg h1, if_neg h1, if_pos h2, if_pos h2]
   exact lx_int t.n hw.n
  by_cases h3 : t.k = 3
  ·rw [if_neg h1, if_neg h1, if_neg h2, if_neg h2, if_pos h3, if_pos h3]
   have := lx_name t.s
   unfold textF
   rw [if_neg hway]
   exact this
  rw [if_neg h1, if_neg h1, if_neg h2, if_neg h2, if_neg h3, if_neg h3]
  have h4 : t.k = 4 := by rcases hw.kind with h | h | h | h <;> first | exact h | contradiction
  have hd : ∀ i, i < t.args.length → ∀ m, LxOk (lxF es way f (t.args.getD i noTm) m) (wrF es way f (t.args.getD i noTm) m) := fun i hi m => ih _ (arg_size hi) (hw.arg hi) m
  have ha : ∀ x ∈ t.args, ∀ m, LxOk (lxF es way f x m) (wrF es way f x m) := fun x hx m => ih x (by have h1 := mem_sizes t.args x hx; have h2 := size_args t; omega) (hw.mem hx) m
  unfold cmpL compF
  by_cases hc : consT t = true
  ·rw [if_pos hc, if_pos hc]
   obtain ⟨i1, i2, i3⟩ := consF_size t.size t
   obtain ⟨w1, w2⟩ := consF_wf t.size t hw
   have i3 := i3 hc (size_pos t)
   have hne : (consF t.size t).1 ≠ [] := by
    have := consF_pos hc (size_pos t)
    intro e
    rw [e] at this
    exact absurd this (by decide)
   have hcm := lx_comma (g := lxF es way f) (g' := wrF es way f) (consF t.size t).1 hne fun x hx => ih x (i1 x hx) (w1 x hx) 999
   have htl := ih _ i3 w2 999
   unfold lstL listF
   refine ⟨?_, ⟨_, _, rfl, rfl⟩, fun rest hr ho => ?_⟩
   ·rw [flat_p, flat_app, hcm.flat, flat_app]
    unfold tailL tailF
    split
    ·rfl
    ·rw [flat_p, htl.flat]
     rfl
   ·rw [List.cons_append, List.append_assoc, List.append_assoc]
    unfold tailL
    split
    ·exact okL_p (by decide) (hcm.ok _ (soft_p (by decide) _) (okL_p (by decide) ho))
    ·exact okL_p (by decide) (hcm.ok _ (soft_p (by decide) _) (okL_p (by decide) (htl.ok _ (soft_p (by decide) _) (okL_p (by decide) ho))))
  ·rw [if_neg hc, if_neg hc]
   by_cases hb : way ≠ 2 ∧ t.s = [123, 125] ∧ t.args.length = 1
   ·rw [if_pos hb, if_pos hb]
    exact lx_paren 123 125 (by decide) (by decide) (hd 0 (by omega) 1200)
   ·rw [if_neg hb, if_neg hb]
    cases ho : operF es way t with
    | none =>
     simp only
     have hn := lx_name t.s
     have hcm := lx_comma (g := lxF es way f) (g' := wrF es way f) t.args (args_ne hw h4) fun x hx => ha x hx 999
     have hp := lx_paren 40 41 (by decide) (by decide) hcm
     have ht : textF way t.s = putB t.s := by unfold textF; rw [if_neg hway]
     rw [ht]
     refine ⟨?_, headOk_app _ hn.head, fun rest hr ho => ?_⟩
     ·rw [flat_app, hn.flat, hp.flat]
     ·rw [List.append_assoc]
      exact hn.ok _ (soft_p (by decide) _) (hp.ok rest hr ho)
    | some o =>
     simp only
     obtain ⟨_, _, h7⟩ := oper_name ho
     have hp := lx_ope (es := es) hway o t.args (fun i hi => hd i hi 1200) h7
     split
     ·exact lx_paren 40 41 (by decide) (by decide) hp
     ·exact hp
end Go.Proofs.YtcallkljcjimiaaGreatDoor
