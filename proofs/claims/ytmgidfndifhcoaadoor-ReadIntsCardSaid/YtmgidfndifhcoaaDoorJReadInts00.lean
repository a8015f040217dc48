import Derived.Test.YtmgidfndifhcoaaDoorJReadBrackets23
import Derived.Test.YtmgidfndifhcoaaDoorJReadBrackets32
import Derived.Test.YtmgidfndifhcoaaDoorJReadBrackets29
import Derived.Test.YtmgidfndifhcoaaDoorJReadBrackets08
import Derived.Lib.ItoaMem
import Derived.Shelf.Strconv.Itoa4
import Derived.Test.YtmgidfndifhcoaaDoorProg
/-
  The digits of a number in a base, and the tokens of such a text. Condition: a base from 2 to 16.
-/
namespace Go.Proofs.YtmgidfndifhcoaaDoor

def digsF (base : Nat) : Nat → Nat → List UInt8
  | 0, _ => []
  | f + 1, k => if k < base then [hexDigit k] else digsF base f (k / base) ++ [hexDigit (k % base)]
/-- A number's digits. -/
def digsB (base k : Nat) : List UInt8 := digsF base (k + 1) k

theorem digsF_fuel {base : Nat} (hb : 2 ≤ base) : ∀ (f g k : Nat), k < f → k < g → digsF base f k = digsF base g k := by
  intro f
  induction f with
  | zero => intro g k h; omega
  | succ f ih =>
    intro g k h1 h2
    cases g with
    | zero => omega
    | succ g =>
      simp only [digsF]
      split
      · rfl
      · rename_i hk
        have : k / base < k := Nat.div_lt_self (by omega) (by omega)
        rw [ih g (k / base) (by omega) (by omega)]
theorem digsB_small {base k : Nat} (h : k < base) : digsB base k = [hexDigit k] := by
  unfold digsB digsF
  rw [if_pos h]
theorem digsB_step {base k : Nat} (hb : 2 ≤ base) (h : ¬ k < base) : digsB base k = digsB base (k / base) ++ [hexDigit (k % base)] := by
  have hk : k / base < k := Nat.div_lt_self (by omega) (by omega)
  unfold digsB
  rw [show k + 1 = k.succ from rfl, digsF, if_neg h, digsF_fuel hb k (k / base + 1) (k / base) hk (by omega)]
theorem digsB_ind {base : Nat} (hb : 2 ≤ base) (p : Nat → List UInt8 → Prop) (h0 : ∀ k, k < base → p k [hexDigit k]) (h1 : ∀ k l, ¬ k < base → p (k / base) l → p k (l ++ [hexDigit (k % base)])) : ∀ n k, k < n → p k (digsB base k) := by
  intro n
  induction n with
  | zero => intro k h; omega
  | succ n ih =>
    intro k h
    by_cases hk : k < base
    · rw [digsB_small hk]; exact h0 k hk
    · rw [digsB_step hb hk]
      have : k / base < k := Nat.div_lt_self (by omega) (by omega)
      exact h1 k _ hk (ih _ (by omega))
theorem digsB_ne {base : Nat} (hb : 2 ≤ base) (k : Nat) : digsB base k ≠ [] :=
  digsB_ind hb (fun _ l => l ≠ []) (by simp) (by simp) (k + 1) k (by omega)
theorem hexDigit_val : ∀ d, d < 16 → digVal (hexDigit d) = d ∧ (48 ≤ (hexDigit d).toNat ∧ (hexDigit d).toNat ≤ 57 ∨ 97 ≤ (hexDigit d).toNat ∧ (hexDigit d).toNat ≤ 102) := by decide
theorem hexDigit_ten : ∀ d, d < 10 → 48 ≤ (hexDigit d).toNat ∧ (hexDigit d).toNat ≤ 57 := by decide
theorem digsB_val {base : Nat} (hb : 2 ≤ base) (hc : base ≤ 16) (k : Nat) : valOf base (digsB base k) = k :=
  digsB_ind hb (fun k l => valOf base l = k) (fun k hk => by
    have := (hexDigit_val k (by omega)).1
    simp [valOf, this]) (fun k l hk h => by
    have hm : k % base < base := Nat.mod_lt _ (by omega)
    rw [valOf_snoc, h, (hexDigit_val _ (by omega)).1, Nat.mul_comm]
    exact Nat.div_add_mod k base) (k + 1) k (by omega)
theorem digsB_all {base : Nat} (hb : 2 ≤ base) (hc : base ≤ 16) (p : UInt8 → Bool) (hp : ∀ d, d < base → p (hexDigit d) = true) (k : Nat) : ∀ c ∈ digsB base k, p c = true :=
  digsB_ind hb (fun _ l => ∀ c ∈ l, p c = true) (fun k hk c h => by
    rw [List.mem_singleton] at h
    rw [h]; exact hp k hk) (fun k l hk h c hc' => by
    rw [List.mem_append, List.mem_singleton] at hc'
    rcases hc' with hc' | rfl
    · exact h c hc'
    · exact hp _ (Nat.mod_lt _ (by omega))) (k + 1) k (by omega)
theorem digsB_len {base : Nat} (hb : 2 ≤ base) : ∀ (n k : Nat), k < 2 ^ n → (digsB base k).length ≤ n + 1 := by
  intro n
  induction n with
  | zero =>
    intro k hk
    rw [digsB_small (by simp at hk; omega)]
    simp
  | succ n ih =>
    intro k hk
    by_cases h : k < base
    · rw [digsB_small h]; simp
    · rw [digsB_step hb h, List.length_append]
      have h1 : k / base ≤ k / 2 := Nat.div_le_div_left hb (by omega)
      have := ih (k / base) (by rw [Nat.pow_succ] at hk; omega)
      simp only [List.length_cons, List.length_nil]
      omega

theorem spanN_all (p : UInt8 → Bool) (x : UInt8) (hx : p x = false) (r : List UInt8) : ∀ l : List UInt8, (∀ c ∈ l, p c = true) → spanN p (l ++ x :: r) = l.length
  | [], _ => by rw [List.nil_append, spanN_cons, hx]; rfl
  | c :: l, h => by
    rw [List.cons_append, spanN_cons, if_pos (h c (List.mem_cons_self ..)), spanN_all p x hx r l (fun c' h' => h c' (List.mem_cons_of_mem _ h'))]
    rfl
theorem parseF_digs {base : Nat} (hb : 2 ≤ base) (hc : base ≤ 16) (k : Nat) (hk : k < 4294967296) : parseF base (digsB base k) = ((k : Int), 0) := by
  unfold parseF
  have hd : digitsIn base (digsB base k) = true := by
    unfold digitsIn
    rw [List.all_eq_true]
    exact digsB_all hb hc (fun c => decide (digVal c < base)) (fun d hd => by simp only [decide_eq_true_eq]; rw [(hexDigit_val d (by omega)).1]; exact hd) k
  rw [if_neg (by simp [digsB_ne hb, hd]), digsB_val hb hc, if_neg (by omega)]
  unfold tops
  rw [if_neg (by omega)]
theorem digsF_of {base : Nat} (hb : 2 ≤ base) (hc : base ≤ 16) (k : Nat) (hk : k < 4294967296) (pre : List UInt8) : digitsF base (pre ++ (digsB base k ++ [32])) pre.length = some ((k : Int), pre.length + (digsB base k).length) := by
  unfold digitsF
  have hs : spanN (fun c => decide (digVal c < base)) (digsB base k ++ [32]) = (digsB base k).length :=
    spanN_all _ 32 (by have : digVal 32 = 36 := by decide
                       simp only [this]; simp; omega) [] _ (digsB_all hb hc (fun c => decide (digVal c < base)) (fun d hd => by simp only [decide_eq_true_eq]; rw [(hexDigit_val d (by omega)).1]; exact hd) k)
  simp only [List.drop_left]
  rw [hs, List.take_left, parseF_digs hb hc k hk]
  rfl

/-- A text of one number and a blank. -/
theorem lex_num {c : UInt8} {r l0 : List UInt8} {x : Int} (hc : bsort c = 4) (hl : c :: r = l0 ++ [32]) (hn : numberF (c :: r) = some (x, l0.length)) (h10 : lines l0 = 0) :
    lexB (c :: r) = ([⟨3, 1, x, [], false, false⟩, ⟨0, 1, 0, [], false, false⟩], 0, 0) := by
  have c46 : c ≠ 46 := by rintro rfl; revert hc; decide
  have c37 : c ≠ 37 := by rintro rfl; revert hc; decide
  have c47 : c ≠ 47 := by rintro rfl; revert hc; decide
  have hs : skipB (c :: r) = (c :: r, true) := by
    unfold skipB
    rw [List.length_cons, skipF_cons, if_neg (by rw [hc]; decide), if_neg c37, if_neg (by simp [c47])]
  have ht : tokF (c :: r) = some ⟨3, x, [], l0.length⟩ := by
    unfold tokF
    simp only
    rw [if_neg (by simp [c46]), if_neg (by rw [hc]; decide), if_neg (by rw [hc]; decide), if_neg (by rw [hc]; decide), if_neg (by rw [hc]; decide), if_pos hc, hn]
    rfl
  have hd : (c :: r).drop l0.length = [32] := by rw [hl, List.drop_left]
  have htk : (c :: r).take l0.length = l0 := by rw [hl, List.take_left]
  have h32 : skipB [32] = ([], true) := by decide
  unfold lexB
  rw [lexF_step _ _ _ _ (Nat.lt_succ_self _)]
  simp only [hs, ht, hd, htk, h10]
  rw [List.length_cons, lexF]
  simp only [h32]
  simp [lines]

theorem hexDigit_not10 : ∀ d, d < 16 → (hexDigit d != 10) = true := by decide
theorem digsB_lines {base : Nat} (hb : 2 ≤ base) (hc : base ≤ 16) (k : Nat) : lines (digsB base k) = 0 := by
  unfold lines
  rw [List.count_eq_zero]
  intro h
  have := digsB_all hb hc (fun c => c != 10) (fun d hd => hexDigit_not10 d (by omega)) k 10 h
  simp at this
def pairOf (x : Int) : List Tok := [⟨3, 1, x, [], false, false⟩, ⟨0, 1, 0, [], false, false⟩]
theorem lex_ten (n : Nat) (hn : n < 4294967296) : lexB (digsB 10 n ++ [32]) = (pairOf n, 0, 0) := by
  have hne := digsB_ne (base := 10) (by omega) n
  have hall := digsB_all (base := 10) (by omega) (by omega) (fun c => decide (48 ≤ c.toNat ∧ c.toNat ≤ 57)) (fun d hd => by simpa using hexDigit_ten d hd) n
  cases hd : digsB 10 n with
  | nil => exact absurd hd hne
  | cons c r =>
    have h1 := hall c (by rw [hd]; exact List.mem_cons_self ..)
    simp only [decide_eq_true_eq] at h1
    have hln : lines (c :: r) = 0 := by
      have := digsB_lines (base := 10) (by omega) (by omega) n
      rw [hd] at this
      exact this
    refine lex_num (c := c) (r := r ++ [32]) (l0 := c :: r) ?_ rfl ?_ hln
    · unfold bsort bsortI
      rw [if_neg (by omega), if_neg (by omega), if_neg (by omega), if_pos (by omega)]
    · have h2 : ∀ x, (r ++ [32]).head? = some x → x.toNat = 32 ∨ 48 ≤ x.toNat ∧ x.toNat ≤ 57 := by
        intro x hx
        cases r with
        | nil => simp at hx; subst hx; left; rfl
        | cons d r =>
          simp at hx
          subst hx
          have := hall d (by rw [hd]; simp)
          simp only [decide_eq_true_eq] at this
          exact .inr this
      have hno : ∀ m : UInt8, (m.toNat = 120 ∨ m.toNat = 111 ∨ m.toNat = 98 ∨ m.toNat = 39) → ¬ ((c :: (r ++ [32])).head? = some 48 ∧ (c :: (r ++ [32])).tail.head? = some m) := by
        rintro m hm ⟨-, h⟩
        have := h2 m h
        omega
      unfold numberF
      rw [if_neg (hno 120 (by decide)), if_neg (hno 111 (by decide)), if_neg (hno 98 (by decide)), if_neg (hno 39 (by decide))]
      have := digsF_of (base := 10) (by omega) (by omega) n hn []
      rw [List.nil_append, hd] at this
      simpa using this
theorem lex_base {base : Nat} (m : UInt8) (h : (base = 16 ∧ m = 120) ∨ (base = 8 ∧ m = 111) ∨ (base = 2 ∧ m = 98)) (n : Nat) (hn : n < 4294967296) : lexB ([48, m] ++ digsB base n ++ [32]) = (pairOf n, 0, 0) := by
  have hb : 2 ≤ base ∧ base ≤ 16 := by omega
  have hm : m ≠ 10 := by rcases h with ⟨-, rfl⟩ | ⟨-, rfl⟩ | ⟨-, rfl⟩ <;> decide
  have hd := digsF_of hb.1 hb.2 n hn [48, m]
  have h0 := digsB_lines hb.1 hb.2 n
  generalize digsB base n = D at *
  have e : [48, m] ++ D ++ [32] = 48 :: (m :: (D ++ [32])) := by simp
  have e2 : [48, m] ++ (D ++ [32]) = 48 :: (m :: (D ++ [32])) := by simp
  rw [e2] at hd
  rw [e]
  refine lex_num (c := 48) (r := m :: (D ++ [32])) (l0 := 48 :: m :: D) (by decide) (by simp) ?_ ?_
  · have e3 : (48 :: m :: D).length = [48, m].length + D.length := by simp; omega
    rw [e3]
    unfold numberF
    rcases h with ⟨rfl, rfl⟩ | ⟨rfl, rfl⟩ | ⟨rfl, rfl⟩
    · rw [if_pos ⟨rfl, rfl⟩]
      exact hd
    · rw [if_neg (by simp), if_pos ⟨rfl, rfl⟩]
      exact hd
    · rw [if_neg (by simp), if_neg (by simp), if_pos ⟨rfl, rfl⟩]
      exact hd
  · unfold lines at *
    rw [List.count_cons, List.count_cons, h0]
    simp [hm]
theorem lex_base' {base : Nat} (m : UInt8) (h : (base = 16 ∧ m = 120) ∨ (base = 8 ∧ m = 111) ∨ (base = 2 ∧ m = 98)) (n : Nat) (hn : n < 4294967296) : lexB (48 :: m :: digsB base n ++ [32]) = (pairOf n, 0, 0) := by
  have h1 := lex_base m h n hn
  have e : [48, m] ++ digsB base n = 48 :: m :: digsB base n := by simp
  rw [e] at h1
  exact h1
theorem lex_char (c : UInt8) (h1 : c ≠ 39) (h2 : c ≠ 92) (h3 : c ≠ 10) : lexB [48, 39, c, 32] = (pairOf c.toNat, 0, 0) := by
  refine lex_num (c := 48) (r := [39, c, 32]) (l0 := [48, 39, c]) (by decide) rfl ?_ ?_
  · unfold numberF
    rw [if_neg (by simp), if_neg (by simp), if_neg (by simp), if_pos ⟨rfl, rfl⟩]
    show charAt2 c [32] = _
    unfold charAt2
    rw [if_neg h3, if_neg h1, if_neg h2]
    rfl
  · simp [lines, h3]
end Go.Proofs.YtmgidfndifhcoaaDoor
/-
  A number's digits among the tokens of a small text: what the reader comes to. Condition: the number is of 64 bits.
-/
namespace Go.Proofs.YtmgidfndifhcoaaDoor
set_option maxRecDepth 100000

theorem dec_digs : ∀ (n u : Nat), u < n → Lib.decDigits u = digsB 10 u
  | 0, _, h => absurd h (Nat.not_lt_zero _)
  | n + 1, u, h => by
    by_cases hu : u < 10
    · rw [digsB_small hu, Lib.decDigits, dif_pos hu]
      unfold hexDigit
      rw [if_pos hu]
    · rw [digsB_step (by omega) hu, Lib.decDigits, dif_neg hu, dec_digs n (u / 10) (by omega)]
      unfold hexDigit
      rw [if_pos (by omega)]
theorem dec_all (u : Nat) : ∀ c ∈ Lib.decDigits u, 48 ≤ c.toNat ∧ c.toNat ≤ 57 := fun c hc => by
  rw [dec_digs (u + 1) u (by omega)] at hc
  have := digsB_all (base := 10) (by omega) (by omega) (fun c => decide (48 ≤ c.toNat ∧ c.toNat ≤ 57)) (fun d hd => by simpa using hexDigit_ten d hd) u c hc
  simpa using this
theorem dec_ne (u : Nat) : Lib.decDigits u ≠ [] := by
  rw [dec_digs (u + 1) u (by omega)]
  exact digsB_ne (by omega) u
theorem dec_lines (u : Nat) : lines (Lib.decDigits u) = 0 := by
  rw [dec_digs (u + 1) u (by omega)]
  exact digsB_lines (by omega) (by omega) u
theorem parse_dec (u : Nat) (hu : u ≤ 9223372036854775808) : parseF 10 (Lib.decDigits u) = (tops u, 0) := by
  rw [dec_digs (u + 1) u (by omega)]
  unfold parseF
  have hd : digitsIn 10 (digsB 10 u) = true := by
    unfold digitsIn
    rw [List.all_eq_true]
    exact digsB_all (by omega) (by omega) (fun c => decide (digVal c < 10)) (fun d hd => by simp only [decide_eq_true_eq]; rw [(hexDigit_val d (by omega)).1]; exact hd) u
  rw [if_neg (by simp [digsB_ne, hd]), digsB_val (by omega) (by omega), if_neg (by omega)]
theorem digit_sort {c : UInt8} (h : 48 ≤ c.toNat ∧ c.toNat ≤ 57) : bsort c = 4 := by
  unfold bsort bsortI
  rw [if_neg (by omega), if_neg (by omega), if_neg (by omega), if_pos (by omega)]
theorem digit_val {c : UInt8} (h : 48 ≤ c.toNat ∧ c.toNat ≤ 57) : digVal c < 10 := by
  unfold digVal
  rw [if_pos h]
  omega
/-- The digits' token. -/
theorem dec_tok (u : Nat) (hu : u ≤ 9223372036854775808) : tokF (Lib.decDigits u ++ [32, 46]) = some ⟨3, tops u, [], (Lib.decDigits u).length⟩ := by
  have hall := dec_all u
  have hp := parse_dec u hu
  have hne := dec_ne u
  generalize hD : Lib.decDigits u = D at *
  cases D with
  | nil => exact absurd rfl hne
  | cons c r =>
    have h1 := hall c (List.mem_cons_self ..)
    have hs := digit_sort h1
    have c46 : c ≠ 46 := by rintro rfl; revert hs; decide
    have hspan : spanN (fun c => decide (digVal c < 10)) (c :: r ++ [32, 46]) = (c :: r).length :=
      spanN_all _ 32 (by decide) [46] (c :: r) fun x hx => by simpa using digit_val (hall x hx)
    have h2 : ∀ x, (r ++ [32, 46]).head? = some x → x.toNat = 32 ∨ 48 ≤ x.toNat ∧ x.toNat ≤ 57 := by
      intro x hx
      cases r with
      | nil => simp at hx; subst hx; left; rfl
      | cons d r =>
        simp at hx
        subst hx
        exact .inr (hall d (by simp))
    have hno : ∀ m : UInt8, (m.toNat = 120 ∨ m.toNat = 111 ∨ m.toNat = 98 ∨ m.toNat = 39) → ¬ ((c :: (r ++ [32, 46])).head? = some 48 ∧ (c :: (r ++ [32, 46])).tail.head? = some m) := by
      rintro m hm ⟨-, h⟩
      have := h2 m h
      omega
    have hn : numberF (c :: (r ++ [32, 46])) = some (tops u, (c :: r).length) := by
      unfold numberF
      rw [if_neg (hno 120 (by decide)), if_neg (hno 111 (by decide)), if_neg (hno 98 (by decide)), if_neg (hno 39 (by decide))]
      unfold digitsF
      rw [List.cons_append] at hspan
      simp only [List.drop_zero]
      rw [hspan, show c :: (r ++ [32, 46]) = (c :: r) ++ [32, 46] from rfl, List.take_left, hp]
      simp
    rw [List.cons_append]
    unfold tokF
    simp only
    rw [if_neg (by simp [c46]), if_neg (by rw [hs]; decide), if_neg (by rw [hs]; decide), if_neg (by rw [hs]; decide), if_neg (by rw [hs]; decide), if_pos hs, hn]
    rfl
/-- The digits, a blank and a Stop, lexed. -/
theorem lex_dec (u : Nat) (hu : u ≤ 9223372036854775808) (f line : Nat) (first : Bool) (hf : (Lib.decDigits u).length + 2 < f) :
    lexF f (Lib.decDigits u ++ [32, 46]) line first = ([⟨3, (line : Int), tops u, [], false, !first⟩, ⟨7, (line : Int), 0, [], false, false⟩, endTok line], 0, 0) := by
  have ht := dec_tok u hu
  have hall := dec_all u
  have hl := dec_lines u
  have hne := dec_ne u
  generalize Lib.decDigits u = D at *
  have hsk : skipB (D ++ [32, 46]) = (D ++ [32, 46], true) := by
    cases D with
    | nil => exact absurd rfl hne
    | cons c r =>
      have hs := digit_sort (hall c (List.mem_cons_self ..))
      unfold skipB
      rw [List.cons_append, List.length_cons, skipF_cons, if_neg (by rw [hs]; decide), if_neg (by rintro rfl; revert hs; decide), if_neg (by rintro ⟨rfl, -⟩; revert hs; decide)]
  rw [lexF_step f _ line first (by rw [List.length_append]; exact hf), hsk]
  simp only
  rw [if_neg (by decide), if_neg (by simp), ht]
  simp only
  rw [List.drop_left, List.take_left, hl, Nat.sub_self, List.take_zero, lexF_fuel f 3 [32, 46] _ _ (by simp only [List.length_cons, List.length_nil]; omega) (by decide)]
  have e1 : lines ([] : List UInt8) = 0 := rfl
  rw [e1, Nat.add_zero]
  have e6 : ∀ L : Nat, lexF 3 [32, 46] L false = ([⟨7, (L : Int), 0, [], false, false⟩, endTok L], 0, 0) := fun L => rfl
  rw [e6]
  simp
/-- A blank ahead. -/
theorem lex_blank (f : Nat) (l : List UInt8) (line : Nat) (first : Bool) (hf : l.length + 1 < f) : lexF f (32 :: l) line first = lexF f l line true := by
  have hs : skipB (32 :: l) = skipB l := by
    unfold skipB
    rw [List.length_cons, skipF_cons, if_pos (by decide)]
  have hle := skipB_len l
  rw [lexF_step f (32 :: l) line first (by rw [List.length_cons]; omega), lexF_step f l line true (by omega), hs]
  have e : lines ((32 :: l).take ((32 :: l).length - (skipB l).1.length)) = lines (l.take (l.length - (skipB l).1.length)) := by
    rw [List.length_cons, show l.length + 1 - (skipB l).1.length = (l.length - (skipB l).1.length) + 1 by omega, List.take_succ_cons]
    unfold lines
    rw [List.count_cons]
    simp
  have e2 : ((skipB l).1.length == (32 :: l).length) = false := by rw [beq_eq_false_iff_ne, List.length_cons]; omega
  rw [e, e2]
  simp
theorem sign_tok (x : UInt8) (r : List UInt8) (hx : isSign x = false) : tokF (45 :: x :: r) = some ⟨1, 0, [45], 1⟩ := by
  have e1 : bsort 45 = 5 := by decide
  have e2 : spanN isSign (45 :: x :: r) = 1 := by
    rw [spanN_cons, spanN_cons, if_pos (by decide), hx]
    rfl
  unfold tokF
  simp only
  rw [if_neg (fun h => absurd h.1 (by decide)), if_neg (by rw [e1]; decide), if_pos e1, e2]
  rfl
theorem a_tok (r : List UInt8) : tokF (97 :: 32 :: r) = some ⟨1, 0, [97], 1⟩ := by
  have e1 : bsort 97 = 2 := by decide
  have e2 : spanN isWord (97 :: 32 :: r) = 1 := by
    rw [spanN_cons, spanN_cons, if_pos (by decide), if_neg (by decide)]
  unfold tokF
  simp only
  rw [if_neg (fun h => absurd h.1 (by decide)), if_pos e1, e2]
  rfl
/-- A minus right ahead of digits. -/
theorem lex_minus (u : Nat) (hu : u ≤ 9223372036854775808) (f line : Nat) (first : Bool) (hf : (Lib.decDigits u).length + 3 < f) :
    lexF f (45 :: (Lib.decDigits u ++ [32, 46])) line first = ([⟨1, (line : Int), 0, [45], false, !first⟩, ⟨3, (line : Int), tops u, [], false, true⟩, ⟨7, (line : Int), 0, [], false, false⟩, endTok line], 0, 0) := by
  have ht : tokF (45 :: (Lib.decDigits u ++ [32, 46])) = some ⟨1, 0, [45], 1⟩ := by
    have hall := dec_all u
    have hne := dec_ne u
    generalize Lib.decDigits u = D at *
    cases D with
    | nil => exact absurd rfl hne
    | cons c r =>
      refine sign_tok c _ ?_
      unfold isSign
      rw [digit_sort (hall c (List.mem_cons_self ..))]
      decide
  have hh : (Lib.decDigits u ++ [32, 46]).head? ≠ some 40 := by
    have hall := dec_all u
    have hne := dec_ne u
    generalize Lib.decDigits u = D at *
    cases D with
    | nil => exact absurd rfl hne
    | cons c r =>
      have := hall c (List.mem_cons_self ..)
      intro h
      simp at h
      subst h
      revert this
      decide
  rw [lexB_cons 45 _ f line first _ (by rw [List.length_append]; exact hf) (by decide) (by decide) (by decide) ht rfl (by decide), lex_dec u hu f line false (by omega), decide_eq_false hh]
  rfl
/-- A minus, and a blank, ahead of digits. -/
theorem lex_minus' (l : List UInt8) (f line : Nat) (first : Bool) (hf : l.length + 2 < f) {ts : List Tok} (h : lexF f l line true = (ts, 0, 0)) :
    lexF f (45 :: 32 :: l) line first = (⟨1, (line : Int), 0, [45], false, !first⟩ :: ts, 0, 0) := by
  rw [lexB_cons 45 _ f line first _ (by rw [List.length_cons]; exact hf) (by decide) (by decide) (by decide) (sign_tok 32 l (by decide)) rfl (by decide), lex_blank f l line false (by omega), h]
  rfl
theorem lex_a (l : List UInt8) (f line : Nat) (first : Bool) (hf : l.length + 2 < f) {ts : List Tok} (h : lexF f l line true = (ts, 0, 0)) :
    lexF f (97 :: 32 :: l) line first = (⟨1, (line : Int), 0, [97], false, !first⟩ :: ts, 0, 0) := by
  rw [lexB_cons 97 _ f line first _ (by rw [List.length_cons]; exact hf) (by decide) (by decide) (by decide) (a_tok l) rfl (by decide), lex_blank f l line false (by omega), h]
  rfl

/-- A number begins a term. -/
theorem num_round {o : OpsF} {ts : List Tok} {s : RdS} (hv : s.hv = false) (hk : (peekF ts s.at').kind = 3) (hn : ¬ (peekF ts s.at').n < 0) : roundF o ts s = .on ((s.go 1).done (intT (peekF ts s.at').n) 0) := by
  unfold roundF primaryF
  rw [if_pos hv]
  simp only
  rw [if_pos hk, if_neg hn]
  rfl
theorem two_end {o : OpsF} {ts : List Tok} {s s1 s2 : RdS} (h1 : roundF o ts s = .on s1) (h2 : endF o ts s1 = .fin s2) : endF o ts s = .fin s2 := (on_end h1).trans h2

abbrev stp : Tok := ⟨7, 1, 0, [], false, false⟩
abbrev numT (m : Int) (tg : Bool) : Tok := ⟨3, 1, m, [], false, tg⟩
abbrev nmT (c : UInt8) : Tok := ⟨1, 1, 0, [c], false, false⟩
section
variable (m : Int)
/-- 'n .' -/
theorem rd_1 (h : 0 ≤ m) : readF (opsOf opsInit) [numT m false, stp, endTok 1] ((0 : Nat) : Int) = (⟨intT m, [], 1, 2⟩, 0) := by
  have r1 := num_round (o := opsOf opsInit) (ts := [numT m false, stp, endTok 1]) (s := startF 0) rfl rfl (show ¬ m < 0 by omega)
  have r2 : roundF (opsOf opsInit) [numT m false, stp, endTok 1] (((startF 0).go 1).done (intT m) 0) = .fin (((startF 0).go 1).done (intT m) 0) := stop_round rfl rfl rfl
  exact read_mk (o := opsOf opsInit) (ts := [numT m false, stp, endTok 1]) (i := 0) (sf := ((startF 0).go 1).done (intT m) 0) (Nat.succ_pos _) (show (3 : Int) ≠ 0 by decide) (two_end r1 (fin_end r2)) rfl (by show 1 ≤ 2000; omega) (by show 1 ≤ 20000; omega)
/-- '-n .' -/
theorem rd_2 : readF (opsOf opsInit) [nmT 45, numT m true, stp, endTok 1] ((0 : Nat) : Int) = (⟨intT (negI m), [], 1, 3⟩, 0) := by
  have r1 : roundF (opsOf opsInit) [nmT 45, numT m true, stp, endTok 1] (startF 0) = .on (((startF 0).go 2).done (intT (negI m)) 0) := by kernel_rfl
  have r2 : roundF (opsOf opsInit) [nmT 45, numT m true, stp, endTok 1] (((startF 0).go 2).done (intT (negI m)) 0) = .fin (((startF 0).go 2).done (intT (negI m)) 0) := stop_round rfl rfl rfl
  exact read_mk (o := opsOf opsInit) (ts := [nmT 45, numT m true, stp, endTok 1]) (i := 0) (sf := ((startF 0).go 2).done (intT (negI m)) 0) (Nat.succ_pos _) (show (1 : Int) ≠ 0 by decide) (two_end r1 (fin_end r2)) rfl (by show 1 ≤ 2000; omega) (by show 1 ≤ 20000; omega)
/-- '- n .' -/
theorem rd_3 (h : 0 ≤ m) : ∃ c, readF (opsOf opsInit) [nmT 45, numT m false, stp, endTok 1] ((0 : Nat) : Int) = (c, 0) ∧ c.t = compT [45] [intT m] := by
  obtain ⟨ts, hts⟩ : ∃ ts, ts = [nmT 45, numT m false, stp, endTok 1] := ⟨_, rfl⟩
  obtain ⟨s1, hs1⟩ : ∃ s1 : RdS, s1 = ⟨1, [⟨5, 1200, [45], 200, []⟩], 200, false, noTm, 0, [], [], 0⟩ := ⟨_, rfl⟩
  have r1 : roundF (opsOf opsInit) ts (startF 0) = .on s1 := by rw [hts, hs1]; kernel_rfl
  have r2 := num_round (o := opsOf opsInit) (ts := ts) (s := s1) (by rw [hs1]) (by rw [hts, hs1]; rfl) (by rw [hts, hs1]; show ¬ m < 0; omega)
  have r3 : roundF (opsOf opsInit) ts ((s1.go 1).done (intT (peekF ts s1.at').n) 0) = .on ⟨2, [], 1200, true, compT [45] [intT m], 200, [], [], 0⟩ := by rw [hts, hs1]; kernel_rfl
  have r4 : roundF (opsOf opsInit) ts ⟨2, [], 1200, true, compT [45] [intT m], 200, [], [], 0⟩ = .fin ⟨2, [], 1200, true, compT [45] [intT m], 200, [], [], 0⟩ := stop_round rfl rfl (by rw [hts]; rfl)
  rw [← hts]
  exact ⟨_, read_mk (by rw [hts]; exact Nat.succ_pos _) (by rw [hts]; show (1 : Int) ≠ 0; decide) (two_end r1 (two_end r2 (two_end r3 (fin_end r4)))) rfl (by show 2 ≤ 2000; omega) (by show 2 ≤ 20000; omega), rfl⟩
/-- 'a - n .' -/
theorem rd_4 (h : 0 ≤ m) : ∃ c, readF (opsOf opsInit) [nmT 97, nmT 45, numT m false, stp, endTok 1] ((0 : Nat) : Int) = (c, 0) ∧ c.t = compT [45] [atomT [97], intT m] := by
  obtain ⟨ts, hts⟩ : ∃ ts, ts = [nmT 97, nmT 45, numT m false, stp, endTok 1] := ⟨_, rfl⟩
  obtain ⟨s0, hs0⟩ : ∃ s0 : RdS, s0 = ⟨1, [], 1200, true, atomT [97], 0, [], [], 0⟩ := ⟨_, rfl⟩
  obtain ⟨s1, hs1⟩ : ∃ s1 : RdS, s1 = ⟨2, [⟨6, 1200, [45], 500, [atomT [97]]⟩], 499, false, atomT [97], 0, [], [], 0⟩ := ⟨_, rfl⟩
  have r0 : roundF (opsOf opsInit) ts (startF 0) = .on s0 := by rw [hts, hs0]; kernel_rfl
  have r1 : roundF (opsOf opsInit) ts s0 = .on s1 := by rw [hts, hs0, hs1]; kernel_rfl
  have r2 := num_round (o := opsOf opsInit) (ts := ts) (s := s1) (by rw [hs1]) (by rw [hts, hs1]; rfl) (by rw [hts, hs1]; show ¬ m < 0; omega)
  have r3 : roundF (opsOf opsInit) ts ((s1.go 1).done (intT (peekF ts s1.at').n) 0) = .on ⟨3, [], 1200, true, compT [45] [atomT [97], intT m], 500, [], [], 0⟩ := by rw [hts, hs1]; kernel_rfl
  have r4 : roundF (opsOf opsInit) ts ⟨3, [], 1200, true, compT [45] [atomT [97], intT m], 500, [], [], 0⟩ = .fin ⟨3, [], 1200, true, compT [45] [atomT [97], intT m], 500, [], [], 0⟩ := stop_round rfl rfl (by rw [hts]; rfl)
  rw [← hts]
  exact ⟨_, read_mk (by rw [hts]; exact Nat.succ_pos _) (by rw [hts]; show (1 : Int) ≠ 0; decide) (two_end r0 (two_end r1 (two_end r2 (two_end r3 (fin_end r4))))) rfl (by show 2 ≤ 2000; omega) (by show 3 ≤ 20000; omega), rfl⟩
/-- 'a - -n .' -/
theorem rd_5 : ∃ c, readF (opsOf opsInit) [nmT 97, nmT 45, nmT 45, numT m true, stp, endTok 1] ((0 : Nat) : Int) = (c, 0) ∧ c.t = compT [45] [atomT [97], intT (negI m)] := by
  obtain ⟨ts, hts⟩ : ∃ ts, ts = [nmT 97, nmT 45, nmT 45, numT m true, stp, endTok 1] := ⟨_, rfl⟩
  obtain ⟨s0, hs0⟩ : ∃ s0 : RdS, s0 = ⟨1, [], 1200, true, atomT [97], 0, [], [], 0⟩ := ⟨_, rfl⟩
  obtain ⟨s1, hs1⟩ : ∃ s1 : RdS, s1 = ⟨2, [⟨6, 1200, [45], 500, [atomT [97]]⟩], 499, false, atomT [97], 0, [], [], 0⟩ := ⟨_, rfl⟩
  obtain ⟨s2, hs2⟩ : ∃ s2 : RdS, s2 = ⟨4, [⟨6, 1200, [45], 500, [atomT [97]]⟩], 499, true, intT (negI m), 0, [], [], 0⟩ := ⟨_, rfl⟩
  have r0 : roundF (opsOf opsInit) ts (startF 0) = .on s0 := by rw [hts, hs0]; kernel_rfl
  have r1 : roundF (opsOf opsInit) ts s0 = .on s1 := by rw [hts, hs0, hs1]; kernel_rfl
  have r2 : roundF (opsOf opsInit) ts s1 = .on s2 := by rw [hts, hs1, hs2]; kernel_rfl
  have r3 : roundF (opsOf opsInit) ts s2 = .on ⟨4, [], 1200, true, compT [45] [atomT [97], intT (negI m)], 500, [], [], 0⟩ := by rw [hts, hs2]; kernel_rfl
  have r4 : roundF (opsOf opsInit) ts ⟨4, [], 1200, true, compT [45] [atomT [97], intT (negI m)], 500, [], [], 0⟩ = .fin ⟨4, [], 1200, true, compT [45] [atomT [97], intT (negI m)], 500, [], [], 0⟩ := stop_round rfl rfl (by rw [hts]; rfl)
  rw [← hts]
  exact ⟨_, read_mk (by rw [hts]; exact Nat.succ_pos _) (by rw [hts]; show (1 : Int) ≠ 0; decide) (two_end r0 (two_end r1 (two_end r2 (two_end r3 (fin_end r4))))) rfl (by show 2 ≤ 2000; omega) (by show 3 ≤ 20000; omega), rfl⟩
end
/-- What the law's closure reads of a text. -/
def sureF (T : List UInt8) : ClauseF × Int := readF (opsOf opsInit) (lexB (T ++ [32, 46])).1 0
def readsAs (T : List UInt8) (t : Tm) : Prop := (sureF T).2 = 0 ∧ (sureF T).1.t = t
theorem sure_of {T : List UInt8} {ts : List Tok} {c : ClauseF} (h : lexB (T ++ [32, 46]) = (ts, 0, 0)) (hr : readF (opsOf opsInit) ts ((0 : Nat) : Int) = (c, 0)) : readsAs T c.t := by
  have e : sureF T = (c, 0) := by unfold sureF; rw [h]; exact hr
  unfold readsAs
  rw [e]
  exact ⟨rfl, rfl⟩
theorem tops_small {u : Nat} (h : u ≤ 9223372036854775807) : tops u = (u : Int) := by unfold tops; rw [if_neg (by omega)]
theorem neg_tops {u : Nat} (h : u ≤ 9223372036854775808) : negI (tops u) = -(u : Int) := by
  unfold tops negI
  split
  · rw [if_pos rfl]; omega
  · rw [if_neg (by omega)]
theorem ints (n : Int) (h0 : -9223372036854775808 ≤ n) (h1 : n ≤ 9223372036854775807) :
    readsAs (Lib.itoa n) (intT n) ∧ readsAs ([97, 32, 45, 32] ++ Lib.itoa n) (compT [45] [atomT [97], intT n]) ∧
      (0 ≤ n → readsAs ([45, 32] ++ Lib.itoa n) (compT [45] [intT n]) ∧ readsAs ([45] ++ Lib.itoa n) (intT (-n))) := by
  by_cases hn : n < 0
  · obtain ⟨u, rfl⟩ : ∃ u : Nat, n = -(u : Int) := ⟨n.natAbs, by omega⟩
    have hu : u ≤ 9223372036854775808 := by omega
    rw [Lib.itoa_neg u (by omega)]
    have l1 : lexB ((45 :: Lib.decDigits u) ++ [32, 46]) = ([nmT 45, numT (tops u) true, stp, endTok 1], 0, 0) :=
      lex_minus u hu _ 1 true (by simp only [List.length_cons, List.length_append, List.length_nil]; omega)
    have l2 : lexB (([97, 32, 45, 32] ++ (45 :: Lib.decDigits u)) ++ [32, 46]) = ([nmT 97, nmT 45, nmT 45, numT (tops u) true, stp, endTok 1], 0, 0) :=
      lex_a (45 :: 32 :: 45 :: (Lib.decDigits u ++ [32, 46])) _ 1 true (by simp only [List.length_cons, List.length_append, List.length_nil]; omega)
        (lex_minus' (45 :: (Lib.decDigits u ++ [32, 46])) _ 1 true (by simp only [List.length_cons, List.length_append, List.length_nil]; omega)
          (lex_minus u hu _ 1 true (by simp only [List.length_cons, List.length_append, List.length_nil]; omega)))
    refine ⟨?_, ?_, fun h => by omega⟩
    · have := sure_of l1 (rd_2 (tops u))
      rw [neg_tops hu] at this
      exact this
    · obtain ⟨c, r1, r2⟩ := rd_5 (tops u)
      have := sure_of l2 r1
      rw [r2, neg_tops hu] at this
      exact this
  · obtain ⟨u, rfl⟩ : ∃ u : Nat, n = (u : Int) := ⟨n.natAbs, by omega⟩
    have hu : u ≤ 9223372036854775808 := by omega
    have ht := tops_small (u := u) (by omega)
    rw [Lib.itoa_nonneg]
    have l1 : lexB (Lib.decDigits u ++ [32, 46]) = ([numT (tops u) false, stp, endTok 1], 0, 0) :=
      lex_dec u hu _ 1 true (by simp only [List.length_append, List.length_cons, List.length_nil]; omega)
    have l2 : lexB (([97, 32, 45, 32] ++ Lib.decDigits u) ++ [32, 46]) = ([nmT 97, nmT 45, numT (tops u) false, stp, endTok 1], 0, 0) :=
      lex_a (45 :: 32 :: (Lib.decDigits u ++ [32, 46])) _ 1 true (by simp only [List.length_cons, List.length_append, List.length_nil]; omega)
        (lex_minus' (Lib.decDigits u ++ [32, 46]) _ 1 true (by simp only [List.length_cons, List.length_append, List.length_nil]; omega)
          (lex_dec u hu _ 1 true (by simp only [List.length_cons, List.length_append, List.length_nil]; omega)))
    have l3 : lexB (([45, 32] ++ Lib.decDigits u) ++ [32, 46]) = ([nmT 45, numT (tops u) false, stp, endTok 1], 0, 0) :=
      lex_minus' (Lib.decDigits u ++ [32, 46]) _ 1 true (by simp only [List.length_cons, List.length_append, List.length_nil]; omega)
          (lex_dec u hu _ 1 true (by simp only [List.length_cons, List.length_append, List.length_nil]; omega))
    have l4 : lexB (([45] ++ Lib.decDigits u) ++ [32, 46]) = ([nmT 45, numT (tops u) true, stp, endTok 1], 0, 0) :=
      lex_minus u hu _ 1 true (by simp only [List.length_cons, List.length_append, List.length_nil]; omega)
    refine ⟨?_, ?_, fun _ => ⟨?_, ?_⟩⟩
    · have := sure_of l1 (rd_1 (tops u) (by rw [ht]; omega))
      rw [ht] at this
      exact this
    · obtain ⟨c, r1, r2⟩ := rd_4 (tops u) (by rw [ht]; omega)
      have := sure_of l2 r1
      rw [r2, ht] at this
      exact this
    · obtain ⟨c, r1, r2⟩ := rd_3 (tops u) (by rw [ht]; omega)
      have := sure_of l3 r1
      rw [r2, ht] at this
      exact this
    · have := sure_of l4 (rd_2 (tops u))
      rw [neg_tops hu] at this
      exact this
end Go.Proofs.YtmgidfndifhcoaaDoor
/-
  Contracts of functions of Go's library over this program, as the kit's tools lay them (lay-shelf, lay-plain), those that are used here. Each names its own conditions.
-/
namespace Go.Proofs
open Go.Shelf
def Tryd.lays173_ren : Go.Shelf.Ren := ⟨fun | 173 => 44 | 246 => 71 | 283 => 89 | 284 => 90 | 285 => 91 | 286 => 92 | 129 => 105 | 317 => 104 | 318 => 106 | 319 => 107 | 320 => 108 | 337 => 111 | 338 => 112 | n => n, fun | 2 => 2 | 3 => 3 | 9 => 9 | 4 => 4 | 171 => 161 | 0 => 0 | 53 => 162 | 37 => 140 | 5 => 5 | 173 => 165 | 212 => 183 | 51 => 155 | 20 => 20 | 213 => 184 | 46 => 171 | 232 => 192 | 233 => 193 | n => n, fun | 17 => 4 | 18 => 5 | 19 => 6 | n => n⟩
theorem Tryd.lays173 : Go.Proofs.LaysM.n173 Tryd.prog Tryd.lays173_ren := {
  mixed := by kernel_rfl
  f129 := Tryd.func105.trans (congrArg some (by kernel_rfl))
  f173 := Tryd.func44.trans (congrArg some (by kernel_rfl))
  f246 := Tryd.func71.trans (congrArg some (by kernel_rfl))
  f283 := Tryd.func89.trans (congrArg some (by kernel_rfl))
  f284 := Tryd.func90.trans (congrArg some (by kernel_rfl))
  f285 := Tryd.func91.trans (congrArg some (by kernel_rfl))
  f286 := Tryd.func92.trans (congrArg some (by kernel_rfl))
  f317 := Tryd.func104.trans (congrArg some (by kernel_rfl))
  f318 := Tryd.func106.trans (congrArg some (by kernel_rfl))
  f319 := Tryd.func107.trans (congrArg some (by kernel_rfl))
  f320 := Tryd.func108.trans (congrArg some (by kernel_rfl))
  f337 := Tryd.func111.trans (congrArg some (by kernel_rfl))
  f338 := Tryd.func112.trans (congrArg some (by kernel_rfl))
  t0 := Tryd.underlying0
  a0 := Tryd.isAgg0
  z0 := Tryd.sizeOf0
  v0 := Tryd.zeroValue0
  t2 := Tryd.underlying2
  a2 := Tryd.isAgg2
  z2 := Tryd.sizeOf2
  v2 := Tryd.zeroValue2
  t3 := Tryd.underlying3
  a3 := Tryd.isAgg3
  z3 := Tryd.sizeOf3
  v3 := Tryd.zeroValue3
  t4 := Tryd.underlying4
  a4 := Tryd.isAgg4
  z4 := Tryd.sizeOf4
  v4 := Tryd.zeroValue4
  t5 := Tryd.underlying5
  a5 := Tryd.isAgg5
  z5 := Tryd.sizeOf5
  v5 := Tryd.zeroValue5
  t9 := Tryd.underlying9
  a9 := Tryd.isAgg9
  z9 := Tryd.sizeOf9
  v9 := Tryd.zeroValue9
  t20 := Tryd.underlying20
  a20 := Tryd.isAgg20
  z20 := Tryd.sizeOf20
  v20 := Tryd.zeroValue20
  t37 := Tryd.underlying140
  a37 := Tryd.isAgg140
  z37 := Tryd.sizeOf140
  v37 := Tryd.zeroValue140
  t46 := Tryd.underlying171
  a46 := Tryd.isAgg171
  z46 := Tryd.sizeOf171
  v46 := Tryd.zeroValue171
  t51 := Tryd.underlying155
  a51 := Tryd.isAgg155
  z51 := Tryd.sizeOf155
  v51 := Tryd.zeroValue155
  t53 := Tryd.underlying162
  a53 := Tryd.isAgg162
  z53 := Tryd.sizeOf162
  v53 := Tryd.zeroValue162
  t171 := Tryd.underlying161
  a171 := Tryd.isAgg161
  z171 := Tryd.sizeOf161
  v171 := Tryd.zeroValue161
  t173 := Tryd.underlying165
  a173 := Tryd.isAgg165
  z173 := Tryd.sizeOf165
  v173 := Tryd.zeroValue165
  t212 := Tryd.underlying183
  a212 := Tryd.isAgg183
  z212 := Tryd.sizeOf183
  v212 := Tryd.zeroValue183
  t213 := Tryd.underlying184
  a213 := Tryd.isAgg184
  z213 := Tryd.sizeOf184
  t232 := Tryd.underlying192
  a232 := Tryd.isAgg192
  z232 := Tryd.sizeOf192
  v232 := Tryd.zeroValue192
  t233 := Tryd.underlying193
  a233 := Tryd.isAgg193
  z233 := Tryd.sizeOf193
  v233 := Tryd.zeroValue193
  g17 := by kernel_rfl
  g18 := by kernel_rfl
  g19 := by kernel_rfl
  i0 := by kernel_rfl
  i2 := by kernel_rfl
  i3 := by kernel_rfl
  i4 := by kernel_rfl
  i5 := by kernel_rfl
  i9 := by kernel_rfl
  i20 := by kernel_rfl
  i37 := by kernel_rfl
  i46 := by kernel_rfl
  i51 := by kernel_rfl
  i53 := by kernel_rfl
  i171 := by kernel_rfl
  i173 := by kernel_rfl
  i212 := by kernel_rfl
  i232 := by kernel_rfl
  i233 := by kernel_rfl
  m17 := by kernel_rfl
  m18 := by kernel_rfl
  m19 := by kernel_rfl }
open Go.RowKit in
theorem Tryd.strconv_FormatInt_10 (n : Int) (h0 : -9223372036854775808 ≤ n) (h1 : n ≤ 9223372036854775807) (w : World) (htab : Lib.TabIs Tryd.prog w "internal/strconv.uint64pow10" .u64 Lib.pow10Tab) :
    Calls Tryd.prog 44 #[.int .i64 n, .int .i64 10] w fun e w' => e = .returned (.string ⟨(Lib.itoa n).toArray⟩) ∧ ∃ k os, w' = Sort.grow (w.drewN k) os := Any.strconv_FormatInt_10 Tryd.lays173 n h0 h1 w htab
end Go.Proofs
