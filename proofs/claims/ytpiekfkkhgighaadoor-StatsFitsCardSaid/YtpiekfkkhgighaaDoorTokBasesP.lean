/-
  The digits of a number in a base, and the tokens of such a text. Condition: a base from 2 to 16.
-/
import Derived.Test.YtpiekfkkhgighaaDoorLexApp
namespace Go.Proofs.YtpiekfkkhgighaaDoor

def digsF (base : Nat) : Nat → Nat → List UInt8
  | 0, _ => []
  | f + 1, k => if k < base then [hexDigit k] else digsF base f (k / base) ++ [hexDigit (k % base)]
/-- A number's digits. -/
def digsB (base k : Nat) : List UInt8 := digsF base (k + 1) k

theorem digsF_fuel {base : Nat} (hb : 2 ≤ base) : ∀ (f g k : Nat), k < f → k < g → digsF base f k = digsF base g k := by
  intro f
  induction f with
  | zero => intro g k h; omega
  | succ f ih =>
    intro g k h1 h2
    cases g with
    | zero => omega
    | succ g =>
      simp only [digsF]
      split
      · rfl
      · rename_i hk
        have : k / base < k := Nat.div_lt_self (by omega) (by omega)
        rw [ih g (k / base) (by omega) (by omega)]
theorem digsB_small {base k : Nat} (h : k < base) : digsB base k = [hexDigit k] := by
  unfold digsB digsF
  rw [if_pos h]
theorem digsB_step {base k : Nat} (hb : 2 ≤ base) (h : ¬ k < base) : digsB base k = digsB base (k / base) ++ [hexDigit (k % base)] := by
  have hk : k / base < k := Nat.div_lt_self (by omega) (by omega)
  unfold digsB
  rw [show k + 1 = k.succ from rfl, digsF, if_neg h, digsF_fuel hb k (k / base + 1) (k / base) hk (by omega)]
theorem digsB_ind {base : Nat} (hb : 2 ≤ base) (p : Nat → List UInt8 → Prop) (h0 : ∀ k, k < base → p k [hexDigit k]) (h1 : ∀ k l, ¬ k < base → p (k / base) l → p k (l ++ [hexDigit (k % base)])) : ∀ n k, k < n → p k (digsB base k) := by
  intro n
  induction n with
  | zero => intro k h; omega
  | succ n ih =>
    intro k h
    by_cases hk : k < base
    · rw [digsB_small hk]; exact h0 k hk
    · rw [digsB_step hb hk]
      have : k / base < k := Nat.div_lt_self (by omega) (by omega)
      exact h1 k _ hk (ih _ (by omega))
theorem digsB_ne {base : Nat} (hb : 2 ≤ base) (k : Nat) : digsB base k ≠ [] :=
  digsB_ind hb (fun _ l => l ≠ []) (by simp) (by simp) (k + 1) k (by omega)
theorem hexDigit_val : ∀ d, d < 16 → digVal (hexDigit d) = d ∧ (48 ≤ (hexDigit d).toNat ∧ (hexDigit d).toNat ≤ 57 ∨ 97 ≤ (hexDigit d).toNat ∧ (hexDigit d).toNat ≤ 102) := by decide
theorem hexDigit_ten : ∀ d, d < 10 → 48 ≤ (hexDigit d).toNat ∧ (hexDigit d).toNat ≤ 57 := by decide
theorem digsB_val {base : Nat} (hb : 2 ≤ base) (hc : base ≤ 16) (k : Nat) : valOf base (digsB base k) = k :=
  digsB_ind hb (fun k l => valOf base l = k) (fun k hk => by
    have := (hexDigit_val k (by omega)).1
    simp [valOf, this]) (fun k l hk h => by
    have hm : k % base < base := Nat.mod_lt _ (by omega)
    rw [valOf_snoc, h, (hexDigit_val _ (by omega)).1, Nat.mul_comm]
    exact Nat.div_add_mod k base) (k + 1) k (by omega)
theorem digsB_all {base : Nat} (hb : 2 ≤ base) (hc : base ≤ 16) (p : UInt8 → Bool) (hp : ∀ d, d < base → p (hexDigit d) = true) (k : Nat) : ∀ c ∈ digsB base k, p c = true :=
  digsB_ind hb (fun _ l => ∀ c ∈ l, p c = true) (fun k hk c h => by
    rw [List.mem_singleton] at h
    rw [h]; exact hp k hk) (fun k l hk h c hc' => by
    rw [List.mem_append, List.mem_singleton] at hc'
    rcases hc' with hc' | rfl
    · exact h c hc'
    · exact hp _ (Nat.mod_lt _ (by omega))) (k + 1) k (by omega)
theorem digsB_len {base : Nat} (hb : 2 ≤ base) : ∀ (n k : Nat), k < 2 ^ n → (digsB base k).length ≤ n + 1 := by
  intro n
  induction n with
  | zero =>
    intro k hk
    rw [digsB_small (by simp at hk; omega)]
    simp
  | succ n ih =>
    intro k hk
    by_cases h : k < base
    · rw [digsB_small h]; simp
    · rw [digsB_step hb h, List.length_append]
      have h1 : k / base ≤ k / 2 := Nat.div_le_div_left hb (by omega)
      have := ih (k / base) (by rw [Nat.pow_succ] at hk; omega)
      simp only [List.length_cons, List.length_nil]
      omega

theorem spanN_all (p : UInt8 → Bool) (x : UInt8) (hx : p x = false) (r : List UInt8) : ∀ l : List UInt8, (∀ c ∈ l, p c = true) → spanN p (l ++ x :: r) = l.length
  | [], _ => by rw [List.nil_append, spanN_cons, hx]; rfl
  | c :: l, h => by
    rw [List.cons_append, spanN_cons, if_pos (h c (List.mem_cons_self ..)), spanN_all p x hx r l (fun c' h' => h c' (List.mem_cons_of_mem _ h'))]
    rfl
theorem parseF_digs {base : Nat} (hb : 2 ≤ base) (hc : base ≤ 16) (k : Nat) (hk : k < 4294967296) : parseF base (digsB base k) = ((k : Int), 0) := by
  unfold parseF
  have hd : digitsIn base (digsB base k) = true := by
    unfold digitsIn
    rw [List.all_eq_true]
    exact digsB_all hb hc (fun c => decide (digVal c < base)) (fun d hd => by simp only [decide_eq_true_eq]; rw [(hexDigit_val d (by omega)).1]; exact hd) k
  rw [if_neg (by simp [digsB_ne hb, hd]), digsB_val hb hc, if_neg (by omega)]
  unfold tops
  rw [if_neg (by omega)]
theorem digsF_of {base : Nat} (hb : 2 ≤ base) (hc : base ≤ 16) (k : Nat) (hk : k < 4294967296) (pre : List UInt8) : digitsF base (pre ++ (digsB base k ++ [32])) pre.length = some ((k : Int), pre.length + (digsB base k).length) := by
  unfold digitsF
  have hs : spanN (fun c => decide (digVal c < base)) (digsB base k ++ [32]) = (digsB base k).length :=
    spanN_all _ 32 (by have : digVal 32 = 36 := by decide
                       simp only [this]; simp; omega) [] _ (digsB_all hb hc (fun c => decide (digVal c < base)) (fun d hd => by simp only [decide_eq_true_eq]; rw [(hexDigit_val d (by omega)).1]; exact hd) k)
  simp only [List.drop_left]
  rw [hs, List.take_left, parseF_digs hb hc k hk]
  rfl

/-- A text of one number and a blank. -/
theorem lex_num {c : UInt8} {r l0 : List UInt8} {x : Int} (hc : bsort c = 4) (hl : c :: r = l0 ++ [32]) (hn : numberF (c :: r) = some (x, l0.length)) (h10 : lines l0 = 0) :
    lexB (c :: r) = ([⟨3, 1, x, [], false, false⟩, ⟨0, 1, 0, [], false, false⟩], 0, 0) := by
  have c46 : c ≠ 46 := by rintro rfl; revert hc; decide
  have c37 : c ≠ 37 := by rintro rfl; revert hc; decide
  have c47 : c ≠ 47 := by rintro rfl; revert hc; decide
  have hs : skipB (c :: r) = (c :: r, true) := by
    unfold skipB
    rw [List.length_cons, skipF_cons, if_neg (by rw [hc]; decide), if_neg c37, if_neg (by simp [c47])]
  have ht : tokF (c :: r) = some ⟨3, x, [], l0.length⟩ := by
    unfold tokF
    simp only
    rw [if_neg (by simp [c46]), if_neg (by rw [hc]; decide), if_neg (by rw [hc]; decide), if_neg (by rw [hc]; decide), if_neg (by rw [hc]; decide), if_pos hc, hn]
    rfl
  have hd : (c :: r).drop l0.length = [32] := by rw [hl, List.drop_left]
  have htk : (c :: r).take l0.length = l0 := by rw [hl, List.take_left]
  have h32 : skipB [32] = ([], true) := by decide
  unfold lexB
  rw [lexF_step _ _ _ _ (Nat.lt_succ_self _)]
  simp only [hs, ht, hd, htk, h10]
  rw [List.length_cons, lexF]
  simp only [h32]
  simp [lines]

theorem hexDigit_not10 : ∀ d, d < 16 → (hexDigit d != 10) = true := by decide
theorem digsB_lines {base : Nat} (hb : 2 ≤ base) (hc : base ≤ 16) (k : Nat) : lines (digsB base k) = 0 := by
  unfold lines
  rw [List.count_eq_zero]
  intro h
  have := digsB_all hb hc (fun c => c != 10) (fun d hd => hexDigit_not10 d (by omega)) k 10 h
  simp at this
def pairOf (x : Int) : List Tok := [⟨3, 1, x, [], false, false⟩, ⟨0, 1, 0, [], false, false⟩]
theorem lex_ten (n : Nat) (hn : n < 4294967296) : lexB (digsB 10 n ++ [32]) = (pairOf n, 0, 0) := by
  have hne := digsB_ne (base := 10) (by omega) n
  have hall := digsB_all (base := 10) (by omega) (by omega) (fun c => decide (48 ≤ c.toNat ∧ c.toNat ≤ 57)) (fun d hd => by simpa using hexDigit_ten d hd) n
  cases hd : digsB 10 n with
  | nil => exact absurd hd hne
  | cons c r =>
    have h1 := hall c (by rw [hd]; exact List.mem_cons_self ..)
    simp only [decide_eq_true_eq] at h1
    have hln : lines (c :: r) = 0 := by
      have := digsB_lines (base := 10) (by omega) (by omega) n
      rw [hd] at this
      exact this
    refine lex_num (c := c) (r := r ++ [32]) (l0 := c :: r) ?_ rfl ?_ hln
    · unfold bsort bsortI
      rw [if_neg (by omega), if_neg (by omega), if_neg (by omega), if_pos (by omega)]
    · have h2 : ∀ x, (r ++ [32]).head? = some x → x.toNat = 32 ∨ 48 ≤ x.toNat ∧ x.toNat ≤ 57 := by
        intro x hx
        cases r with
        | nil => simp at hx; subst hx; left; rfl
        | cons d r =>
          simp at hx
          subst hx
          have := hall d (by rw [hd]; simp)
          simp only [decide_eq_true_eq] at this
          exact .inr this
      have hno : ∀ m : UInt8, (m.toNat = 120 ∨ m.toNat = 111 ∨ m.toNat = 98 ∨ m.toNat = 39) → ¬ ((c :: (r ++ [32])).head? = some 48 ∧ (c :: (r ++ [32])).tail.head? = some m) := by
        rintro m hm ⟨-, h⟩
        have := h2 m h
        omega
      unfold numberF
      rw [if_neg (hno 120 (by decide)), if_neg (hno 111 (by decide)), if_neg (hno 98 (by decide)), if_neg (hno 39 (by decide))]
      have := digsF_of (base := 10) (by omega) (by omega) n hn []
      rw [List.nil_append, hd] at this
      simpa using this
theorem lex_base {base : Nat} (m : UInt8) (h : (base = 16 ∧ m = 120) ∨ (base = 8 ∧ m = 111) ∨ (base = 2 ∧ m = 98)) (n : Nat) (hn : n < 4294967296) : lexB ([48, m] ++ digsB base n ++ [32]) = (pairOf n, 0, 0) := by
  have hb : 2 ≤ base ∧ base ≤ 16 := by omega
  have hm : m ≠ 10 := by rcases h with ⟨-, rfl⟩ | ⟨-, rfl⟩ | ⟨-, rfl⟩ <;> decide
  have hd := digsF_of hb.1 hb.2 n hn [48, m]
  have h0 := digsB_lines hb.1 hb.2 n
  generalize digsB base n = D at *
  have e : [48, m] ++ D ++ [32] = 48 :: (m :: (D ++ [32])) := by simp
  have e2 : [48, m] ++ (D ++ [32]) = 48 :: (m :: (D ++ [32])) := by simp
  rw [e2] at hd
  rw [e]
  refine lex_num (c := 48) (r := m :: (D ++ [32])) (l0 := 48 :: m :: D) (by decide) (by simp) ?_ ?_
  · have e3 : (48 :: m :: D).length = [48, m].length + D.length := by simp; omega
    rw [e3]
    unfold numberF
    rcases h with ⟨rfl, rfl⟩ | ⟨rfl, rfl⟩ | ⟨rfl, rfl⟩
    · rw [if_pos ⟨rfl, rfl⟩]
      exact hd
    · rw [if_neg (by simp), if_pos ⟨rfl, rfl⟩]
      exact hd
    · rw [if_neg (by simp), if_neg (by simp), if_pos ⟨rfl, rfl⟩]
      exact hd
  · unfold lines at *
    rw [List.count_cons, List.count_cons, h0]
    simp [hm]
theorem lex_base' {base : Nat} (m : UInt8) (h : (base = 16 ∧ m = 120) ∨ (base = 8 ∧ m = 111) ∨ (base = 2 ∧ m = 98)) (n : Nat) (hn : n < 4294967296) : lexB (48 :: m :: digsB base n ++ [32]) = (pairOf n, 0, 0) := by
  have h1 := lex_base m h n hn
  have e : [48, m] ++ digsB base n = 48 :: m :: digsB base n := by simp
  rw [e] at h1
  exact h1
theorem lex_char (c : UInt8) (h1 : c ≠ 39) (h2 : c ≠ 92) (h3 : c ≠ 10) : lexB [48, 39, c, 32] = (pairOf c.toNat, 0, 0) := by
  refine lex_num (c := 48) (r := [39, c, 32]) (l0 := [48, 39, c]) (by decide) rfl ?_ ?_
  · unfold numberF
    rw [if_neg (by simp), if_neg (by simp), if_neg (by simp), if_pos ⟨rfl, rfl⟩]
    show charAt2 c [32] = _
    unfold charAt2
    rw [if_neg h3, if_neg h1, if_neg h2]
    rfl
  · simp [lines, h3]
end Go.Proofs.YtpiekfkkhgighaaDoor
