/-
  The sorts of bytes, plain atoms, how atoms are written in quotes and read back, as functions on lists of bytes. Definitions and plain laws; no condition.
-/
import Derived.WalkKit
import Derived.WalkSmall
import Derived.Lib.Hide
namespace Go.Proofs.YtpiekfkkhgighaaDoor

/-- A byte's sort, of its number. -/
def bsortI (c : Int) : Int :=
  if (9 ≤ c ∧ c ≤ 13) ∨ c = 32 then 1
  else if 97 ≤ c ∧ c ≤ 122 then 2
  else if (65 ≤ c ∧ c ≤ 90) ∨ c = 95 then 3
  else if 48 ≤ c ∧ c ≤ 57 then 4
  else if c = 43 ∨ c = 45 ∨ c = 42 ∨ c = 47 ∨ c = 92 ∨ c = 94 ∨ c = 60 ∨ c = 62 ∨ c = 61 ∨ c = 126 ∨ c = 58 ∨ c = 46 ∨ c = 63 ∨ c = 64 ∨ c = 35 ∨ c = 38 ∨ c = 36 then 5
  else if c = 33 ∨ c = 59 then 6
  else if c = 40 ∨ c = 41 ∨ c = 91 ∨ c = 93 ∨ c = 123 ∨ c = 125 ∨ c = 44 ∨ c = 124 ∨ c = 37 then 7
  else if c = 39 ∨ c = 34 ∨ c = 96 then 8
  else 0
def bsort (c : UInt8) : Int := bsortI c.toNat

theorem u8_all (p : UInt8 → Bool) (h : (List.range 256).all (fun n => p (UInt8.ofNat n)) = true) (c : UInt8) : p c = true := by
  rw [List.all_eq_true] at h
  have := h c.toNat (List.mem_range.2 c.toNat_lt)
  simpa using this

def isWord (c : UInt8) : Bool := decide (bsort c = 2 ∨ bsort c = 3 ∨ bsort c = 4)
def isSign (c : UInt8) : Bool := decide (bsort c = 5)

/-- Whether an atom may be written as it is. -/
def plainB (l : List UInt8) : Bool :=
  if l = [] ∨ l = [46] then false
  else if l = [91, 93] ∨ l = [33] ∨ l = [59] ∨ l = [123, 125] then true
  else if bsort (l.headD 0) = 2 then l.all isWord
  else !(l.take 2 == [47, 42]) && l.all isSign

def hexDigit (n : Nat) : UInt8 := if n < 10 then UInt8.ofNat (48 + n) else UInt8.ofNat (87 + n)
def hexOf (c : UInt8) : List UInt8 := if c.toNat < 16 then [hexDigit c.toNat] else [hexDigit (c.toNat / 16), hexDigit (c.toNat % 16)]
/-- How a byte is written within quotes. -/
def escB (c : UInt8) : List UInt8 :=
  if c = 39 ∨ c = 92 then [92, c]
  else if c = 10 then [92, 110]
  else if c = 9 then [92, 116]
  else if c < 32 ∨ c = 127 then [92, 120] ++ hexOf c ++ [92]
  else [c]
def quoteB (l : List UInt8) : List UInt8 := [39] ++ l.flatMap escB ++ [39]
def putB (l : List UInt8) : List UInt8 := if plainB l then l else quoteB l

/-- What a byte stands for as a digit, 16 of one that is none. -/
def hexVal (c : UInt8) : Nat :=
  if 48 ≤ c.toNat ∧ c.toNat ≤ 57 then c.toNat - 48 else if 97 ≤ c.toNat ∧ c.toNat ≤ 102 then c.toNat - 87 else if 65 ≤ c.toNat ∧ c.toNat ≤ 70 then c.toNat - 55 else 16
/-- The number of the digits up to a backslash, and how many bytes that takes. -/
def codedF (base : Nat) : List UInt8 → Nat → Nat → Nat × Nat × Bool
  | [], _, _ => (0, 0, false)
  | c :: r, n, i => if c = 92 then (n, i + 1, decide (0 < i)) else if base ≤ hexVal c then (0, 0, false) else if 255 < n * base + hexVal c then (0, 0, false) else codedF base r (n * base + hexVal c) (i + 1)
/-- The escapes of one letter. -/
def escKnown (c : UInt8) : Option Nat :=
  if c = 110 then some 10 else if c = 114 then some 13 else if c = 116 then some 9 else if c = 97 then some 7 else if c = 98 then some 8 else if c = 102 then some 12 else if c = 118 then some 11
  else if c = 92 then some 92 else if c = 39 then some 39 else if c = 34 then some 34 else if c = 96 then some 96 else none
def isOct (c : UInt8) : Bool := decide (48 ≤ c.toNat ∧ c.toNat ≤ 55)
/-- The byte that is told behind a backslash, and how many bytes that takes. -/
def escapeF : List UInt8 → Nat × Nat × Bool
  | [] => (0, 0, false)
  | c :: r =>
    match escKnown c with
    | some n => (n, 1, true)
    | none =>
      if c = 120 then ((codedF 16 r 0 0).1, (codedF 16 r 0 0).2.1 + 1, (codedF 16 r 0 0).2.2)
      else if c = 48 ∧ (r = [] ∨ (isOct (r.headD 0) = false ∧ r.headD 0 ≠ 92)) then (0, 1, true)
      else if isOct c then codedF 8 (c :: r) 0 0
      else (0, 0, false)
/-- What is within quotes, and how many bytes that took. -/
def getF (q : UInt8) : Nat → List UInt8 → Nat → List UInt8 → Option (List UInt8 × Nat)
  | 0, _, _, _ => none
  | _ + 1, [], _, _ => none
  | f + 1, c :: r, i, b =>
    if c = q then (if r.head? = some q then getF q f r.tail (i + 2) (b ++ [c]) else some (b, i + 1))
    else if c = 10 then none
    else if c ≠ 92 then getF q f r (i + 1) (b ++ [c])
    else if r = [] then none
    else if r.head? = some 10 then getF q f r.tail (i + 2) b
    else if (escapeF r).2.2 then getF q f (r.drop (escapeF r).2.1) (i + 1 + (escapeF r).2.1) (b ++ [UInt8.ofNat (escapeF r).1]) else none
def getQ (q : UInt8) (l : List UInt8) : Option (List UInt8 × Nat) := getF q l.length l 0 []

theorem getF_fuel (q : UInt8) : ∀ (f g : Nat) (l : List UInt8) (i : Nat) (b : List UInt8), l.length ≤ f → l.length ≤ g → getF q f l i b = getF q g l i b := by
  intro f
  induction f with
  | zero =>
    intro g l i b hf hg
    obtain rfl : l = [] := List.eq_nil_of_length_eq_zero (by omega)
    cases g <;> rfl
  | succ f ih =>
    intro g l i b hf hg
    cases l with
    | nil => cases g <;> rfl
    | cons c r =>
      cases g with
      | zero => simp at hg
      | succ g =>
        simp only [List.length_cons] at hf hg
        have ht : r.tail.length ≤ r.length := by rw [List.length_tail]; omega
        have hd : (r.drop (escapeF r).2.1).length ≤ r.length := by rw [List.length_drop]; omega
        simp only [getF]
        rw [ih g r.tail _ _ (by omega) (by omega), ih g r _ _ (by omega) (by omega), ih g r.tail _ _ (by omega) (by omega), ih g (r.drop _) _ _ (by omega) (by omega)]
/-- One byte on. -/
theorem getQ_step (q : UInt8) (f : Nat) (c : UInt8) (r : List UInt8) (i : Nat) (b : List UInt8) (hf : r.length < f) :
    getF q f (c :: r) i b = if c = q then (if r.head? = some q then getF q f r.tail (i + 2) (b ++ [c]) else some (b, i + 1))
    else if c = 10 then none
    else if c ≠ 92 then getF q f r (i + 1) (b ++ [c])
    else if r = [] then none
    else if r.head? = some 10 then getF q f r.tail (i + 2) b
    else if (escapeF r).2.2 then getF q f (r.drop (escapeF r).2.1) (i + 1 + (escapeF r).2.1) (b ++ [UInt8.ofNat (escapeF r).1]) else none := by
  have ht : r.tail.length ≤ r.length := by rw [List.length_tail]; omega
  have hd : (r.drop (escapeF r).2.1).length ≤ r.length := by rw [List.length_drop]; omega
  cases f with
  | zero => omega
  | succ f =>
    simp only [getF]
    rw [getF_fuel q f (f + 1) r.tail _ _ (by omega) (by omega), getF_fuel q f (f + 1) r _ _ (by omega) (by omega), getF_fuel q f (f + 1) r.tail _ _ (by omega) (by omega), getF_fuel q f (f + 1) (r.drop _) _ _ (by omega) (by omega)]
end Go.Proofs.YtpiekfkkhgighaaDoor
