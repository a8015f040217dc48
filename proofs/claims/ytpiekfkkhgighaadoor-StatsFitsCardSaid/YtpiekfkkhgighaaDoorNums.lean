/-
  The number of digits in a base, as a function on lists of bytes. Definitions and plain laws; no condition.
-/
import Derived.Test.YtpiekfkkhgighaaDoorBytes
namespace Go.Proofs.YtpiekfkkhgighaaDoor

/-- What a byte stands for as a digit, 36 of one that is none. -/
def digVal (c : UInt8) : Nat :=
  if 48 ≤ c.toNat ∧ c.toNat ≤ 57 then c.toNat - 48 else if 97 ≤ c.toNat ∧ c.toNat ≤ 122 then c.toNat - 87 else if 65 ≤ c.toNat ∧ c.toNat ≤ 90 then c.toNat - 55 else 36
def valOf (base : Nat) (l : List UInt8) : Nat := l.foldl (fun v c => v * base + digVal c) 0
def digitsIn (base : Nat) (l : List UInt8) : Bool := l.all fun c => decide (digVal c < base)
def tops (v : Nat) : Int := if v = 9223372036854775808 then -9223372036854775808 else (v : Int)
/-- A number of digits, and an error: 6, 11 or 0. -/
def parseF (base : Nat) (l : List UInt8) : Int × Int :=
  if l = [] ∨ digitsIn base l = false then (0, 6)
  else if 9223372036854775808 < valOf base l then (0, 11)
  else (tops (valOf base l), 0)

theorem valOf_snoc (base : Nat) (l : List UInt8) (c : UInt8) : valOf base (l ++ [c]) = valOf base l * base + digVal c := by
  unfold valOf
  rw [List.foldl_append]
  rfl
theorem valOf_mono (base : Nat) (h : 1 ≤ base) (l r : List UInt8) : valOf base l ≤ valOf base (l ++ r) := by
  induction r generalizing l with
  | nil => simp
  | cons c r ih =>
    have := ih (l ++ [c])
    rw [List.append_assoc, List.singleton_append] at this
    refine Nat.le_trans ?_ this
    rw [valOf_snoc]
    have : valOf base l * 1 ≤ valOf base l * base := Nat.mul_le_mul_left _ h
    omega
theorem digVal_le (c : UInt8) : digVal c ≤ 36 := by
  unfold digVal
  have := c.toNat_lt
  split
  · omega
  · split
    · omega
    · split <;> omega
/-- The test that a step is beyond. -/
theorem beyond_iff (v d base : Nat) (hb : 1 ≤ base) (hd : d ≤ 36) : (9223372036854775808 - d) / base < v ↔ 9223372036854775808 < v * base + d := by
  rw [Nat.div_lt_iff_lt_mul (by omega)]
  omega
end Go.Proofs.YtpiekfkkhgighaaDoor
