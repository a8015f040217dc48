/-
  A text's tokens, as functions on lists of bytes. Definitions and plain laws; no condition.
-/
import Derived.Test.YtpiekfkkhgighaaDoorNums
namespace Go.Proofs.YtpiekfkkhgighaaDoor

structure Tok where
  kind : Int
  line : Int
  n : Int
  s : List UInt8
  opn : Bool
  tight : Bool

/-- How many bytes at the beginning are such. -/
def spanN (p : UInt8 → Bool) (l : List UInt8) : Nat := (l.takeWhile p).length
theorem spanN_nil (p : UInt8 → Bool) : spanN p [] = 0 := rfl
theorem spanN_cons (p : UInt8 → Bool) (c : UInt8) (r : List UInt8) : spanN p (c :: r) = if p c then spanN p r + 1 else 0 := by
  unfold spanN
  rw [List.takeWhile_cons]
  split <;> simp
theorem spanN_le (p : UInt8 → Bool) (l : List UInt8) : spanN p l ≤ l.length := by
  induction l with
  | nil => exact Nat.le_refl _
  | cons c r ih =>
    rw [spanN_cons, List.length_cons]
    split <;> omega
/-- A count that has come to k goes on just if the next byte is such. -/
theorem spanN_go (p : UInt8 → Bool) : ∀ (l : List UInt8) (k : Nat), k ≤ spanN p l → (k < spanN p l ↔ ∃ c, l[k]? = some c ∧ p c = true)
  | [], k, h => by simp [spanN_nil]
  | c :: r, 0, h => by
    rw [spanN_cons]
    split <;> simp_all
  | c :: r, k + 1, h => by
    rw [spanN_cons] at h ⊢
    split at h
    · rename_i hc
      rw [if_pos hc]
      have := spanN_go p r k (by omega)
      simp only [List.getElem?_cons_succ, ← this]
      omega
    · omega

/-- A number of digits from a place on. -/
def digitsF (base : Nat) (l : List UInt8) (frm : Nat) : Option (Int × Nat) :=
  let n := spanN (fun c => decide (digVal c < base)) (l.drop frm)
  let p := parseF base ((l.drop frm).take n)
  if p.2 = 0 then some (p.1, frm + n) else none
def slashRes : Option (List UInt8 × Nat) → Option (Int × Nat)
  | some ([b], 3) => some ((b.toNat : Int), 4)
  | _ => none
def charSlash : List UInt8 → Option (Int × Nat)
  | [] => none
  | d :: _ => slashRes (getQ 39 [92, d, 39])
def charAt2 (c : UInt8) (r : List UInt8) : Option (Int × Nat) :=
  if c = 10 then none
  else if c = 39 then (if r.head? = some 39 then some (39, 4) else none)
  else if c = 92 then charSlash r
  else some ((c.toNat : Int), 3)
/-- The number of a byte that is told behind 0 and a quote. -/
def charF : List UInt8 → Option (Int × Nat)
  | _ :: _ :: c :: r => charAt2 c r
  | _ => none
def numberF (l : List UInt8) : Option (Int × Nat) :=
  if l.head? = some 48 ∧ l.tail.head? = some 120 then digitsF 16 l 2
  else if l.head? = some 48 ∧ l.tail.head? = some 111 then digitsF 8 l 2
  else if l.head? = some 48 ∧ l.tail.head? = some 98 then digitsF 2 l 2
  else if l.head? = some 48 ∧ l.tail.head? = some 39 then charF l
  else digitsF 10 l 0

/-- What the token at a place says: its kind, number and text, and how many bytes it has. -/
structure TokIs where
  kind : Int
  n : Int
  s : List UInt8
  len : Nat
def tokF (l : List UInt8) : Option TokIs :=
  match l with
  | [] => none
  | c :: r =>
    if c = 46 ∧ (r = [] ∨ r.headD 0 = 37 ∨ bsort (r.headD 0) = 1) then some ⟨7, 0, [], 1⟩
    else if bsort c = 2 then some ⟨1, 0, l.take (spanN isWord l), spanN isWord l⟩
    else if bsort c = 5 then some ⟨1, 0, l.take (spanN isSign l), spanN isSign l⟩
    else if bsort c = 6 then some ⟨1, 0, [c], 1⟩
    else if bsort c = 3 then some ⟨4, 0, l.take (spanN isWord l), spanN isWord l⟩
    else if bsort c = 4 then (numberF l).map fun x => ⟨3, x.1, [], x.2⟩
    else if c = 39 then (getQ 39 r).map fun x => ⟨2, 0, x.1, x.2 + 1⟩
    else if c = 34 then (getQ 34 r).map fun x => ⟨5, 0, x.1, x.2 + 1⟩
    else if bsort c = 7 then some ⟨6, 0, [c], 1⟩
    else none

/-- Where a comment's end stands. -/
def endOf : List UInt8 → Option Nat
  | [] => none
  | c :: r => if c = 42 ∧ r.head? = some 47 then some 0 else (endOf r).map (· + 1)
/-- What is left behind what stands between tokens; false: a comment isn't closed. -/
def skipF : Nat → List UInt8 → List UInt8 × Bool
  | 0, l => (l, true)
  | _ + 1, [] => ([], true)
  | f + 1, c :: r =>
    if bsort c = 1 then skipF f r
    else if c = 37 then skipF f (r.drop (spanN (fun c => decide (c ≠ 10)) r))
    else if c = 47 ∧ r.head? = some 42 then
      match endOf r.tail with
      | none => (c :: r, false)
      | some n => skipF f (r.tail.drop (n + 2))
    else (c :: r, true)
def skipB (l : List UInt8) : List UInt8 × Bool := skipF l.length l

def lines (l : List UInt8) : Nat := l.count 10
/-- The tokens, or those ahead of an error, its line (0: none), and it. -/
def lexF : Nat → List UInt8 → Nat → Bool → List Tok × Int × Int
  | 0, _, _, _ => ([], 0, 0)
  | f + 1, l, line, first =>
    let k := skipB l
    let line1 := line + lines (l.take (l.length - k.1.length))
    if k.2 = false then ([], line1, 5)
    else if k.1 = [] then ([⟨0, line1, 0, [], false, false⟩], 0, 0)
    else match tokF k.1 with
      | none => ([], line1, 5)
      | some t =>
        let r := lexF f (k.1.drop t.len) (line1 + lines (k.1.take t.len)) false
        (⟨t.kind, line1, t.n, t.s, decide ((k.1.drop t.len).head? = some 40), !first && k.1.length == l.length⟩ :: r.1, r.2.1, r.2.2)
def lexB (l : List UInt8) : List Tok × Int × Int := lexF (l.length + 1) l 1 true
end Go.Proofs.YtpiekfkkhgighaaDoor
