import Derived.WalkSmall
import Derived.Lib.Hide
namespace Go.Proofs.YtiffopheamnngaaGreatDoor
def bsortI (c : Int) : Int :=
 if (9 ≤ c ∧ c ≤ 13) ∨ c = 32 then 1
 else if 97 ≤ c ∧ c ≤ 122 then 2
 else if (65 ≤ c ∧ c ≤ 90) ∨ c = 95 then 3
 else if 48 ≤ c ∧ c ≤ 57 then 4
 else if c = 43 ∨ c = 45 ∨ c = 42 ∨ c = 47 ∨ c = 92 ∨ c = 94 ∨ c = 60 ∨ c = 62 ∨ c = 61 ∨ c = 126 ∨ c = 58 ∨ c = 46 ∨ c = 63 ∨ c = 64 ∨ c = 35 ∨ c = 38 ∨ c = 36 then 5
 else if c = 33 ∨ c = 59 then 6
 else if c = 40 ∨ c = 41 ∨ c = 91 ∨ c = 93 ∨ c = 123 ∨ c = 125 ∨ c = 44 ∨ c = 124 ∨ c = 37 then 7
 else if c = 39 ∨ c = 34 ∨ c = 96 then 8
 else 0
def bsort (c : UInt8) : Int := bsortI c.toNat
theorem u8_all (p : UInt8 → Bool) (h : (List.range 256).all (fun n => p (UInt8.ofNat n)) = true) (c : UInt8) : p c = true := by
 rw [List.all_eq_true] at h
 have := h c.toNat (List.mem_range.2 c.toNat_lt)
 simpa using this
def isWord (c : UInt8) : Bool := decide (bsort c = 2 ∨ bsort c = 3 ∨ bsort c = 4)
def isSign (c : UInt8) : Bool := decide (bsort c = 5)
def hexVal (c : UInt8) : Nat :=
 if 48 ≤ c.toNat ∧ c.toNat ≤ 57 then c.toNat - 48 else if 97 ≤ c.toNat ∧ c.toNat ≤ 102 then c.toNat - 87 else if 65 ≤ c.toNat ∧ c.toNat ≤ 70 then c.toNat - 55 else 16
def codedF (base : Nat) : List UInt8 → Nat → Nat → Nat × Nat × Bool
 | [], _, _ => (0, 0, false)
 | c :: r, n, i => if c = 92 then (n, i + 1, decide (0 < i)) else if base ≤ hexVal c then (0, 0, false) else if 255 < n * base + hexVal c then (0, 0, false) else codedF base r (n * base + hexVal c) (i + 1)
def escKnown (c : UInt8) : Option Nat :=
 if c = 110 then some 10 else if c = 114 then some 13 else if c = 116 then some 9 else if c = 97 then some 7 else if c = 98 then some 8 else if c = 102 then some 12 else if c = 118 then some 11
 else if c = 92 then some 92 else if c = 39 then some 39 else if c = 34 then some 34 else if c = 96 then some 96 else none
def isOct (c : UInt8) : Bool := decide (48 ≤ c.toNat ∧ c.toNat ≤ 55)
def escapeF : List UInt8 → Nat × Nat × Bool
 | [] => (0, 0, false)
 | c :: r =>
  match escKnown c with
  | some n => (n, 1, true)
  | none =>
   if c = 120 then ((codedF 16 r 0 0).1, (codedF 16 r 0 0).2.1 + 1, (codedF 16 r 0 0).2.2)
   else if c = 48 ∧ (r = [] ∨ (isOct (r.headD 0) = false ∧ r.headD 0 ≠ 92)) then (0, 1, true)
   else if isOct c then codedF 8 (c :: r) 0 0
   else (0, 0, false)
def getF (q : UInt8) : Nat → List UInt8 → Nat → List UInt8 → Option (List UInt8 × Nat)
 | 0, _, _, _ => none
 | _ + 1, [], _, _ => none
 | f + 1, c :: r, i, b =>
  if c = q then (if r.head? = some q then getF q f r.tail (i + 2) (b ++ [c]) else some (b, i + 1))
  else if c = 10 then none
  else if c ≠ 92 then getF q f r (i + 1) (b ++ [c])
  else if r = [] then none
  else if r.head? = some 10 then getF q f r.tail (i + 2) b
  else if (escapeF r).2.2 then getF q f (r.drop (escapeF r).2.1) (i + 1 + (escapeF r).2.1) (b ++ [UInt8.ofNat (escapeF r).1]) else none
def getQ (q : UInt8) (l : List UInt8) : Option (List UInt8 × Nat) := getF q l.length l 0 []
theorem getF_fuel (q : UInt8) : ∀ (f g : Nat) (l : List UInt8) (i : Nat) (b : List UInt8), l.length ≤ f → l.length ≤ g → getF q f l i b = getF q g l i b := by
 intro f
 induction f with
 | zero =>
  intro g l i b hf hg
  obtain rfl : l = [] := List.eq_nil_of_length_eq_zero (by omega)
  cases g <;> rfl
 | succ f ih =>
  intro g l i b hf hg
  cases l with
  | nil => cases g <;> rfl
  | cons c r =>
   cases g with
   | zero => simp at hg
   | succ g =>
    simp only [List.length_cons] at hf hg
    have ht : r.tail.length ≤ r.length := by rw [List.length_tail]; omega
    have hd : (r.drop (escapeF r).2.1).length ≤ r.length := by rw [List.length_drop]; omega
    simp only [getF]
    rw [ih g r.tail _ _ (by omega) (by omega), ih g r _ _ (by omega) (by omega), ih g r.tail _ _ (by omega) (by omega), ih g (r.drop _) _ _ (by omega) (by omega)]
theorem getQ_step (q : UInt8) (f : Nat) (c : UInt8) (r : List UInt8) (i : Nat) (b : List UInt8) (hf : r.length < f) :
    getF q f (c :: r) i b = if c = q then (if r.head? = some q then getF q f r.tail (i + 2) (b ++ [c]) else some (b, i + 1))
    else if c = 10 then none
    else if c ≠ 92 then getF q f r (i + 1) (b ++ [c])
    else if r = [] then none
    else if r.head? = some 10 then getF q f r.tail (i + 2) b
    else if (escapeF r).2.2 then getF q f (r.drop (escapeF r).2.1) (i + 1 + (escapeF r).2.1) (b ++ [UInt8.ofNat (escapeF r).1]) else none := by
 have ht : r.tail.length ≤ r.length := by rw [List.length_tail]; omega
 have hd : (r.drop (escapeF r).2.1).length ≤ r.length := by rw [List.length_drop]; omega
 cases f with
 | zero => omega
 | succ f =>
  simp only [getF]
  rw [getF_fuel q f (f + 1) r.tail _ _ (by omega) (by omega), getF_fuel q f (f + 1) r _ _ (by omega) (by omega), getF_fuel q f (f + 1) r.tail _ _ (by omega) (by omega), getF_fuel q f (f + 1) (r.drop _) _ _ (by omega) (by omega)]
def digVal (c : UInt8) : Nat :=
 if 48 ≤ c.toNat ∧ c.toNat ≤ 57 then c.toNat - 48 else if 97 ≤ c.toNat ∧ c.toNat ≤ 122 then c.toNat - 87 else if 65 ≤ c.toNat ∧ c.toNat ≤ 90 then c.toNat - 55 else 36
def valOf (base : Nat) (l : List UInt8) : Nat := l.foldl (fun v c => v * base + digVal c) 0
def digitsIn (base : Nat) (l : List UInt8) : Bool := l.all fun c => decide (digVal c < base)
def tops (v : Nat) : Int := if v = 9223372036854775808 then -9223372036854775808 else (v : Int)
def parseF (base : Nat) (l : List UInt8) : Int × Int :=
 if l = [] ∨ digitsIn base l = false then (0, 6)
 else if 9223372036854775808 < valOf base l then (0, 11)
 else (tops (valOf base l), 0)
theorem valOf_snoc (base : Nat) (l : List UInt8) (c : UInt8) : valOf base (l ++ [c]) = valOf base l * base + digVal c := by
 unfold valOf
 rw [List.foldl_append]
 rfl
theorem valOf_mono (base : Nat) (h : 1 ≤ base) (l r : List UInt8) : valOf base l ≤ valOf base (l ++ r) := by
 induction r generalizing l with
 | nil => simp
 | cons c r ih =>
  have := ih (l ++ [c])
  rw [List.append_assoc, List.singleton_append] at this
  refine Nat.le_trans ?_ this
  rw [valOf_snoc]
  have : valOf base l * 1 ≤ valOf base l * base := Nat.mul_le_mul_left _ h
  omega
theorem digVal_le (c : UInt8) : digVal c ≤ 36 := by
 unfold digVal
 have := c.toNat_lt
 split
 ·omega
 ·split
  ·omega
  ·split <;> omega
theorem beyond_iff (v d base : Nat) (hb : 1 ≤ base) (hd : d ≤ 36) : (9223372036854775808 - d) / base < v ↔ 9223372036854775808 < v * base + d := by
 rw [Nat.div_lt_iff_lt_mul (by omega)]
 omega
structure Tok where
 kind : Int
 line : Int
 n : Int
 s : List UInt8
 opn : Bool
 tight : Bool
def spanN (p : UInt8 → Bool) (l : List UInt8) : Nat := (l.takeWhile p).length
theorem spanN_nil (p : UInt8 → Bool) : spanN p [] = 0 := rfl
theorem spanN_cons (p : UInt8 → Bool) (c : UInt8) (r : List UInt8) : spanN p (c :: r) = if p c then spanN p r + 1 else 0 := by
 unfold spanN
 rw [List.takeWhile_cons]
 split <;> simp
theorem spanN_le (p : UInt8 → Bool) (l : List UInt8) : spanN p l ≤ l.length := by
 induction l with
 | nil => exact Nat.le_refl _
 | cons c r ih =>
  rw [spanN_cons, List.length_cons]
  split <;> omega
theorem spanN_go (p : UInt8 → Bool) : ∀ (l : List UInt8) (k : Nat), k ≤ spanN p l → (k < spanN p l ↔ ∃ c, l[k]? = some c ∧ p c = true)
 | [], k, h => by simp [spanN_nil]
 | c :: r, 0, h => by
  rw [spanN_cons]
  split <;> simp_all
 | c :: r, k + 1, h => by
  rw [spanN_cons] at h ⊢
  split at h
  ·rename_i hc
   rw [if_pos hc]
   have := spanN_go p r k (by omega)
   simp only [List.getElem?_cons_succ, ← this]
   omega
  ·omega
def digitsF (base : Nat) (l : List UInt8) (frm : Nat) : Option (Int × Nat) :=
 let n := spanN (fun c => decide (digVal c < base)) (l.drop frm)
 let p := parseF base ((l.drop frm).take n)
 if p.2 = 0 then some (p.1, frm + n) else none
def slashRes : Option (List UInt8 × Nat) → Option (Int × Nat)
 | some ([b], 3) => some ((b.toNat : Int), 4)
 | _ => none
def charSlash : List UInt8 → Option (Int × Nat)
 | [] => none
 | d :: _ => slashRes (getQ 39 [92, d, 39])
def charAt2 (c : UInt8) (r : List UInt8) : Option (Int × Nat) :=
 if c = 10 then none
 else if c = 39 then (if r.head? = some 39 then some (39, 4) else none)
 else if c = 92 then charSlash r
 else some ((c.toNat : Int), 3)
def charF : List UInt8 → Option (Int × Nat)
 | _ :: _ :: c :: r => charAt2 c r
 | _ => none
def numberF (l : List UInt8) : Option (Int × Nat) :=
 if l.head? = some 48 ∧ l.tail.head? = some 120 then digitsF 16 l 2
 else if l.head? = some 48 ∧ l.tail.head? = some 111 then digitsF 8 l 2
 else if l.head? = some 48 ∧ l.tail.head? = some 98 then digitsF 2 l 2
 else if l.head? = some 48 ∧ l.tail.head? = some 39 then charF l
 else digitsF 10 l 0
structure TokIs where
 kind : Int
 n : Int
 s : List UInt8
 len : Nat
def tokF (l : List UInt8) : Option TokIs :=
 match l with
 | [] => none
 | c :: r =>
  if c = 46 ∧ (r = [] ∨ r.headD 0 = 37 ∨ bsort (r.headD 0) = 1) then some ⟨7, 0, [], 1⟩
  else if bsort c = 2 then some ⟨1, 0, l.take (spanN isWord l), spanN isWord l⟩
  else if bsort c = 5 then some ⟨1, 0, l.take (spanN isSign l), spanN isSign l⟩
  else if bsort c = 6 then some ⟨1, 0, [c], 1⟩
  else if bsort c = 3 then some ⟨4, 0, l.take (spanN isWord l), spanN isWord l⟩
  else if bsort c = 4 then (numberF l).map fun x => ⟨3, x.1, [], x.2⟩
  else if c = 39 then (getQ 39 r).map fun x => ⟨2, 0, x.1, x.2 + 1⟩
  else if c = 34 then (getQ 34 r).map fun x => ⟨5, 0, x.1, x.2 + 1⟩
  else if bsort c = 7 then some ⟨6, 0, [c], 1⟩
  else none
def endOf : List UInt8 → Option Nat
 | [] => none
 | c :: r => if c = 42 ∧ r.head? = some 47 then some 0 else (endOf r).map (· + 1)
def skipF : Nat → List UInt8 → List UInt8 × Bool
 | 0, l => (l, true)
 | _ + 1, [] => ([], true)
 | f + 1, c :: r =>
  if bsort c = 1 then skipF f r
  else if c = 37 then skipF f (r.drop (spanN (fun c => decide (c ≠ 10)) r))
  else if c = 47 ∧ r.head? = some 42 then
   match endOf r.tail with
   | none => (c :: r, false)
   | some n => skipF f (r.tail.drop (n + 2))
  else (c :: r, true)
def skipB (l : List UInt8) : List UInt8 × Bool := skipF l.length l
def lines (l : List UInt8) : Nat := l.count 10
def lexF : Nat → List UInt8 → Nat → Bool → List Tok × Int × Int
 | 0, _, _, _ => ([], 0, 0)
 | f + 1, l, line, first =>
  let k := skipB l
  let line1 := line + lines (l.take (l.length - k.1.length))
  if k.2 = false then ([], line1, 5)
  else if k.1 = [] then ([⟨0, line1, 0, [], false, false⟩], 0, 0)
  else match tokF k.1 with
   | none => ([], line1, 5)
   | some t =>
    let r := lexF f (k.1.drop t.len) (line1 + lines (k.1.take t.len)) false
    (⟨t.kind, line1, t.n, t.s, decide ((k.1.drop t.len).head? = some 40), !first && k.1.length == l.length⟩ :: r.1, r.2.1, r.2.2)
def lexB (l : List UInt8) : List Tok × Int × Int := lexF (l.length + 1) l 1 true
end Go.Proofs.YtiffopheamnngaaGreatDoor
