/-
  What the document's own Get answers: what is within quotes, and how many bytes that took. No condition but the sizes that are named.
-/
import Derived.Test.YtpiekfkkhgighaaRefF
import Derived.Test.YtpiekfkkhgighaaGet
import Derived.Test.YtpiekfkkhgighaaTokApp
namespace Go.Proofs.Ytpiekfkkhgighaa
open Go.RowKit
set_option maxRecDepth 100000

/-- The letters of the escapes, and what they say. -/
def letK (m : Nat) : UInt8 := [110, 114, 116, 97, 98, 102, 118, 48].getD m 0
def valK (m : Nat) : Int := [10, 13, 9, 7, 8, 12, 11, 0].getD m 0
/-- What is found behind m letters. -/
def plainV (d : UInt8) (b : Bool) : Nat → Int
  | 0 => -1
  | m + 1 => if d = letK m ∧ (m < 7 ∨ b = true) then valK m else plainV d b m
theorem plainV_yes {d : UInt8} {b : Bool} {m : Nat} (h : d = letK m) (hb : m < 7 ∨ b = true) : plainV d b (m + 1) = valK m := by rw [plainV, if_pos ⟨h, hb⟩]
theorem plainV_no {d : UInt8} {b : Bool} {m : Nat} (h : d ≠ letK m) : plainV d b (m + 1) = plainV d b m := by rw [plainV, if_neg (fun e => h e.1)]
theorem plainV_shut {d : UInt8} {b : Bool} {m : Nat} (h : ¬ m < 7) (hb : b = false) : plainV d b (m + 1) = plainV d b m := by
  subst hb
  rw [plainV, if_neg (fun e => e.2.elim h (fun e => Bool.noConfusion e))]

def moreB (rr : List UInt8) : Bool := match rr.head? with
  | some d => decide (hexVal d < 8)
  | none => false
def slashB (rr : List UInt8) : Bool := decide (rr.head? = some 92)
def zeroOk (rr : List UInt8) : Bool := !moreB rr && !slashB rr

def escFacts (d : UInt8) (b : Bool) : Bool :=
  let p := plainV d b 8
  (decide (p < 0) || (decide (d ≠ 10) && decide (p ≤ 255) && (decide (escKnown d = some p.toNat) || (decide (d = 48) && b && decide (p = 0))))) &&
  (decide (0 ≤ p) || (decide (d = 92 ∨ d = 39 ∨ d = 34 ∨ d = 96) == decide (escKnown d = some d.toNat)) && (decide (d = 92 ∨ d = 39 ∨ d = 34 ∨ d = 96) || decide (escKnown d = none)) && (decide (d ≠ 48) || !b)) &&
  (decide (hexVal d < 8) == isOct d)
theorem escFacts_all (d : UInt8) (b : Bool) : escFacts d b = true := by
  cases b
  · exact u8_all (fun d => escFacts d false) (by decide +kernel) d
  · exact u8_all (fun d => escFacts d true) (by decide +kernel) d
theorem zeroOk_iff (rr : List UInt8) : zeroOk rr = decide (rr = [] ∨ (isOct (rr.headD 0) = false ∧ rr.headD 0 ≠ 92)) := by
  cases rr with
  | nil => rfl
  | cons c r =>
    have h := escFacts_all c true
    unfold escFacts at h
    simp only [Bool.and_eq_true, beq_iff_eq] at h
    unfold zeroOk moreB slashB
    simp only [List.head?_cons, List.headD_cons, h.2]
    rw [Bool.eq_iff_iff]
    simp
/-- The four ways of an escape. -/
theorem resc_plain {d : UInt8} {rr : List UInt8} (hp : 0 ≤ plainV d (zeroOk rr) 8) : d ≠ 10 ∧ plainV d (zeroOk rr) 8 ≤ 255 ∧ escapeF (d :: rr) = ((plainV d (zeroOk rr) 8).toNat, 1, true) := by
  have h := escFacts_all d (zeroOk rr)
  unfold escFacts at h
  generalize hP : plainV d (zeroOk rr) 8 = p at *
  simp only [Bool.and_eq_true, Bool.or_eq_true, decide_eq_true_eq] at h
  obtain ⟨⟨h1, -⟩, -⟩ := h
  rcases h1 with h1 | ⟨⟨h1, h2⟩, h3⟩
  · omega
  refine ⟨h1, h2, ?_⟩
  rw [escapeF_cons]
  rcases h3 with h3 | ⟨⟨h3, h4⟩, h5⟩
  · rw [h3]
  · subst h3
    rw [zeroOk_iff, decide_eq_true_eq] at h4
    rw [show escKnown 48 = none by decide]
    simp only
    rw [if_neg (by decide), if_pos ⟨trivial, h4⟩, h5]
    rfl
theorem resc_self {d : UInt8} {rr : List UInt8} (hp : plainV d (zeroOk rr) 8 < 0) (hd : d = 92 ∨ d = 39 ∨ d = 34 ∨ d = 96) : escapeF (d :: rr) = (d.toNat, 1, true) := by
  have h := escFacts_all d (zeroOk rr)
  unfold escFacts at h
  generalize hP : plainV d (zeroOk rr) 8 = p at *
  simp only [Bool.and_eq_true, Bool.or_eq_true, decide_eq_true_eq, beq_iff_eq] at h
  obtain ⟨⟨-, h2⟩, -⟩ := h
  rcases h2 with h2 | ⟨⟨h2, h3⟩, h4⟩
  · omega
  rw [escapeF_cons, of_decide_eq_true (h2.symm.trans (decide_eq_true hd))]
theorem resc_none {d : UInt8} {rr : List UInt8} (hp : plainV d (zeroOk rr) 8 < 0) (hd : ¬ (d = 92 ∨ d = 39 ∨ d = 34 ∨ d = 96)) :
    escapeF (d :: rr) = if d = 120 then ((codedF 16 rr 0 0).1, (codedF 16 rr 0 0).2.1 + 1, (codedF 16 rr 0 0).2.2) else if hexVal d < 8 then codedF 8 (d :: rr) 0 0 else (0, 0, false) := by
  have h := escFacts_all d (zeroOk rr)
  unfold escFacts at h
  generalize hP : plainV d (zeroOk rr) 8 = p at *
  simp only [Bool.and_eq_true, Bool.or_eq_true, decide_eq_true_eq, beq_iff_eq] at h
  obtain ⟨⟨-, h2⟩, h5⟩ := h
  rcases h2 with h2 | ⟨⟨h2, h3⟩, h4⟩
  · omega
  have hk : escKnown d = none := h3.resolve_left hd
  rw [escapeF_cons, hk]
  simp only
  by_cases hx : d = 120
  · rw [if_pos hx, if_pos hx]
  rw [if_neg hx, if_neg hx, if_neg, ← h5]
  · simp only [decide_eq_true_eq]
  · rintro ⟨h6, h7⟩
    rcases h4 with h4 | h4
    · exact h4 h6
    · rw [zeroOk_iff] at h4
      simp only [Bool.not_eq_true', decide_eq_false_iff_not] at h4
      exact h4 h7
end Go.Proofs.Ytpiekfkkhgighaa
