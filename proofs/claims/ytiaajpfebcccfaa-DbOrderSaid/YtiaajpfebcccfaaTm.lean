/-
  Terms as trees in memory, and what may be said of them in plain Lean: their size, how deep they are, whether they may be. No condition.
-/
import Derived.Test.YtiaajpfebcccfaaProg
import Derived.Test.YtiaajpfebcccfaaRowPut
namespace Go.Proofs.Ytiaajpfebcccfaa
open Go.RowKit

/-- A term. -/
inductive Tm
  | mk (k n : Int) (s : List UInt8) (args : List Tm)
def Tm.k : Tm → Int | .mk k _ _ _ => k
def Tm.n : Tm → Int | .mk _ n _ _ => n
def Tm.s : Tm → List UInt8 | .mk _ _ s _ => s
def Tm.args : Tm → List Tm | .mk _ _ _ l => l

/-- May a part be, but for its arguments? -/
def mayP (k n : Int) (s : List UInt8) (m : Nat) : Bool :=
  if k = 1 then decide (0 ≤ n ∧ s = [] ∧ m = 0) else if k = 2 then decide (s = [] ∧ m = 0) else if k = 3 then decide (n = 0 ∧ s.length ≤ 1000 ∧ m = 0)
  else if k = 4 then decide (n = 0 ∧ s.length ≤ 1000 ∧ 1 ≤ m ∧ m ≤ 255) else false
mutual
def Tm.size : Tm → Nat | .mk _ _ _ l => 1 + Tm.sizes l
def Tm.sizes : List Tm → Nat | [] => 0 | t :: r => t.size + Tm.sizes r
end
mutual
def Tm.deep : Tm → Nat | .mk _ _ _ l => 1 + Tm.deeps l
def Tm.deeps : List Tm → Nat | [] => 0 | t :: r => max t.deep (Tm.deeps r)
end
mutual
def Tm.may : Tm → Bool | .mk k n s l => mayP k n s l.length && Tm.mays l
def Tm.mays : List Tm → Bool | [] => true | t :: r => t.may && Tm.mays r
end

/-- A term's four cells. -/
structure TV where
  k : Int
  n : Int
  s : List UInt8
  A : Option Addr
  len : Nat
  cap : Nat
def encTV (x : TV) : List Value := [.int .i64 x.k, .int .i64 x.n, .string ⟨x.s.toArray⟩, .slice x.A x.len x.cap]
def tvV (x : TV) : Value := .agg #[.int .i64 x.k, .int .i64 x.n, .string ⟨x.s.toArray⟩, .slice x.A x.len x.cap]
theorem encTV_len (x : TV) : (encTV x).length = 4 := rfl
theorem encTV_one (x : TV) : ∀ u ∈ encTV x, u.oneCell' = true := by
  intro u hu
  simp [encTV] at hu
  rcases hu with rfl | rfl | rfl | rfl <;> rfl

/-- Cells that read as a term, its arguments in blocks below B. -/
inductive TermAt (w : World) (B : Nat) : TV → Tm → Prop
  | mk (x : TV) (args : List Tm) (xs : List TV) (h1 : xs.length = x.len) (h2 : args.length = x.len) (h3 : x.s.length ≤ maxLen)
      (hc : ∀ i y, xs[i]? = some y → ∃ b off, x.A = some ⟨b, off, none⟩ ∧ b < B ∧ ∀ j u, (encTV y)[j]? = some u → w.cell? ⟨b, off + i * 4 + j, none⟩ = some u)
      (ht : ∀ (i : Nat) (y : TV) (t : Tm), xs[i]? = some y → args[i]? = some t → TermAt w B y t) : TermAt w B x (.mk x.k x.n x.s args)
theorem TermAt.keep {w w' : World} {B B' : Nat} {x : TV} {t : Tm} (h : TermAt w B x t) (hB : B ≤ B') (hb : ∀ k, k < B → w'.heap[k]? = w.heap[k]?) : TermAt w' B' x t := by
  induction h with
  | mk x args xs h1 h2 h3 hc ht ih =>
    refine .mk x args xs h1 h2 h3 (fun i y hy => ?_) ih
    obtain ⟨b, off, e1, e2, e3⟩ := hc i y hy
    exact ⟨b, off, e1, by omega, fun j u hu => (World.cell?_of_block (a := ⟨b, off + i * 4 + j, none⟩) (hb b e2)).trans (e3 j u hu)⟩
theorem TermAt.blw {w w' : World} {B : Nat} {x : TV} {t : Tm} (h : TermAt w B x t) (hb : Below B w w') : TermAt w' B x t := h.keep (Nat.le_refl _) hb.block
theorem TermAt.up {w : World} {B B' : Nat} {x : TV} {t : Tm} (h : TermAt w B x t) (hB : B ≤ B') : TermAt w B' x t := h.keep hB fun _ _ => rfl
theorem TermAt.later {w w' : World} {x : TV} {t : Tm} (h : TermAt w w.heap.size x t) (hb : Below w.heap.size w w') : TermAt w' w'.heap.size x t := h.keep hb.size hb.block
theorem TermAt.leaf (w : World) (B : Nat) (k n : Int) (s : List UInt8) (A : Option Addr) (c : Nat) (hs : s.length ≤ maxLen) : TermAt w B ⟨k, n, s, A, 0, c⟩ (.mk k n s []) :=
  .mk ⟨k, n, s, A, 0, c⟩ [] [] rfl rfl hs (fun i y h => by simp at h) (fun i y t h => by simp at h)
/-- What a term's cells say of it. -/
theorem TermAt.open {w : World} {B : Nat} {x : TV} {t : Tm} (h : TermAt w B x t) : t.k = x.k ∧ t.n = x.n ∧ t.s = x.s ∧ t.args.length = x.len ∧ x.s.length ≤ maxLen ∧
    ∀ i ti, t.args[i]? = some ti → ∃ y b off, x.A = some ⟨b, off, none⟩ ∧ b < B ∧ TermAt w B y ti ∧ ∀ j u, (encTV y)[j]? = some u → w.cell? ⟨b, off + i * 4 + j, none⟩ = some u := by
  cases h with
  | mk _ args xs h1 h2 h3 hc ht =>
    refine ⟨rfl, rfl, rfl, h2, h3, fun i ti hi => ?_⟩
    have hlt := (List.getElem?_eq_some_iff.1 hi).1
    have hlt2 : i < xs.length := by rw [h1, ← h2]; exact hlt
    obtain ⟨b, off, e1, e2, e3⟩ := hc i _ (List.getElem?_eq_getElem hlt2)
    exact ⟨_, b, off, e1, e2, ht i _ ti (List.getElem?_eq_getElem hlt2) hi, e3⟩
theorem Tm.eta (t : Tm) : Tm.mk t.k t.n t.s t.args = t := by cases t; rfl
end Go.Proofs.Ytiaajpfebcccfaa
