import Derived.Test.YtiffopheamnngaaGreatDoorJT01
import Derived.Test.YtiffopheamnngaaGreatDoorJT00
import Derived.Test.YtiffopheamnngaaGreatDoorProg
namespace Go.Proofs.YtiffopheamnngaaGreatDoor
open Go.RowKit
inductive Tm
 | mk (k n : Int) (s : List UInt8) (args : List Tm)
def Tm.k : Tm → Int | .mk k _ _ _ => k
def Tm.n : Tm → Int | .mk _ n _ _ => n
def Tm.s : Tm → List UInt8 | .mk _ _ s _ => s
def Tm.args : Tm → List Tm | .mk _ _ _ l => l
def mayP (k n : Int) (s : List UInt8) (m : Nat) : Bool :=
 if k = 1 then decide (0 ≤ n ∧ s = [] ∧ m = 0) else if k = 2 then decide (s = [] ∧ m = 0) else if k = 3 then decide (n = 0 ∧ s.length ≤ 1000 ∧ m = 0)
 else if k = 4 then decide (n = 0 ∧ s.length ≤ 1000 ∧ 1 ≤ m ∧ m ≤ 255) else false
mutual
def Tm.size : Tm → Nat | .mk _ _ _ l => 1 + Tm.sizes l
def Tm.sizes : List Tm → Nat | [] => 0 | t :: r => t.size + Tm.sizes r
end
mutual
def Tm.deep : Tm → Nat | .mk _ _ _ l => 1 + Tm.deeps l
def Tm.deeps : List Tm → Nat | [] => 0 | t :: r => max t.deep (Tm.deeps r)
end
mutual
def Tm.may : Tm → Bool | .mk k n s l => mayP k n s l.length && Tm.mays l
def Tm.mays : List Tm → Bool | [] => true | t :: r => t.may && Tm.mays r
end
structure TV where
 k : Int
 n : Int
 s : List UInt8
 A : Option Addr
 len : Nat
 cap : Nat
def encTV (x : TV) : List Value := [.int .i64 x.k, .int .i64 x.n, .string ⟨x.s.toArray⟩, .slice x.A x.len x.cap]
def tvV (x : TV) : Value := .agg #[.int .i64 x.k, .int .i64 x.n, .string ⟨x.s.toArray⟩, .slice x.A x.len x.cap]
theorem encTV_len (x : TV) : (encTV x).length = 4 := rfl
theorem encTV_one (x : TV) : ∀ u ∈ encTV x, u.oneCell' = true := by
 intro u hu
 simp [encTV] at hu
 rcases hu with rfl | rfl | rfl | rfl <;> rfl
inductive TermAt (w : World) (B : Nat) : TV → Tm → Prop
 | mk (x : TV) (args : List Tm) (xs : List TV) (h1 : xs.length = x.len) (h2 : args.length = x.len) (h3 : x.s.length ≤ maxLen)
     (hc : ∀ i y, xs[i]? = some y → ∃ b off, x.A = some ⟨b, off, none⟩ ∧ b < B ∧ ∀ j u, (encTV y)[j]? = some u → w.cell? ⟨b, off + i * 4 + j, none⟩ = some u)
     (ht : ∀ (i : Nat) (y : TV) (t : Tm), xs[i]? = some y → args[i]? = some t → TermAt w B y t) : TermAt w B x (.mk x.k x.n x.s args)
theorem TermAt.keep {w w' : World} {B B' : Nat} {x : TV} {t : Tm} (h : TermAt w B x t) (hB : B ≤ B') (hb : ∀ k, k < B → w'.heap[k]? = w.heap[k]?) : TermAt w' B' x t := by
 induction h with
 | mk x args xs h1 h2 h3 hc ht ih =>
  refine .mk x args xs h1 h2 h3 (fun i y hy => ?_) ih
  obtain ⟨b, off, e1, e2, e3⟩ := hc i y hy
  exact ⟨b, off, e1, by omega, fun j u hu => (World.cell?_of_block (a := ⟨b, off + i * 4 + j, none⟩) (hb b e2)).trans (e3 j u hu)⟩
theorem TermAt.blw {w w' : World} {B : Nat} {x : TV} {t : Tm} (h : TermAt w B x t) (hb : Below B w w') : TermAt w' B x t := h.keep (Nat.le_refl _) hb.block
theorem TermAt.up {w : World} {B B' : Nat} {x : TV} {t : Tm} (h : TermAt w B x t) (hB : B ≤ B') : TermAt w B' x t := h.keep hB fun _ _ => rfl
theorem TermAt.later {w w' : World} {x : TV} {t : Tm} (h : TermAt w w.heap.size x t) (hb : Below w.heap.size w w') : TermAt w' w'.heap.size x t := h.keep hb.size hb.block
theorem TermAt.leaf (w : World) (B : Nat) (k n : Int) (s : List UInt8) (A : Option Addr) (c : Nat) (hs : s.length ≤ maxLen) : TermAt w B ⟨k, n, s, A, 0, c⟩ (.mk k n s []) :=
 .mk ⟨k, n, s, A, 0, c⟩ [] [] rfl rfl hs (fun i y h => by simp at h) (fun i y t h => by simp at h)
theorem TermAt.open {w : World} {B : Nat} {x : TV} {t : Tm} (h : TermAt w B x t) : t.k = x.k ∧ t.n = x.n ∧ t.s = x.s ∧ t.args.length = x.len ∧ x.s.length ≤ maxLen ∧
    ∀ i ti, t.args[i]? = some ti → ∃ y b off, x.A = some ⟨b, off, none⟩ ∧ b < B ∧ TermAt w B y ti ∧ ∀ j u, (encTV y)[j]? = some u → w.cell? ⟨b, off + i * 4 + j, none⟩ = some u := by
 cases h with
 | mk _ args xs h1 h2 h3 hc ht =>
  refine ⟨rfl, rfl, rfl, h2, h3, fun i ti hi => ?_⟩
  have hlt := (List.getElem?_eq_some_iff.1 hi).1
  have hlt2 : i < xs.length := by rw [h1, ← h2]; exact hlt
  obtain ⟨b, off, e1, e2, e3⟩ := hc i _ (List.getElem?_eq_getElem hlt2)
  exact ⟨_, b, off, e1, e2, ht i _ ti (List.getElem?_eq_getElem hlt2) hi, e3⟩
structure OpsF where
 pre : List UInt8 → Int × Int
 inf : List UInt8 → Int × Int × Int
 post : List UInt8 → Int × Int
structure WaitF where
 use : Int
 most : Int
 name : List UInt8
 pri : Int
 l : List Tm
structure RdS where
 at' : Nat
 wait : List WaitF
 most : Int
 hv : Bool
 t : Tm
 pri : Int
 vars : List (List UInt8 × Int)
 names : List (List UInt8 × Int)
 cnt : Int
def noTok : Tok := ⟨0, 0, 0, [], false, false⟩
def peekF (ts : List Tok) (i : Nat) : Tok := ts.getD i noTok
def isP (ts : List Tok) (i : Nat) (c : UInt8) : Bool := decide ((peekF ts i).kind = 6) && decide ((peekF ts i).s = [c])
def intT (n : Int) : Tm := .mk 2 n [] []
def negI (n : Int) : Int := if n = -9223372036854775808 then n else -n
def varT (n : Int) : Tm := .mk 1 n [] []
def atomT (s : List UInt8) : Tm := .mk 3 0 s []
def compT (s : List UInt8) (l : List Tm) : Tm := .mk 4 0 s l
def listT (l : List Tm) (tail : Tm) : Tm := l.foldr (fun x t => compT [46] [x, t]) tail
def nilT : Tm := atomT [91, 93]
def RdS.done (s : RdS) (t : Tm) (pri : Int) : RdS := { s with t := t, pri := pri, hv := true }
def RdS.go (s : RdS) (n : Nat) : RdS := { s with at' := s.at' + n }
def RdS.want (s : RdS) (most : Int) : RdS := { s with most := most, hv := false }
def RdS.again (s : RdS) (f : WaitF) (most : Int) : RdS := { s with wait := f :: s.wait, most := most, hv := false }
def RdS.await (s : RdS) (f : WaitF) (most : Int) : RdS := s.again { f with most := s.most } most
def RdS.expect (ts : List Tok) (s : RdS) (c : UInt8) : Except Nat RdS := if isP ts s.at' c then .ok (s.go 1) else .error s.at'
def argsF (ts : List Tok) (s : RdS) (name : List UInt8) : Except Nat RdS :=
 match s.expect ts 40 with
 | .error a => .error a
 | .ok s => .ok (s.await ⟨2, 0, name, 0, []⟩ 999)
def varF (s : RdS) (x : List UInt8) : RdS :=
 match s.vars.find? (fun y => decide (y.1 = x)) with
 | some y => s.done (varT y.2) 0
 | none =>
  let s' := { s with cnt := s.cnt + 1 }
  (if x = [95] then s' else { s' with vars := s.vars ++ [(x, s.cnt)], names := s.names ++ [(x, s.cnt)] }).done (varT s.cnt) 0
def pairF (ts : List Tok) (s : RdS) (c : UInt8) : Except Nat RdS :=
 let name := (peekF ts s.at').s ++ [c]
 let opn := (peekF ts (s.at' + 1)).opn
 if opn then argsF ts (s.go 2) name else .ok ((s.go 2).done (atomT name) 0)
def punctF (ts : List Tok) (s : RdS) (x : List UInt8) : Except Nat RdS :=
 if x = [40] then .ok ((s.go 1).await ⟨0, 0, [], 0, []⟩ 1200)
 else if x = [91] then (if isP ts (s.at' + 1) 93 then pairF ts s 93 else .ok ((s.go 1).await ⟨3, 0, [], 0, []⟩ 999))
 else if x = [123] then (if isP ts (s.at' + 1) 125 then pairF ts s 125 else .ok ((s.go 1).await ⟨1, 0, [], 0, []⟩ 1200))
 else .error s.at'
def beginsF (o : OpsF) (t : Tok) : Bool :=
 if t.kind = 3 ∨ t.kind = 4 ∨ t.kind = 5 then true
 else if t.kind = 6 then decide (t.s = [40] ∨ t.s = [91] ∨ t.s = [123])
 else if t.kind = 1 ∨ t.kind = 2 then
  (if t.opn then true else decide (((o.inf t.s).1 = 0 ∧ (o.post t.s).1 = 0) ∨ 0 < (o.pre t.s).1))
 else false
def atomF (o : OpsF) (ts : List Tok) (s : RdS) (t : Tok) : Except Nat RdS :=
 let n := peekF ts (s.at' + 1)
 if t.kind = 1 ∧ t.s = [45] ∧ n.kind = 3 ∧ n.tight = true then .ok ((s.go 2).done (intT (negI n.n)) 0)
 else if t.opn then argsF ts (s.go 1) t.s
 else if 0 < (o.pre t.s).1 ∧ (o.pre t.s).1 ≤ s.most ∧ beginsF o n = true then .ok ((s.go 1).await ⟨5, 0, t.s, (o.pre t.s).1, []⟩ (o.pre t.s).2)
 else .ok ((s.go 1).done (atomT t.s) 0)
def primaryF (o : OpsF) (ts : List Tok) (s : RdS) : Except Nat RdS :=
 let t := peekF ts s.at'
 if t.kind = 3 then (if t.n < 0 then .error s.at' else .ok ((s.go 1).done (intT t.n) 0))
 else if t.kind = 4 then .ok (varF (s.go 1) t.s)
 else if t.kind = 5 then .ok ((s.go 1).done (listT (t.s.map fun c => intT c.toNat) nilT) 0)
 else if t.kind = 6 then punctF ts s t.s
 else if t.kind = 1 ∨ t.kind = 2 then atomF o ts s t
 else .error s.at'
def operatorF (o : OpsF) (ts : List Tok) (s : RdS) : Option RdS :=
 let t := peekF ts s.at'
 if t.kind ≠ 1 ∧ t.kind ≠ 2 ∧ isP ts s.at' 44 = false then none
 else if 0 < (o.inf t.s).1 ∧ (o.inf t.s).1 ≤ s.most ∧ s.pri ≤ (o.inf t.s).2.1 then some ((s.go 1).await ⟨6, 0, t.s, (o.inf t.s).1, [s.t]⟩ (o.inf t.s).2.2)
 else if 0 < (o.post t.s).1 ∧ (o.post t.s).1 ≤ s.most ∧ s.pri ≤ (o.post t.s).2 then some ((s.go 1).done (compT t.s [s.t]) (o.post t.s).1)
 else none
def backG (ts : List Tok) (s : RdS) (f : WaitF) : Except Nat RdS :=
 if f.use = 0 then (s.expect ts 41).map fun s => s.done s.t 0
 else if f.use = 1 then (s.expect ts 125).map fun s => s.done (compT [123, 125] [s.t]) 0
 else if f.use = 5 then .ok (s.done (compT f.name [s.t]) f.pri)
 else if f.use = 6 then .ok (s.done (compT f.name (f.l ++ [s.t])) f.pri)
 else if f.use = 2 then
  let f := { f with l := f.l ++ [s.t] }
  (if isP ts s.at' 44 then .ok ((s.go 1).again f 999) else (s.expect ts 41).map fun s => s.done (compT f.name f.l) 0)
 else if f.use = 3 then
  let f := { f with l := f.l ++ [s.t] }
  (if isP ts s.at' 44 then .ok ((s.go 1).again f 999)
  else if isP ts s.at' 124 then .ok ((s.go 1).again { f with use := 4 } 999)
  else (s.expect ts 93).map fun s => s.done (listT f.l nilT) 0)
 else if f.use = 4 then (s.expect ts 93).map fun s => s.done (listT f.l s.t) 0
 else .ok s
def backF (ts : List Tok) (s : RdS) (f : WaitF) (r : List WaitF) : Except Nat RdS := backG ts { s with wait := r, most := f.most } f
inductive RdO
 | on (s : RdS)
 | fin (s : RdS)
 | bad (a : Nat)
def toO : Except Nat RdS → RdO
 | .ok s => .on s
 | .error a => .bad a
def roundF (o : OpsF) (ts : List Tok) (s : RdS) : RdO :=
 if s.hv = false then toO (primaryF o ts s)
 else match operatorF o ts s with
  | some s => .on s
  | none =>
   match s.wait with
   | f :: r => toO (backF ts s f r)
   | [] => if (peekF ts s.at').kind ≠ 7 then .bad s.at' else .fin s
def leftF (ts : List Tok) (s : RdS) : Nat := 3 * (ts.length - s.at') + s.wait.length + (if s.hv then 0 else 1)
def runF (o : OpsF) (ts : List Tok) : Nat → RdS → RdO
 | 0, s => .on s
 | n + 1, s =>
  match roundF o ts s with
  | .on s => runF o ts n s
  | .fin s => .fin s
  | .bad a => .bad a
def startF (i : Nat) : RdS := ⟨i, [], 1200, false, .mk 0 0 [] [], 0, [], [], 0⟩
def behindF : List Tok → Nat → Nat
 | [], i => i
 | t :: r, i => if t.kind = 7 then i + 1 else if t.kind = 0 then i else behindF r (i + 1)
structure ClauseF where
 t : Tm
 names : List (List UInt8 × Int)
 line : Int
 next : Int
def noTm : Tm := .mk 0 0 [] []
def failedF (ts : List Tok) (a : Nat) : ClauseF :=
 if ts.length ≤ a then ⟨noTm, [], 0, (ts.length : Int)⟩ else ⟨noTm, [], (peekF ts a).line, (behindF (ts.drop a) a : Int)⟩
def readF (o : OpsF) (ts : List Tok) (i : Int) : ClauseF × Int :=
 if i < 0 ∨ (ts.length : Int) ≤ i ∨ (peekF ts i.toNat).kind = 0 then (⟨noTm, [], 0, 0⟩, 7)
 else match runF o ts (leftF ts (startF i.toNat) + 1) (startF i.toNat) with
  | .on _ => (⟨noTm, [], 0, 0⟩, 7)
  | .bad a => (failedF ts a, 6)
  | .fin s =>
   if s.t.may = false then (⟨noTm, [], (peekF ts i.toNat).line, (s.at' : Int) + 1⟩, 3)
   else if 2000 < s.t.deep then (⟨noTm, [], (peekF ts i.toNat).line, (s.at' : Int) + 1⟩, 4)
   else if 20000 < s.t.size then (⟨noTm, [], (peekF ts i.toNat).line, (s.at' : Int) + 1⟩, 3)
   else (⟨s.t, s.names, (peekF ts i.toNat).line, (s.at' : Int) + 1⟩, 0)
theorem peek_lt {ts : List Tok} {i : Nat} (h : (peekF ts i).kind ≠ 0) : i < ts.length := by
 rcases Nat.lt_or_ge i ts.length with h1 | h1
 ·exact h1
 ·unfold peekF at h
  rw [List.getD_eq_getElem?_getD, List.getElem?_eq_none h1] at h
  exact absurd rfl h
theorem isP_lt {ts : List Tok} {i : Nat} {c : UInt8} (h : isP ts i c = true) : i < ts.length := by
 apply peek_lt
 unfold isP at h
 simp at h
 omega
theorem expect_ok {ts : List Tok} {s s' : RdS} {c : UInt8} (h : s.expect ts c = .ok s') : s' = s.go 1 ∧ s.at' < ts.length := by
 unfold RdS.expect at h
 split at h
 ·rename_i hp
  injection h with h
  exact ⟨h.symm, isP_lt hp⟩
 ·cases h
theorem expect_map {ts : List Tok} {s s' : RdS} {c : UInt8} {f : RdS → RdS} (h : (s.expect ts c).map f = .ok s') : s' = f (s.go 1) ∧ s.at' < ts.length := by
 cases he : s.expect ts c with
 | error a => rw [he] at h; cases h
 | ok x =>
  rw [he] at h
  obtain ⟨rfl, h2⟩ := expect_ok he
  injection h with h
  exact ⟨h.symm, h2⟩
theorem args_ok {ts : List Tok} {s s' : RdS} {n : List UInt8} (h : argsF ts s n = .ok s') : s' = (s.go 1).await ⟨2, 0, n, 0, []⟩ 999 ∧ s.at' < ts.length := by
 unfold argsF at h
 cases he : s.expect ts 40 with
 | error a => rw [he] at h; cases h
 | ok x =>
  rw [he] at h
  obtain ⟨rfl, h2⟩ := expect_ok he
  injection h with h
  exact ⟨h.symm, h2⟩
theorem left_done (ts : List Tok) (s : RdS) (t : Tm) (p : Int) : leftF ts (s.done t p) = 3 * (ts.length - s.at') + s.wait.length := rfl
theorem left_await (ts : List Tok) (s : RdS) (f : WaitF) (m : Int) : leftF ts (s.await f m) = 3 * (ts.length - s.at') + (s.wait.length + 1) + 1 := rfl
theorem left_again (ts : List Tok) (s : RdS) (f : WaitF) (m : Int) : leftF ts (s.again f m) = 3 * (ts.length - s.at') + (s.wait.length + 1) + 1 := rfl
theorem left_new {ts : List Tok} {s : RdS} (h : s.hv = false) : leftF ts s = 3 * (ts.length - s.at') + s.wait.length + 1 := by unfold leftF; rw [h]; rfl
theorem left_old {ts : List Tok} {s : RdS} (h : s.hv = true) : leftF ts s = 3 * (ts.length - s.at') + s.wait.length := by unfold leftF; rw [h]; rfl
theorem go_at (s : RdS) (n : Nat) : (s.go n).at' = s.at' + n := rfl
theorem go_wait (s : RdS) (n : Nat) : (s.go n).wait = s.wait := rfl
theorem var_at (s : RdS) (x : List UInt8) : (varF s x).at' = s.at' ∧ (varF s x).wait = s.wait ∧ (varF s x).hv = true := by
 unfold varF
 split
 ·exact ⟨rfl, rfl, rfl⟩
 ·dsimp only
  split
  ·exact ⟨rfl, rfl, rfl⟩
  ·exact ⟨rfl, rfl, rfl⟩
theorem pair_less {ts : List Tok} {s s' : RdS} {c : UInt8} (hl : s.at' + 1 < ts.length) (h : pairF ts s c = .ok s') : leftF ts s' < 3 * (ts.length - s.at') + s.wait.length + 1 := by
 unfold pairF at h
 dsimp only at h
 split at h
 ·obtain ⟨rfl, h2⟩ := args_ok h
  rw [left_await, go_at, go_at, go_wait, go_wait]
  rw [go_at] at h2
  omega
 ·injection h with h
  subst h
  rw [left_done, go_at, go_wait]
  omega
theorem punct_less {ts : List Tok} {s s' : RdS} {x : List UInt8} (hl : s.at' < ts.length) (h : punctF ts s x = .ok s') : leftF ts s' < 3 * (ts.length - s.at') + s.wait.length + 1 := by
 unfold punctF at h
 split at h
 ·injection h with h
  subst h
  rw [left_await, go_at, go_wait]
  omega
 ·split at h
  ·split at h
   ·rename_i hp
    exact pair_less (isP_lt hp) h
   ·injection h with h
    subst h
    rw [left_await, go_at, go_wait]
    omega
  ·split at h
   ·split at h
    ·rename_i hp
     exact pair_less (isP_lt hp) h
    ·injection h with h
     subst h
     rw [left_await, go_at, go_wait]
     omega
   ·cases h
theorem atom_less {o : OpsF} {ts : List Tok} {s s' : RdS} {t : Tok} (hl : s.at' < ts.length) (h : atomF o ts s t = .ok s') : leftF ts s' < 3 * (ts.length - s.at') + s.wait.length + 1 := by
 unfold atomF at h
 dsimp only at h
 split at h
 ·injection h with h
  subst h
  rw [left_done, go_at, go_wait]
  omega
 ·split at h
  ·obtain ⟨rfl, h2⟩ := args_ok h
   rw [left_await, go_at, go_at, go_wait, go_wait]
   rw [go_at] at h2
   omega
  ·split at h
   ·injection h with h
    subst h
    rw [left_await, go_at, go_wait]
    omega
   ·injection h with h
    subst h
    rw [left_done, go_at, go_wait]
    omega
theorem primary_less {o : OpsF} {ts : List Tok} {s s' : RdS} (h : primaryF o ts s = .ok s') : leftF ts s' < 3 * (ts.length - s.at') + s.wait.length + 1 := by
 unfold primaryF at h
 dsimp only at h
 split at h
 ·rename_i hk
  have hl : s.at' < ts.length := peek_lt (by rw [hk]; decide)
  split at h
  ·cases h
  ·injection h with h
   subst h
   rw [left_done, go_at, go_wait]
   omega
 ·split at h
  ·rename_i hk
   have hl : s.at' < ts.length := peek_lt (by rw [hk]; decide)
   injection h with h
   subst h
   obtain ⟨h1, h2, h3⟩ := var_at (s.go 1) (peekF ts s.at').s
   rw [left_old h3, h1, h2, go_at, go_wait]
   omega
  ·split at h
   ·rename_i hk
    have hl : s.at' < ts.length := peek_lt (by rw [hk]; decide)
    injection h with h
    subst h
    rw [left_done, go_at, go_wait]
    omega
   ·split at h
    ·rename_i hk
     exact punct_less (peek_lt (by rw [hk]; decide)) h
    ·split at h
     ·rename_i hk
      exact atom_less (peek_lt (by rcases hk with hk | hk <;> rw [hk] <;> decide)) h
     ·cases h
theorem operator_less {o : OpsF} {ts : List Tok} {s s' : RdS} (h : operatorF o ts s = some s') : leftF ts s' < 3 * (ts.length - s.at') + s.wait.length := by
 unfold operatorF at h
 dsimp only at h
 split at h
 ·cases h
 ·rename_i hk
  have hl : s.at' < ts.length := by
   by_cases h1 : (peekF ts s.at').kind = 1
   ·exact peek_lt (by rw [h1]; decide)
   ·by_cases h2 : (peekF ts s.at').kind = 2
    ·exact peek_lt (by rw [h2]; decide)
    ·cases h3 : isP ts s.at' 44 with
     | true => exact isP_lt h3
     | false => exact absurd ⟨h1, h2, h3⟩ hk
  split at h
  ·injection h with h
   subst h
   rw [left_await, go_at, go_wait]
   omega
  ·split at h
   ·injection h with h
    subst h
    rw [left_done, go_at, go_wait]
    omega
   ·cases h
theorem backG_less {ts : List Tok} {s s' : RdS} {f : WaitF} (hv : s.hv = true) (h : backG ts s f = .ok s') : leftF ts s' < 3 * (ts.length - s.at') + (s.wait.length + 1) := by
 unfold backG at h
 dsimp only at h
 split at h
 ·obtain ⟨rfl, h2⟩ := expect_map h
  rw [left_done]
  simp only [RdS.go] at h2 ⊢
  omega
 ·split at h
  ·obtain ⟨rfl, h2⟩ := expect_map h
   rw [left_done]
   simp only [RdS.go] at h2 ⊢
   omega
  ·split at h
   ·injection h with h
    subst h
    rw [left_done]
    omega
   ·split at h
    ·injection h with h
     subst h
     rw [left_done]
     omega
    ·split at h
     ·split at h
      ·rename_i hp
       have := isP_lt hp
       injection h with h
       subst h
       rw [left_again]
       simp only [RdS.go] at this ⊢
       omega
      ·obtain ⟨rfl, h2⟩ := expect_map h
       rw [left_done]
       simp only [RdS.go] at h2 ⊢
       omega
     ·split at h
      ·split at h
       ·rename_i hp
        have := isP_lt hp
        injection h with h
        subst h
        rw [left_again]
        simp only [RdS.go] at this ⊢
        omega
       ·split at h
        ·rename_i hp
         have := isP_lt hp
         injection h with h
         subst h
         rw [left_again]
         simp only [RdS.go] at this ⊢
         omega
        ·obtain ⟨rfl, h2⟩ := expect_map h
         rw [left_done]
         simp only [RdS.go] at h2 ⊢
         omega
      ·split at h
       ·obtain ⟨rfl, h2⟩ := expect_map h
        rw [left_done]
        simp only [RdS.go] at h2 ⊢
        omega
       ·injection h with h
        subst h
        rw [left_old hv]
        omega
theorem back_less {ts : List Tok} {s s' : RdS} {f : WaitF} {r : List WaitF} (hv : s.hv = true) (h : backF ts s f r = .ok s') : leftF ts s' < 3 * (ts.length - s.at') + (r.length + 1) := backG_less (s := { s with wait := r, most := f.most }) hv h
theorem round_less {o : OpsF} {ts : List Tok} {s s' : RdS} (h : roundF o ts s = .on s') : leftF ts s' < leftF ts s := by
 unfold roundF at h
 split at h
 ·rename_i hv
  rw [left_new hv]
  cases hp : primaryF o ts s with
  | error a => rw [hp] at h; cases h
  | ok x =>
   rw [hp] at h
   injection h with h
   subst h
   exact primary_less hp
 ·rename_i hv
  have hv : s.hv = true := by simpa using hv
  rw [left_old hv]
  split at h
  ·rename_i x hx
   injection h with h
   subst h
   exact operator_less hx
  ·split at h
   ·rename_i f r hw
    cases hb : backF ts s f r with
    | error a => rw [hb] at h; cases h
    | ok x =>
     rw [hb] at h
     injection h with h
     subst h
     rw [hw]
     exact back_less hv hb
   ·split at h
    ·cases h
    ·cases h
theorem run_step (o : OpsF) (ts : List Tok) (n : Nat) (s : RdS) : runF o ts (n + 1) s = match roundF o ts s with
    | .on s => runF o ts n s
    | .fin s => .fin s
    | .bad a => .bad a := rfl
theorem run_more (o : OpsF) (ts : List Tok) : ∀ (n m : Nat) (s : RdS), leftF ts s < n → leftF ts s < m → runF o ts n s = runF o ts m s
 | 0, _, _, h, _ => absurd h (Nat.not_lt_zero _)
 | _, 0, _, _, h => absurd h (Nat.not_lt_zero _)
 | n + 1, m + 1, s, h1, h2 => by
  rw [run_step, run_step]
  cases hr : roundF o ts s with
  | on s' =>
   have := round_less hr
   exact run_more o ts n m s' (by omega) (by omega)
  | fin s' => rfl
  | bad a => rfl
def endF (o : OpsF) (ts : List Tok) (s : RdS) : RdO := runF o ts (leftF ts s + 1) s
theorem end_step (o : OpsF) (ts : List Tok) (s : RdS) : endF o ts s = match roundF o ts s with
    | .on s => endF o ts s
    | .fin s => .fin s
    | .bad a => .bad a := by
 unfold endF
 rw [run_step]
 cases hr : roundF o ts s with
 | on s' =>
  have := round_less hr
  exact run_more o ts _ _ s' (by omega) (by omega)
 | fin s' => rfl
 | bad a => rfl
structure QS where
 at' : Nat
 cnt : Int
 names : List (List UInt8 × Int)
def QS.go (s : QS) (n : Nat) : QS := { s with at' := s.at' + n }
abbrev QT := Int → QS → Except Nat ((Tm × Int) × QS)
def needQ (ts : List Tok) (s : QS) (c : UInt8) : Except Nat QS := if isP ts s.at' c then .ok (s.go 1) else .error s.at'
def varQ (s : QS) (x : List UInt8) : Tm × QS :=
 if x = [95] then (varT s.cnt, { s with cnt := s.cnt + 1 })
 else match s.names.find? (fun y => decide (y.1 = x)) with
  | some y => (varT y.2, s)
  | none => (varT s.cnt, { s with cnt := s.cnt + 1, names := s.names ++ [(x, s.cnt)] })
def argsQ (ts : List Tok) (T : QT) : Nat → QS → List Tm → Except Nat (List Tm × QS)
 | 0, s, _ => .error s.at'
 | n + 1, s, l =>
  match T 999 s with
  | .error a => .error a
  | .ok (x, s1) => if isP ts s1.at' 44 then argsQ ts T n (s1.go 1) (l ++ [x.1]) else .ok (l ++ [x.1], s1)
def namedQ (o : OpsF) (ts : List Tok) (T : QT) (nm : List UInt8) (opn may : Bool) (most : Int) (s : QS) : Except Nat ((Tm × Int) × QS) :=
 if opn = true then
  match needQ ts s 40 with
  | .error a => .error a
  | .ok s1 =>
   match argsQ ts T (ts.length + 1) s1 [] with
   | .error a => .error a
   | .ok (l, s2) => (needQ ts s2 41).map fun s3 => ((compT nm l, 0), s3)
 else if may = true ∧ 0 < (o.pre nm).1 ∧ (o.pre nm).1 ≤ most ∧ beginsF o (peekF ts s.at') = true then
  match T (o.pre nm).2 s with
  | .error a => .error a
  | .ok (x, s1) => .ok ((compT nm [x.1], (o.pre nm).1), s1)
 else .ok ((atomT nm, 0), s)
def parenQ (ts : List Tok) (T : QT) (s : QS) : Except Nat ((Tm × Int) × QS) :=
 match T 1200 (s.go 1) with
 | .error a => .error a
 | .ok (x, s1) => (needQ ts s1 41).map fun s2 => ((x.1, 0), s2)
def listQ (ts : List Tok) (T : QT) (s : QS) : Except Nat ((Tm × Int) × QS) :=
 match argsQ ts T (ts.length + 1) (s.go 1) [] with
 | .error a => .error a
 | .ok (l, s1) =>
  if isP ts s1.at' 124 then
   match T 999 (s1.go 1) with
   | .error a => .error a
   | .ok (y, s2) => (needQ ts s2 93).map fun s3 => ((listT l y.1, 0), s3)
  else (needQ ts s1 93).map fun s2 => ((listT l nilT, 0), s2)
def braceQ (ts : List Tok) (T : QT) (s : QS) : Except Nat ((Tm × Int) × QS) :=
 match T 1200 (s.go 1) with
 | .error a => .error a
 | .ok (x, s1) => (needQ ts s1 125).map fun s2 => ((compT [123, 125] [x.1], 0), s2)
def primaryQ (o : OpsF) (ts : List Tok) (T : QT) (most : Int) (s : QS) : Except Nat ((Tm × Int) × QS) :=
 let t := peekF ts s.at'
 if t.kind = 3 then (if t.n < 0 then .error s.at' else .ok ((intT t.n, 0), s.go 1))
 else if t.kind = 4 then .ok (((varQ (s.go 1) t.s).1, 0), (varQ (s.go 1) t.s).2)
 else if t.kind = 5 then .ok ((listT (t.s.map fun c => intT c.toNat) nilT, 0), s.go 1)
 else if t.kind = 6 then
  (if t.s = [40] then parenQ ts T s
  else if t.s = [91] then (if isP ts (s.at' + 1) 93 then namedQ o ts T [91, 93] (peekF ts (s.at' + 1)).opn false most (s.go 2) else listQ ts T s)
  else if t.s = [123] then (if isP ts (s.at' + 1) 125 then namedQ o ts T [123, 125] (peekF ts (s.at' + 1)).opn false most (s.go 2) else braceQ ts T s)
  else .error s.at')
 else if t.kind = 1 ∨ t.kind = 2 then
  (if t.kind = 1 ∧ t.s = [45] ∧ (peekF ts (s.at' + 1)).kind = 3 ∧ (peekF ts (s.at' + 1)).tight = true then .ok ((intT (negI (peekF ts (s.at' + 1)).n), 0), s.go 2)
  else namedQ o ts T t.s t.opn true most (s.go 1))
 else .error s.at'
def loopQ (o : OpsF) (ts : List Tok) (T : QT) (most : Int) : Nat → Tm → Int → QS → Except Nat ((Tm × Int) × QS)
 | 0, _, _, s => .error s.at'
 | n + 1, x, pri, s =>
  let t := peekF ts s.at'
  if t.kind ≠ 1 ∧ t.kind ≠ 2 ∧ isP ts s.at' 44 = false then .ok ((x, pri), s)
  else if 0 < (o.inf t.s).1 ∧ (o.inf t.s).1 ≤ most ∧ pri ≤ (o.inf t.s).2.1 then
   match T (o.inf t.s).2.2 (s.go 1) with
   | .error a => .error a
   | .ok (y, s1) => loopQ o ts T most n (compT t.s [x, y.1]) (o.inf t.s).1 s1
  else if 0 < (o.post t.s).1 ∧ (o.post t.s).1 ≤ most ∧ pri ≤ (o.post t.s).2 then loopQ o ts T most n (compT t.s [x]) (o.post t.s).1 (s.go 1)
  else .ok ((x, pri), s)
def termQ (o : OpsF) (ts : List Tok) : Nat → QT
 | 0 => fun _ s => .error s.at'
 | n + 1 => fun most s =>
  match primaryQ o ts (termQ o ts n) most s with
  | .error a => .error a
  | .ok (x, s1) => loopQ o ts (termQ o ts n) most (ts.length + 1) x.1 x.2 s1
def readQ (o : OpsF) (ts : List Tok) (i : Int) : ClauseF × Int :=
 if i < 0 ∨ (ts.length : Int) ≤ i ∨ (peekF ts i.toNat).kind = 0 then (⟨noTm, [], 0, 0⟩, 7)
 else match termQ o ts (ts.length + 1) 1200 ⟨i.toNat, 0, []⟩ with
  | .error a => (failedF ts a, 6)
  | .ok (x, q) =>
   if (peekF ts q.at').kind ≠ 7 then (failedF ts q.at', 6)
   else if x.1.may = false then (⟨noTm, [], (peekF ts i.toNat).line, (q.at' : Int) + 1⟩, 3)
   else if 2000 < x.1.deep then (⟨noTm, [], (peekF ts i.toNat).line, (q.at' : Int) + 1⟩, 4)
   else if 20000 < x.1.size then (⟨noTm, [], (peekF ts i.toNat).line, (q.at' : Int) + 1⟩, 3)
   else (⟨x.1, q.names, (peekF ts i.toNat).line, (q.at' : Int) + 1⟩, 0)
/-! The two readers. -/
def contE (o : OpsF) (ts : List Tok) : Except Nat RdS → RdO
 | .ok s => endF o ts s
 | .error a => .bad a
theorem end_prim {o : OpsF} {ts : List Tok} {s : RdS} (h : s.hv = false) : endF o ts s = contE o ts (primaryF o ts s) := by
 rw [end_step]
 unfold roundF
 rw [if_pos h]
 cases primaryF o ts s <;> rfl
theorem end_back {o : OpsF} {ts : List Tok} {s : RdS} {f : WaitF} {r : List WaitF} (h : s.hv = true) (ho : operatorF o ts s = none) (hw : s.wait = f :: r) : endF o ts s = contE o ts (backF ts s f r) := by
 rw [end_step]
 unfold roundF
 rw [if_neg (by rw [h]; decide), ho, hw]
 cases hb : backF ts s f r <;> simp [toO, hb, contE]
theorem end_op {o : OpsF} {ts : List Tok} {s s' : RdS} (h : s.hv = true) (ho : operatorF o ts s = some s') : endF o ts s = endF o ts s' := by
 rw [end_step]
 unfold roundF
 rw [if_neg (by rw [h]; decide), ho]
structure Fit (s : RdS) (q : QS) : Prop where
 at' : s.at' = q.at'
 cnt : s.cnt = q.cnt
 names : s.names = q.names
 vars : s.vars = q.names
 no : ∀ y ∈ q.names, y.1 ≠ [95]
def RdS.put (s : RdS) (q : QS) (x : Tm) (p : Int) : RdS := { s with at' := q.at', cnt := q.cnt, names := q.names, vars := q.names, hv := true, t := x, pri := p }
theorem Fit.go {s : RdS} {q : QS} (h : Fit s q) (n : Nat) : Fit (s.go n) (q.go n) := ⟨by simp only [RdS.go, QS.go, h.at'], h.cnt, h.names, h.vars, h.no⟩
theorem done_put {s : RdS} {q : QS} (h : Fit s q) (x : Tm) (p : Int) : s.done x p = s.put q x p := by
 obtain ⟨h1, h2, h3, h4, -⟩ := h
 unfold RdS.done RdS.put
 rw [← h1, ← h2, ← h3]
 congr 1
 rw [h3, h4]
theorem need_expect {ts : List Tok} {s : RdS} {q : QS} (h : Fit s q) (c : UInt8) : (isP ts s.at' c = true ∧ s.expect ts c = .ok (s.go 1) ∧ needQ ts q c = .ok (q.go 1)) ∨ (isP ts s.at' c = false ∧ s.expect ts c = .error q.at' ∧ needQ ts q c = .error q.at') := by
 unfold RdS.expect needQ
 rw [← h.at']
 cases hp : isP ts s.at' c with
 | true => exact .inl ⟨rfl, rfl, rfl⟩
 | false => exact .inr ⟨rfl, rfl, rfl⟩
def SimT (o : OpsF) (ts : List Tok) (T : QT) (n : Nat) : Prop :=
 ∀ (s : RdS) (q : QS), s.hv = false → Fit s q → ts.length - q.at' < n →
  (∀ a, T s.most q = .error a → endF o ts s = .bad a) ∧
  (∀ x q', T s.most q = .ok (x, q') → (∀ y ∈ q'.names, y.1 ≠ [95]) ∧ q.at' < q'.at' ∧ operatorF o ts (s.put q' x.1 x.2) = none ∧ endF o ts s = endF o ts (s.put q' x.1 x.2))
theorem var_sim {s : RdS} {q : QS} (h : Fit s q) (x : List UInt8) : varF s x = s.put (varQ q x).2 (varQ q x).1 0 ∧ (∀ y ∈ (varQ q x).2.names, y.1 ≠ [95]) ∧ (varQ q x).2.at' = q.at' := by
 obtain ⟨h1, h2, h3, h4, h5⟩ := h
 unfold varF varQ
 rw [h4]
 by_cases hx : x = [95]
 ·subst hx
  have hn : q.names.find? (fun y => decide (y.1 = [95])) = none := by
   rw [List.find?_eq_none]
   exact fun y hy e => h5 y hy (by simpa using e)
  rw [hn]
  simp only [if_true]
  refine ⟨?_, h5, trivial⟩
  unfold RdS.put RdS.done
  simp only [h1, h2, h3]
 ·rw [if_neg hx]
  cases hf : q.names.find? (fun y => decide (y.1 = x)) with
  | some y =>
   refine ⟨?_, h5, rfl⟩
   unfold RdS.put RdS.done
   simp only [h1, h2, h3, h4]
  | none =>
   simp only [if_neg hx]
   refine ⟨?_, ?_, trivial⟩
   ·unfold RdS.put RdS.done
    simp only [h1, h2, h3]
   ·intro y hy
    rcases List.mem_append.1 hy with hy | hy
    ·exact h5 y hy
    ·rw [List.mem_singleton.1 hy]
     exact hx
theorem isP_at {ts : List Tok} {i : Nat} {c : UInt8} (h : isP ts i c = true) : i < ts.length := isP_lt h
theorem args_sim {o : OpsF} {ts : List Tok} {T : QT} {n : Nat} (hT : SimT o ts T n) : ∀ (k : Nat) (s : RdS) (q : QS) (f : WaitF) (r : List WaitF), s.hv = false → s.most = 999 → s.wait = f :: r → (f.use = 2 ∨ f.use = 3) → Fit s q → ts.length - q.at' < n → ts.length - q.at' < k →
    (∀ a, argsQ ts T k q f.l = .error a → endF o ts s = .bad a) ∧
    (∀ l q', argsQ ts T k q f.l = .ok (l, q') → (∀ y ∈ q'.names, y.1 ≠ [95]) ∧ q.at' < q'.at' ∧ isP ts q'.at' 44 = false ∧ ∃ l0 x p, l = l0 ++ [x] ∧ operatorF o ts ({ s with wait := { f with l := l0 } :: r }.put q' x p) = none ∧ endF o ts s = endF o ts ({ s with wait := { f with l := l0 } :: r }.put q' x p))
 | 0, _, _, _, _, _, _, _, _, _, _, hk => absurd hk (Nat.not_lt_zero _)
 | k + 1, s, q, f, r, hv, hm, hw, hu, hF, hn, hk => by
  obtain ⟨t1, t2⟩ := hT s q hv hF hn
  rw [hm] at t1 t2
  unfold argsQ
  cases hx : T 999 q with
  | error a =>
   refine ⟨fun a' e => ?_, fun l q' e => by cases e⟩
   injection e with e
   rw [← e]
   exact t1 a hx
  | ok xq =>
   obtain ⟨x, q1⟩ := xq
   obtain ⟨n1, lt1, op1, e1⟩ := t2 x q1 hx
   dsimp only
   cases hp : isP ts q1.at' 44 with
   | false =>
    rw [if_neg (by decide)]
    refine ⟨fun a e => (by cases e), fun l q' e => ?_⟩
    injection e with e
    injection e with el eq
    subst el eq
    have hs : { s with wait := { f with l := f.l } :: r } = s := by rw [← hw]
    exact ⟨n1, lt1, hp, f.l, x.1, x.2, rfl, by rw [hs]; exact op1, by rw [hs]; exact e1⟩
   | true =>
    rw [if_pos rfl]
    have hlt := isP_at hp
    have hb : backF ts (s.put q1 x.1 x.2) f r = .ok ((({ (s.put q1 x.1 x.2) with wait := r, most := f.most }).go 1).again { f with l := f.l ++ [x.1] } 999) := by
     unfold backF backG
     rcases hu with hu | hu <;> simp [hu, RdS.put, hp]
    have e2 := end_back (s := s.put q1 x.1 x.2) rfl op1 (by exact hw)
    rw [hb] at e2
    obtain ⟨i1, i2⟩ := args_sim hT k ((({ (s.put q1 x.1 x.2) with wait := r, most := f.most }).go 1).again { f with l := f.l ++ [x.1] } 999) (q1.go 1) { f with l := f.l ++ [x.1] } r rfl rfl rfl hu ⟨rfl, rfl, rfl, rfl, n1⟩ (by simp only [QS.go]; omega) (by simp only [QS.go]; omega)
    refine ⟨fun a e => ?_, fun l q' e => ?_⟩
    ·rw [e1, e2]
     exact i1 a e
    ·obtain ⟨j1, j2, j3, l0, x', p', j4, j5, j6⟩ := i2 l q' e
     refine ⟨j1, by simp only [QS.go] at j2; omega, j3, l0, x', p', j4, ?_, ?_⟩
     ·rw [← j5]
      congr 1
      simp only [RdS.put, RdS.again, RdS.go, hm]
     ·rw [e1, e2]
      show endF o ts _ = _
      rw [j6]
      congr 1
      simp only [RdS.put, RdS.again, RdS.go, hm]
structure Meet (o : OpsF) (ts : List Tok) (s : RdS) (q : QS) (M : RdO) (E : Except Nat ((Tm × Int) × QS)) : Prop where
 bad : ∀ a, E = .error a → M = .bad a
 good : ∀ x q', E = .ok (x, q') → (∀ y ∈ q'.names, y.1 ≠ [95]) ∧ q.at' < q'.at' ∧ M = endF o ts (s.put q' x.1 x.2)
theorem Meet.err {o : OpsF} {ts : List Tok} {s : RdS} {q : QS} {M : RdO} {a : Nat} (h : M = .bad a) : Meet o ts s q M (.error a) :=
 ⟨fun b e => by injection e with e; rw [← e]; exact h, fun _ _ e => by cases e⟩
theorem Meet.ok {o : OpsF} {ts : List Tok} {s : RdS} {q q' : QS} {M : RdO} {x : Tm} {p : Int} (h1 : ∀ y ∈ q'.names, y.1 ≠ [95]) (h2 : q.at' < q'.at') (h3 : M = endF o ts (s.put q' x p)) : Meet o ts s q M (.ok ((x, p), q')) :=
 ⟨fun _ e => (by cases e), fun y r e => by
  injection e with e
  injection e with e1 e2
  subst e1 e2
  exact ⟨h1, h2, h3⟩⟩
theorem need_meet {o : OpsF} {ts : List Tok} {s s1 : RdS} {q q1 : QS} {c : UInt8} {x : Tm} (g : RdS → RdS) (hF : Fit s1 q1) (hlt : q.at' ≤ q1.at') (hg : g (s1.go 1) = s.put (q1.go 1) x 0) :
    Meet o ts s q (contE o ts ((s1.expect ts c).map g)) ((needQ ts q1 c).map fun q2 => ((x, 0), q2)) := by
 rcases need_expect (ts := ts) hF c with ⟨-, h2, h3⟩ | ⟨-, h2, h3⟩
 ·rw [h2, h3]
  refine Meet.ok hF.no (by simp only [QS.go]; omega) ?_
  show endF o ts (g (s1.go 1)) = _
  rw [hg]
 ·rw [h2, h3]
  exact Meet.err rfl
theorem args_meet {o : OpsF} {ts : List Tok} {T : QT} {n : Nat} (hT : SimT o ts T n) (s : RdS) (q : QS) (hF : Fit s q) (nm : List UInt8) (may : Bool) (most : Int) (hn : ts.length - q.at' < n) :
    Meet o ts s q (contE o ts (argsF ts s nm)) (namedQ o ts T nm true may most q) := by
 unfold namedQ argsF
 rw [if_pos rfl]
 rcases need_expect (ts := ts) hF 40 with ⟨hp, h2, h3⟩ | ⟨-, h2, h3⟩
 ·rw [h2, h3]
  have hlt := isP_at hp
  rw [hF.at'] at hlt
  obtain ⟨i1, i2⟩ := args_sim hT (ts.length + 1) ((s.go 1).await ⟨2, 0, nm, 0, []⟩ 999) (q.go 1) ⟨2, s.most, nm, 0, []⟩ s.wait rfl rfl rfl (.inl rfl) ⟨(hF.go 1).at', hF.cnt, hF.names, hF.vars, hF.no⟩ (by simp only [QS.go]; omega) (by simp only [QS.go]; omega)
  dsimp only
  cases ha : argsQ ts T (ts.length + 1) (q.go 1) [] with
  | error a => exact Meet.err (i1 a ha)
  | ok lq =>
   obtain ⟨l, q2⟩ := lq
   obtain ⟨j1, j2, j3, l0, x, p, rfl, j5, j6⟩ := i2 l q2 ha
   have e2 := end_back (o := o) (ts := ts) (s := ({ ((s.go 1).await ⟨2, 0, nm, 0, []⟩ 999) with wait := { (⟨2, s.most, nm, 0, []⟩ : WaitF) with l := l0 } :: s.wait }).put q2 x p) rfl j5 rfl
   dsimp only
   show Meet o ts s q (endF o ts _) _
   rw [j6, e2]
   unfold backF backG
   simp only [RdS.put, j3]
   refine need_meet (s1 := _) (q1 := q2) (fun s => s.done (compT nm (l0 ++ [x])) 0) ⟨rfl, rfl, rfl, rfl, j1⟩ (by simp only [QS.go] at j2; omega) rfl
 ·rw [h2, h3]
  exact Meet.err rfl
theorem prefix_meet {o : OpsF} {ts : List Tok} {T : QT} {n : Nat} (hT : SimT o ts T n) (s : RdS) (q : QS) (hF : Fit s q) (nm : List UInt8) (hn : ts.length - q.at' < n) :
    Meet o ts s q (endF o ts (s.await ⟨5, 0, nm, (o.pre nm).1, []⟩ (o.pre nm).2)) (match T (o.pre nm).2 q with
     | .error a => .error a
     | .ok (x, s1) => .ok ((compT nm [x.1], (o.pre nm).1), s1)) := by
 obtain ⟨t1, t2⟩ := hT (s.await ⟨5, 0, nm, (o.pre nm).1, []⟩ (o.pre nm).2) q rfl ⟨hF.at', hF.cnt, hF.names, hF.vars, hF.no⟩ hn
 cases hx : T (o.pre nm).2 q with
 | error a => exact Meet.err (t1 a hx)
 | ok xq =>
  obtain ⟨x, q1⟩ := xq
  obtain ⟨n1, lt1, op1, e1⟩ := t2 x q1 hx
  refine Meet.ok n1 lt1 ?_
  rw [e1, end_back (f := ⟨5, s.most, nm, (o.pre nm).1, []⟩) (r := s.wait) rfl op1 rfl]
  rfl
theorem paren_meet {o : OpsF} {ts : List Tok} {T : QT} {n : Nat} (hT : SimT o ts T n) (s : RdS) (q : QS) (hF : Fit s q) (hn : ts.length - (q.go 1).at' < n) :
    Meet o ts s q (endF o ts ((s.go 1).await ⟨0, 0, [], 0, []⟩ 1200)) (parenQ ts T q) := by
 obtain ⟨t1, t2⟩ := hT ((s.go 1).await ⟨0, 0, [], 0, []⟩ 1200) (q.go 1) rfl ⟨(hF.go 1).at', hF.cnt, hF.names, hF.vars, hF.no⟩ hn
 unfold parenQ
 cases hx : T 1200 (q.go 1) with
 | error a => exact Meet.err (t1 a hx)
 | ok xq =>
  obtain ⟨x, q1⟩ := xq
  obtain ⟨n1, lt1, op1, e1⟩ := t2 x q1 hx
  rw [e1, end_back (f := ⟨0, s.most, [], 0, []⟩) (r := s.wait) rfl op1 rfl]
  unfold backF backG
  rw [if_pos rfl]
  refine need_meet (s1 := _) (q1 := q1) (fun s => s.done s.t 0) ⟨rfl, rfl, rfl, rfl, n1⟩ (by simp only [QS.go] at lt1; omega) rfl
theorem brace_meet {o : OpsF} {ts : List Tok} {T : QT} {n : Nat} (hT : SimT o ts T n) (s : RdS) (q : QS) (hF : Fit s q) (hn : ts.length - (q.go 1).at' < n) :
    Meet o ts s q (endF o ts ((s.go 1).await ⟨1, 0, [], 0, []⟩ 1200)) (braceQ ts T q) := by
 obtain ⟨t1, t2⟩ := hT ((s.go 1).await ⟨1, 0, [], 0, []⟩ 1200) (q.go 1) rfl ⟨(hF.go 1).at', hF.cnt, hF.names, hF.vars, hF.no⟩ hn
 unfold braceQ
 cases hx : T 1200 (q.go 1) with
 | error a => exact Meet.err (t1 a hx)
 | ok xq =>
  obtain ⟨x, q1⟩ := xq
  obtain ⟨n1, lt1, op1, e1⟩ := t2 x q1 hx
  rw [e1, end_back (f := ⟨1, s.most, [], 0, []⟩) (r := s.wait) rfl op1 rfl]
  unfold backF backG
  rw [if_neg (show ¬ (1 : Int) = 0 by decide), if_pos rfl]
  refine need_meet (s1 := _) (q1 := q1) (fun s => s.done (compT [123, 125] [s.t]) 0) ⟨rfl, rfl, rfl, rfl, n1⟩ (by simp only [QS.go] at lt1; omega) rfl
theorem list_meet {o : OpsF} {ts : List Tok} {T : QT} {n : Nat} (hT : SimT o ts T n) (s : RdS) (q : QS) (hF : Fit s q) (hn : ts.length - (q.go 1).at' < n) (hl : q.at' < ts.length) :
    Meet o ts s q (endF o ts ((s.go 1).await ⟨3, 0, [], 0, []⟩ 999)) (listQ ts T q) := by
 obtain ⟨i1, i2⟩ := args_sim hT (ts.length + 1) ((s.go 1).await ⟨3, 0, [], 0, []⟩ 999) (q.go 1) ⟨3, s.most, [], 0, []⟩ s.wait rfl rfl rfl (.inr rfl) ⟨(hF.go 1).at', hF.cnt, hF.names, hF.vars, hF.no⟩ hn (by simp only [QS.go]; omega)
 unfold listQ
 cases ha : argsQ ts T (ts.length + 1) (q.go 1) [] with
 | error a => exact Meet.err (i1 a ha)
 | ok lq =>
  obtain ⟨l, q2⟩ := lq
  obtain ⟨j1, j2, j3, l0, x, p, rfl, j5, j6⟩ := i2 l q2 ha
  have e2 := end_back (o := o) (ts := ts) (s := ({ ((s.go 1).await ⟨3, 0, [], 0, []⟩ 999) with wait := { (⟨3, s.most, [], 0, []⟩ : WaitF) with l := l0 } :: s.wait }).put q2 x p) rfl j5 rfl
  have lt2 : q.at' + 1 < q2.at' := j2
  dsimp only
  rw [j6, e2]
  cases hb : isP ts q2.at' 124 with
  | false =>
   rw [if_neg (by decide)]
   unfold backF backG
   simp only [RdS.put, j3, hb]
   refine need_meet (s1 := _) (q1 := q2) (fun s => s.done (listT (l0 ++ [x]) nilT) 0) ⟨rfl, rfl, rfl, rfl, j1⟩ (by omega) rfl
  | true =>
   rw [if_pos rfl]
   have hlt := isP_at hb
   have hbk : backF ts (({ ((s.go 1).await ⟨3, 0, [], 0, []⟩ 999) with wait := { (⟨3, s.most, [], 0, []⟩ : WaitF) with l := l0 } :: s.wait }).put q2 x p) { (⟨3, s.most, [], 0, []⟩ : WaitF) with l := l0 } s.wait = .ok (({ (s.put q2 x p) with wait := s.wait, most := s.most }.go 1).again ⟨4, s.most, [], 0, l0 ++ [x]⟩ 999) := by
    unfold backF backG
    simp [RdS.put, j3, hb, RdS.go, RdS.await, RdS.again]
   rw [hbk]
   show Meet o ts s q (endF o ts _) _
   obtain ⟨t1, t2⟩ := hT (({ (s.put q2 x p) with wait := s.wait, most := s.most }.go 1).again ⟨4, s.most, [], 0, l0 ++ [x]⟩ 999) (q2.go 1) rfl ⟨rfl, rfl, rfl, rfl, j1⟩ (by simp only [QS.go] at hn ⊢; omega)
   cases hy : T 999 (q2.go 1) with
   | error a => exact Meet.err (t1 a hy)
   | ok yq =>
    obtain ⟨y, q3⟩ := yq
    obtain ⟨n1, lt1, op1, e1⟩ := t2 y q3 hy
    rw [e1, end_back (f := ⟨4, s.most, [], 0, l0 ++ [x]⟩) (r := s.wait) rfl op1 rfl]
    unfold backF backG
    rw [if_neg (show ¬ (4 : Int) = 0 by decide), if_neg (show ¬ (4 : Int) = 1 by decide), if_neg (show ¬ (4 : Int) = 5 by decide), if_neg (show ¬ (4 : Int) = 6 by decide), if_neg (show ¬ (4 : Int) = 2 by decide), if_neg (show ¬ (4 : Int) = 3 by decide), if_pos rfl]
    refine need_meet (s1 := _) (q1 := q3) (fun s => s.done (listT (l0 ++ [x]) s.t) 0) ⟨rfl, rfl, rfl, rfl, n1⟩ (by simp only [QS.go] at lt1; omega) rfl
end Go.Proofs.YtiffopheamnngaaGreatDoor
