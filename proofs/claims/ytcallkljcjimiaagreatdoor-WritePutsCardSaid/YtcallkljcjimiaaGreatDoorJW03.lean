import Derived.Test.YtcallkljcjimiaaGreatDoorJW02
namespace Go.Proofs.YtcallkljcjimiaaGreatDoor
structure Tok where
 kind : Int
 line : Int
 n : Int
 s : List UInt8
 opn : Bool
 tight : Bool
def spanN (p : UInt8 → Bool) (l : List UInt8) : Nat := (l.takeWhile p).length
theorem spanN_nil (p : UInt8 → Bool) : spanN p [] = 0 := rfl
theorem spanN_cons (p : UInt8 → Bool) (c : UInt8) (r : List UInt8) : spanN p (c :: r) = if p c then spanN p r + 1 else 0 := by
 unfold spanN
 rw [List.takeWhile_cons]
 split <;> simp
theorem spanN_le (p : UInt8 → Bool) (l : List UInt8) : spanN p l ≤ l.length := by
 induction l with
 | nil => exact Nat.le_refl _
 | cons c r ih =>
  rw [spanN_cons, List.length_cons]
  split <;> omega
theorem spanN_go (p : UInt8 → Bool) : ∀ (l : List UInt8) (k : Nat), k ≤ spanN p l → (k < spanN p l ↔ ∃ c, l[k]? = some c ∧ p c = true)
 | [], k, h => by simp [spanN_nil]
 | c :: r, 0, h => by
  rw [spanN_cons]
  split <;> simp_all
 | c :: r, k + 1, h => by
  rw [spanN_cons] at h ⊢
  split at h
  ·rename_i hc
   rw [if_pos hc]
   have := spanN_go p r k (by omega)
   simp only [List.getElem?_cons_succ, ← this]
   omega
  ·omega
def digitsF (base : Nat) (l : List UInt8) (frm : Nat) : Option (Int × Nat) :=
 let n := spanN (fun c => decide (digVal c < base)) (l.drop frm)
 let p := parseF base ((l.drop frm).take n)
 if p.2 = 0 then some (p.1, frm + n) else none
def slashRes : Option (List UInt8 × Nat) → Option (Int × Nat)
 | some ([b], 3) => some ((b.toNat : Int), 4)
 | _ => none
def charSlash : List UInt8 → Option (Int × Nat)
 | [] => none
 | d :: _ => slashRes (getQ 39 [92, d, 39])
def charAt2 (c : UInt8) (r : List UInt8) : Option (Int × Nat) :=
 if c = 10 then none
 else if c = 39 then (if r.head? = some 39 then some (39, 4) else none)
 else if c = 92 then charSlash r
 else some ((c.toNat : Int), 3)
def charF : List UInt8 → Option (Int × Nat)
 | _ :: _ :: c :: r => charAt2 c r
 | _ => none
def numberF (l : List UInt8) : Option (Int × Nat) :=
 if l.head? = some 48 ∧ l.tail.head? = some 120 then digitsF 16 l 2
 else if l.head? = some 48 ∧ l.tail.head? = some 111 then digitsF 8 l 2
 else if l.head? = some 48 ∧ l.tail.head? = some 98 then digitsF 2 l 2
 else if l.head? = some 48 ∧ l.tail.head? = some 39 then charF l
 else digitsF 10 l 0
structure TokIs where
 kind : Int
 n : Int
 s : List UInt8
 len : Nat
def tokF (l : List UInt8) : Option TokIs :=
 match l with
 | [] => none
 | c :: r =>
  if c = 46 ∧ (r = [] ∨ r.headD 0 = 37 ∨ bsort (r.headD 0) = 1) then some ⟨7, 0, [], 1⟩
  else if bsort c = 2 then some ⟨1, 0, l.take (spanN isWord l), spanN isWord l⟩
  else if bsort c = 5 then some ⟨1, 0, l.take (spanN isSign l), spanN isSign l⟩
  else if bsort c = 6 then some ⟨1, 0, [c], 1⟩
  else if bsort c = 3 then some ⟨4, 0, l.take (spanN isWord l), spanN isWord l⟩
  else if bsort c = 4 then (numberF l).map fun x => ⟨3, x.1, [], x.2⟩
  else if c = 39 then (getQ 39 r).map fun x => ⟨2, 0, x.1, x.2 + 1⟩
  else if c = 34 then (getQ 34 r).map fun x => ⟨5, 0, x.1, x.2 + 1⟩
  else if bsort c = 7 then some ⟨6, 0, [c], 1⟩
  else none
def endOf : List UInt8 → Option Nat
 | [] => none
 | c :: r => if c = 42 ∧ r.head? = some 47 then some 0 else (endOf r).map (· + 1)
def skipF : Nat → List UInt8 → List UInt8 × Bool
 | 0, l => (l, true)
 | _ + 1, [] => ([], true)
 | f + 1, c :: r =>
  if bsort c = 1 then skipF f r
  else if c = 37 then skipF f (r.drop (spanN (fun c => decide (c ≠ 10)) r))
  else if c = 47 ∧ r.head? = some 42 then
   match endOf r.tail with
   | none => (c :: r, false)
   | some n => skipF f (r.tail.drop (n + 2))
  else (c :: r, true)
def skipB (l : List UInt8) : List UInt8 × Bool := skipF l.length l
def lines (l : List UInt8) : Nat := l.count 10
def lexF : Nat → List UInt8 → Nat → Bool → List Tok × Int × Int
 | 0, _, _, _ => ([], 0, 0)
 | f + 1, l, line, first =>
  let k := skipB l
  let line1 := line + lines (l.take (l.length - k.1.length))
  if k.2 = false then ([], line1, 5)
  else if k.1 = [] then ([⟨0, line1, 0, [], false, false⟩], 0, 0)
  else match tokF k.1 with
   | none => ([], line1, 5)
   | some t =>
    let r := lexF f (k.1.drop t.len) (line1 + lines (k.1.take t.len)) false
    (⟨t.kind, line1, t.n, t.s, decide ((k.1.drop t.len).head? = some 40), !first && k.1.length == l.length⟩ :: r.1, r.2.1, r.2.2)
def lexB (l : List UInt8) : List Tok × Int × Int := lexF (l.length + 1) l 1 true
structure OpsF where
 pre : List UInt8 → Int × Int
 inf : List UInt8 → Int × Int × Int
 post : List UInt8 → Int × Int
structure WaitF where
 use : Int
 most : Int
 name : List UInt8
 pri : Int
 l : List Tm
structure RdS where
 at' : Nat
 wait : List WaitF
 most : Int
 hv : Bool
 t : Tm
 pri : Int
 vars : List (List UInt8 × Int)
 names : List (List UInt8 × Int)
 cnt : Int
def noTok : Tok := ⟨0, 0, 0, [], false, false⟩
def peekF (ts : List Tok) (i : Nat) : Tok := ts.getD i noTok
def isP (ts : List Tok) (i : Nat) (c : UInt8) : Bool := decide ((peekF ts i).kind = 6) && decide ((peekF ts i).s = [c])
def intT (n : Int) : Tm := .mk 2 n [] []
def negI (n : Int) : Int := if n = -9223372036854775808 then n else -n
def varT (n : Int) : Tm := .mk 1 n [] []
def atomT (s : List UInt8) : Tm := .mk 3 0 s []
def compT (s : List UInt8) (l : List Tm) : Tm := .mk 4 0 s l
def listT (l : List Tm) (tail : Tm) : Tm := l.foldr (fun x t => compT [46] [x, t]) tail
def nilT : Tm := atomT [91, 93]
def RdS.done (s : RdS) (t : Tm) (pri : Int) : RdS := { s with t := t, pri := pri, hv := true }
def RdS.go (s : RdS) (n : Nat) : RdS := { s with at' := s.at' + n }
def RdS.want (s : RdS) (most : Int) : RdS := { s with most := most, hv := false }
def RdS.again (s : RdS) (f : WaitF) (most : Int) : RdS := { s with wait := f :: s.wait, most := most, hv := false }
def RdS.await (s : RdS) (f : WaitF) (most : Int) : RdS := s.again { f with most := s.most } most
def RdS.expect (ts : List Tok) (s : RdS) (c : UInt8) : Except Nat RdS := if isP ts s.at' c then .ok (s.go 1) else .error s.at'
def argsF (ts : List Tok) (s : RdS) (name : List UInt8) : Except Nat RdS :=
 match s.expect ts 40 with
 | .error a => .error a
 | .ok s => .ok (s.await ⟨2, 0, name, 0, []⟩ 999)
def varF (s : RdS) (x : List UInt8) : RdS :=
 match s.vars.find? (fun y => decide (y.1 = x)) with
 | some y => s.done (varT y.2) 0
 | none =>
  let s' := { s with cnt := s.cnt + 1 }
  (if x = [95] then s' else { s' with vars := s.vars ++ [(x, s.cnt)], names := s.names ++ [(x, s.cnt)] }).done (varT s.cnt) 0
def pairF (ts : List Tok) (s : RdS) (c : UInt8) : Except Nat RdS :=
 let name := (peekF ts s.at').s ++ [c]
 let opn := (peekF ts (s.at' + 1)).opn
 if opn then argsF ts (s.go 2) name else .ok ((s.go 2).done (atomT name) 0)
def punctF (ts : List Tok) (s : RdS) (x : List UInt8) : Except Nat RdS :=
 if x = [40] then .ok ((s.go 1).await ⟨0, 0, [], 0, []⟩ 1200)
 else if x = [91] then (if isP ts (s.at' + 1) 93 then pairF ts s 93 else .ok ((s.go 1).await ⟨3, 0, [], 0, []⟩ 999))
 else if x = [123] then (if isP ts (s.at' + 1) 125 then pairF ts s 125 else .ok ((s.go 1).await ⟨1, 0, [], 0, []⟩ 1200))
 else .error s.at'
def beginsF (o : OpsF) (t : Tok) : Bool :=
 if t.kind = 3 ∨ t.kind = 4 ∨ t.kind = 5 then true
 else if t.kind = 6 then decide (t.s = [40] ∨ t.s = [91] ∨ t.s = [123])
 else if t.kind = 1 ∨ t.kind = 2 then
  (if t.opn then true else decide (((o.inf t.s).1 = 0 ∧ (o.post t.s).1 = 0) ∨ 0 < (o.pre t.s).1))
 else false
def atomF (o : OpsF) (ts : List Tok) (s : RdS) (t : Tok) : Except Nat RdS :=
 let n := peekF ts (s.at' + 1)
 if t.kind = 1 ∧ t.s = [45] ∧ n.kind = 3 ∧ n.tight = true then .ok ((s.go 2).done (intT (negI n.n)) 0)
 else if t.opn then argsF ts (s.go 1) t.s
 else if 0 < (o.pre t.s).1 ∧ (o.pre t.s).1 ≤ s.most ∧ beginsF o n = true then .ok ((s.go 1).await ⟨5, 0, t.s, (o.pre t.s).1, []⟩ (o.pre t.s).2)
 else .ok ((s.go 1).done (atomT t.s) 0)
def primaryF (o : OpsF) (ts : List Tok) (s : RdS) : Except Nat RdS :=
 let t := peekF ts s.at'
 if t.kind = 3 then (if t.n < 0 then .error s.at' else .ok ((s.go 1).done (intT t.n) 0))
 else if t.kind = 4 then .ok (varF (s.go 1) t.s)
 else if t.kind = 5 then .ok ((s.go 1).done (listT (t.s.map fun c => intT c.toNat) nilT) 0)
 else if t.kind = 6 then punctF ts s t.s
 else if t.kind = 1 ∨ t.kind = 2 then atomF o ts s t
 else .error s.at'
def operatorF (o : OpsF) (ts : List Tok) (s : RdS) : Option RdS :=
 let t := peekF ts s.at'
 if t.kind ≠ 1 ∧ t.kind ≠ 2 ∧ isP ts s.at' 44 = false then none
 else if 0 < (o.inf t.s).1 ∧ (o.inf t.s).1 ≤ s.most ∧ s.pri ≤ (o.inf t.s).2.1 then some ((s.go 1).await ⟨6, 0, t.s, (o.inf t.s).1, [s.t]⟩ (o.inf t.s).2.2)
 else if 0 < (o.post t.s).1 ∧ (o.post t.s).1 ≤ s.most ∧ s.pri ≤ (o.post t.s).2 then some ((s.go 1).done (compT t.s [s.t]) (o.post t.s).1)
 else none
def backG (ts : List Tok) (s : RdS) (f : WaitF) : Except Nat RdS :=
 if f.use = 0 then (s.expect ts 41).map fun s => s.done s.t 0
 else if f.use = 1 then (s.expect ts 125).map fun s => s.done (compT [123, 125] [s.t]) 0
 else if f.use = 5 then .ok (s.done (compT f.name [s.t]) f.pri)
 else if f.use = 6 then .ok (s.done (compT f.name (f.l ++ [s.t])) f.pri)
 else if f.use = 2 then
  let f := { f with l := f.l ++ [s.t] }
  (if isP ts s.at' 44 then .ok ((s.go 1).again f 999) else (s.expect ts 41).map fun s => s.done (compT f.name f.l) 0)
 else if f.use = 3 then
  let f := { f with l := f.l ++ [s.t] }
  (if isP ts s.at' 44 then .ok ((s.go 1).again f 999)
  else if isP ts s.at' 124 then .ok ((s.go 1).again { f with use := 4 } 999)
  else (s.expect ts 93).map fun s => s.done (listT f.l nilT) 0)
 else if f.use = 4 then (s.expect ts 93).map fun s => s.done (listT f.l s.t) 0
 else .ok s
def backF (ts : List Tok) (s : RdS) (f : WaitF) (r : List WaitF) : Except Nat RdS := backG ts { s with wait := r, most := f.most } f
inductive RdO
 | on (s : RdS)
 | fin (s : RdS)
 | bad (a : Nat)
def toO : Except Nat RdS → RdO
 | .ok s => .on s
 | .error a => .bad a
def roundF (o : OpsF) (ts : List Tok) (s : RdS) : RdO :=
 if s.hv = false then toO (primaryF o ts s)
 else match operatorF o ts s with
  | some s => .on s
  | none =>
   match s.wait with
   | f :: r => toO (backF ts s f r)
   | [] => if (peekF ts s.at').kind ≠ 7 then .bad s.at' else .fin s
def leftF (ts : List Tok) (s : RdS) : Nat := 3 * (ts.length - s.at') + s.wait.length + (if s.hv then 0 else 1)
def runF (o : OpsF) (ts : List Tok) : Nat → RdS → RdO
 | 0, s => .on s
 | n + 1, s =>
  match roundF o ts s with
  | .on s => runF o ts n s
  | .fin s => .fin s
  | .bad a => .bad a
def startF (i : Nat) : RdS := ⟨i, [], 1200, false, .mk 0 0 [] [], 0, [], [], 0⟩
def behindF : List Tok → Nat → Nat
 | [], i => i
 | t :: r, i => if t.kind = 7 then i + 1 else if t.kind = 0 then i else behindF r (i + 1)
structure ClauseF where
 t : Tm
 names : List (List UInt8 × Int)
 line : Int
 next : Int
def noTm : Tm := .mk 0 0 [] []
def failedF (ts : List Tok) (a : Nat) : ClauseF :=
 if ts.length ≤ a then ⟨noTm, [], 0, (ts.length : Int)⟩ else ⟨noTm, [], (peekF ts a).line, (behindF (ts.drop a) a : Int)⟩
def readF (o : OpsF) (ts : List Tok) (i : Int) : ClauseF × Int :=
 if i < 0 ∨ (ts.length : Int) ≤ i ∨ (peekF ts i.toNat).kind = 0 then (⟨noTm, [], 0, 0⟩, 7)
 else match runF o ts (leftF ts (startF i.toNat) + 1) (startF i.toNat) with
  | .on _ => (⟨noTm, [], 0, 0⟩, 7)
  | .bad a => (failedF ts a, 6)
  | .fin s =>
   if s.t.may = false then (⟨noTm, [], (peekF ts i.toNat).line, (s.at' : Int) + 1⟩, 3)
   else if 2000 < s.t.deep then (⟨noTm, [], (peekF ts i.toNat).line, (s.at' : Int) + 1⟩, 4)
   else if 20000 < s.t.size then (⟨noTm, [], (peekF ts i.toNat).line, (s.at' : Int) + 1⟩, 3)
   else (⟨s.t, s.names, (peekF ts i.toNat).line, (s.at' : Int) + 1⟩, 0)
theorem peek_lt {ts : List Tok} {i : Nat} (h : (peekF ts i).kind ≠ 0) : i < ts.length := by
 rcases Nat.lt_or_ge i ts.length with h1 | h1
 ·exact h1
 ·unfold peekF at h
  rw [List.getD_eq_getElem?_getD, List.getElem?_eq_none h1] at h
  exact absurd rfl h
theorem isP_lt {ts : List Tok} {i : Nat} {c : UInt8} (h : isP ts i c = true) : i < ts.length := by
 apply peek_lt
 unfold isP at h
 simp at h
 omega
theorem expect_ok {ts : List Tok} {s s' : RdS} {c : UInt8} (h : s.expect ts c = .ok s') : s' = s.go 1 ∧ s.at' < ts.length := by
 unfold RdS.expect at h
 split at h
 ·rename_i hp
  injection h with h
  exact ⟨h.symm, isP_lt hp⟩
 ·cases h
theorem expect_map {ts : List Tok} {s s' : RdS} {c : UInt8} {f : RdS → RdS} (h : (s.expect ts c).map f = .ok s') : s' = f (s.go 1) ∧ s.at' < ts.length := by
 cases he : s.expect ts c with
 | error a => rw [he] at h; cases h
 | ok x =>
  rw [he] at h
  obtain ⟨rfl, h2⟩ := expect_ok he
  injection h with h
  exact ⟨h.symm, h2⟩
theorem args_ok {ts : List Tok} {s s' : RdS} {n : List UInt8} (h : argsF ts s n = .ok s') : s' = (s.go 1).await ⟨2, 0, n, 0, []⟩ 999 ∧ s.at' < ts.length := by
 unfold argsF at h
 cases he : s.expect ts 40 with
 | error a => rw [he] at h; cases h
 | ok x =>
  rw [he] at h
  obtain ⟨rfl, h2⟩ := expect_ok he
  injection h with h
  exact ⟨h.symm, h2⟩
theorem left_done (ts : List Tok) (s : RdS) (t : Tm) (p : Int) : leftF ts (s.done t p) = 3 * (ts.length - s.at') + s.wait.length := rfl
theorem left_await (ts : List Tok) (s : RdS) (f : WaitF) (m : Int) : leftF ts (s.await f m) = 3 * (ts.length - s.at') + (s.wait.length + 1) + 1 := rfl
theorem left_again (ts : List Tok) (s : RdS) (f : WaitF) (m : Int) : leftF ts (s.again f m) = 3 * (ts.length - s.at') + (s.wait.length + 1) + 1 := rfl
theorem left_new {ts : List Tok} {s : RdS} (h : s.hv = false) : leftF ts s = 3 * (ts.length - s.at') + s.wait.length + 1 := by unfold leftF; rw [h]; rfl
theorem left_old {ts : List Tok} {s : RdS} (h : s.hv = true) : leftF ts s = 3 * (ts.length - s.at') + s.wait.length := by unfold leftF; rw [h]; rfl
theorem go_at (s : RdS) (n : Nat) : (s.go n).at' = s.at' + n := rfl
theorem go_wait (s : RdS) (n : Nat) : (s.go n).wait = s.wait := rfl
theorem var_at (s : RdS) (x : List UInt8) : (varF s x).at' = s.at' ∧ (varF s x).wait = s.wait ∧ (varF s x).hv = true := by
 unfold varF
 split
 ·exact ⟨rfl, rfl, rfl⟩
 ·dsimp only
  split
  ·exact ⟨rfl, rfl, rfl⟩
  ·exact ⟨rfl, rfl, rfl⟩
theorem pair_less {ts : List Tok} {s s' : RdS} {c : UInt8} (hl : s.at' + 1 < ts.length) (h : pairF ts s c = .ok s') : leftF ts s' < 3 * (ts.length - s.at') + s.wait.length + 1 := by
 unfold pairF at h
 dsimp only at h
 split at h
 ·obtain ⟨rfl, h2⟩ := args_ok h
  rw [left_await, go_at, go_at, go_wait, go_wait]
  rw [go_at] at h2
  omega
 ·injection h with h
  subst h
  rw [left_done, go_at, go_wait]
  omega
theorem punct_less {ts : List Tok} {s s' : RdS} {x : List UInt8} (hl : s.at' < ts.length) (h : punctF ts s x = .ok s') : leftF ts s' < 3 * (ts.length - s.at') + s.wait.length + 1 := by
 unfold punctF at h
 split at h
 ·injection h with h
  subst h
  rw [left_await, go_at, go_wait]
  omega
 ·split at h
  ·split at h
   ·rename_i hp
    exact pair_less (isP_lt hp) h
   ·injection h with h
    subst h
    rw [left_await, go_at, go_wait]
    omega
  ·split at h
   ·split at h
    ·rename_i hp
     exact pair_less (isP_lt hp) h
    ·injection h with h
     subst h
     rw [left_await, go_at, go_wait]
     omega
   ·cases h
theorem atom_less {o : OpsF} {ts : List Tok} {s s' : RdS} {t : Tok} (hl : s.at' < ts.length) (h : atomF o ts s t = .ok s') : leftF ts s' < 3 * (ts.length - s.at') + s.wait.length + 1 := by
 unfold atomF at h
 dsimp only at h
 split at h
 ·injection h with h
  subst h
  rw [left_done, go_at, go_wait]
  omega
 ·split at h
  ·obtain ⟨rfl, h2⟩ := args_ok h
   rw [left_await, go_at, go_at, go_wait, go_wait]
   rw [go_at] at h2
   omega
  ·split at h
   ·injection h with h
    subst h
    rw [left_await, go_at, go_wait]
    omega
   ·injection h with h
    subst h
    rw [left_done, go_at, go_wait]
    omega
theorem primary_less {o : OpsF} {ts : List Tok} {s s' : RdS} (h : primaryF o ts s = .ok s') : leftF ts s' < 3 * (ts.length - s.at') + s.wait.length + 1 := by
 unfold primaryF at h
 dsimp only at h
 split at h
 ·rename_i hk
  have hl : s.at' < ts.length := peek_lt (by rw [hk]; decide)
  split at h
  ·cases h
  ·injection h with h
   subst h
   rw [left_done, go_at, go_wait]
   omega
 ·split at h
  ·rename_i hk
   have hl : s.at' < ts.length := peek_lt (by rw [hk]; decide)
   injection h with h
   subst h
   obtain ⟨h1, h2, h3⟩ := var_at (s.go 1) (peekF ts s.at').s
   rw [left_old h3, h1, h2, go_at, go_wait]
   omega
  ·split at h
   ·rename_i hk
    have hl : s.at' < ts.length := peek_lt (by rw [hk]; decide)
    injection h with h
    subst h
    rw [left_done, go_at, go_wait]
    omega
   ·split at h
    ·rename_i hk
     exact punct_less (peek_lt (by rw [hk]; decide)) h
    ·split at h
     ·rename_i hk
      exact atom_less (peek_lt (by rcases hk with hk | hk <;> rw [hk] <;> decide)) h
     ·cases h
theorem operator_less {o : OpsF} {ts : List Tok} {s s' : RdS} (h : operatorF o ts s = some s') : leftF ts s' < 3 * (ts.length - s.at') + s.wait.length := by
 unfold operatorF at h
 dsimp only at h
 split at h
 ·cases h
 ·rename_i hk
  have hl : s.at' < ts.length := by
   by_cases h1 : (peekF ts s.at').kind = 1
   ·exact peek_lt (by rw [h1]; decide)
   ·by_cases h2 : (peekF ts s.at').kind = 2
    ·exact peek_lt (by rw [h2]; decide)
    ·cases h3 : isP ts s.at' 44 with
     | true => exact isP_lt h3
     | false => exact absurd ⟨h1, h2, h3⟩ hk
  split at h
  ·injection h with h
   subst h
   rw [left_await, go_at, go_wait]
   omega
  ·split at h
   ·injection h with h
    subst h
    rw [left_done, go_at, go_wait]
    omega
   ·cases h
theorem backG_less {ts : List Tok} {s s' : RdS} {f : WaitF} (hv : s.hv = true) (h : backG ts s f = .ok s') : leftF ts s' < 3 * (ts.length - s.at') + (s.wait.length + 1) := by
 unfold backG at h
 dsimp only at h
 split at h
 ·obtain ⟨rfl, h2⟩ := expect_map h
  rw [left_done]
  simp only [RdS.go] at h2 ⊢
  omega
 ·split at h
  ·obtain ⟨rfl, h2⟩ := expect_map h
   rw [left_done]
   simp only [RdS.go] at h2 ⊢
   omega
  ·split at h
   ·injection h with h
    subst h
    rw [left_done]
    omega
   ·split at h
    ·injection h with h
     subst h
     rw [left_done]
     omega
    ·split at h
     ·split at h
      ·rename_i hp
       have := isP_lt hp
       injection h with h
       subst h
       rw [left_again]
       simp only [RdS.go] at this ⊢
       omega
      ·obtain ⟨rfl, h2⟩ := expect_map h
       rw [left_done]
       simp only [RdS.go] at h2 ⊢
       omega
     ·split at h
      ·split at h
       ·rename_i hp
        have := isP_lt hp
        injection h with h
        subst h
        rw [left_again]
        simp only [RdS.go] at this ⊢
        omega
       ·split at h
        ·rename_i hp
         have := isP_lt hp
         injection h with h
         subst h
         rw [left_again]
         simp only [RdS.go] at this ⊢
         omega
        ·obtain ⟨rfl, h2⟩ := expect_map h
         rw [left_done]
         simp only [RdS.go] at h2 ⊢
         omega
      ·split at h
       ·obtain ⟨rfl, h2⟩ := expect_map h
        rw [left_done]
        simp only [RdS.go] at h2 ⊢
        omega
       ·injection h with h
        subst h
        rw [left_old hv]
        omega
theorem back_less {ts : List Tok} {s s' : RdS} {f : WaitF} {r : List WaitF} (hv : s.hv = true) (h : backF ts s f r = .ok s') : leftF ts s' < 3 * (ts.length - s.at') + (r.length + 1) := backG_less (s := { s with wait := r, most := f.most }) hv h
theorem round_less {o : OpsF} {ts : List Tok} {s s' : RdS} (h : roundF o ts s = .on s') : leftF ts s' < leftF ts s := by
 unfold roundF at h
 split at h
 ·rename_i hv
  rw [left_new hv]
  cases hp : primaryF o ts s with
  | error a => rw [hp] at h; cases h
  | ok x =>
   rw [hp] at h
   injection h with h
   subst h
   exact primary_less hp
 ·rename_i hv
  have hv : s.hv = true := by simpa using hv
  rw [left_old hv]
  split at h
  ·rename_i x hx
   injection h with h
   subst h
   exact operator_less hx
  ·split at h
   ·rename_i f r hw
    cases hb : backF ts s f r with
    | error a => rw [hb] at h; cases h
    | ok x =>
     rw [hb] at h
     injection h with h
     subst h
     rw [hw]
     exact back_less hv hb
   ·split at h
    ·cases h
    ·cases h
theorem run_step (o : OpsF) (ts : List Tok) (n : Nat) (s : RdS) : runF o ts (n + 1) s = match roundF o ts s with
    | .on s => runF o ts n s
    | .fin s => .fin s
    | .bad a => .bad a := rfl
theorem run_more (o : OpsF) (ts : List Tok) : ∀ (n m : Nat) (s : RdS), leftF ts s < n → leftF ts s < m → runF o ts n s = runF o ts m s
 | 0, _, _, h, _ => absurd h (Nat.not_lt_zero _)
 | _, 0, _, _, h => absurd h (Nat.not_lt_zero _)
 | n + 1, m + 1, s, h1, h2 => by
  rw [run_step, run_step]
  cases hr : roundF o ts s with
  | on s' =>
   have := round_less hr
   exact run_more o ts n m s' (by omega) (by omega)
  | fin s' => rfl
  | bad a => rfl
def endF (o : OpsF) (ts : List Tok) (s : RdS) : RdO := runF o ts (leftF ts s + 1) s
theorem end_step (o : OpsF) (ts : List Tok) (s : RdS) : endF o ts s = match roundF o ts s with
    | .on s => endF o ts s
    | .fin s => .fin s
    | .bad a => .bad a := by
 unfold endF
 rw [run_step]
 cases hr : roundF o ts s with
 | on s' =>
  have := round_less hr
  exact run_more o ts _ _ s' (by omega) (by omega)
 | fin s' => rfl
 | bad a => rfl
structure PartT where
 k : Int
 n : Int
 s : List UInt8
 a : Nat
def ofLoop (g : List PartT → Tm × Nat) : Nat → List PartT → List Tm × Nat
 | 0, _ => ([], 0)
 | i + 1, l => ((g l).1 :: (ofLoop g i (l.drop (g l).2)).1, (g l).2 + (ofLoop g i (l.drop (g l).2)).2)
def ofF : Nat → List PartT → Tm × Nat
 | 0, _ => (atomT [97], 0)
 | _ + 1, [] => (atomT [97], 0)
 | f + 1, p :: r => (.mk p.k p.n p.s (ofLoop (ofF f) (p.a % 8) r).1, 1 + (ofLoop (ofF f) (p.a % 8) r).2)
def ofT (l : List PartT) : Tm × Nat := ofF l.length l
mutual
def mendT : Tm → Tm
 | .mk k n s l =>
  if 20 < s.length then atomT [97]
  else if k = 1 then varT (max 0 n)
  else if k = 2 then intT n
  else if k = 3 then atomT s
  else if k = 4 then (if l.length = 0 then atomT [97] else compT s (mendL l))
  else atomT [97]
def mendL : List Tm → List Tm
 | [] => []
 | t :: r => mendT t :: mendL r
end
def goodT (l : List PartT) : Tm := mendT (ofT l).1
theorem ofLoop_le {g : List PartT → Tm × Nat} (hg : ∀ l, (g l).2 ≤ l.length) : ∀ (i : Nat) (l : List PartT), (ofLoop g i l).2 ≤ l.length ∧ (ofLoop g i l).1.length = i
 | 0, _ => ⟨Nat.zero_le _, rfl⟩
 | i + 1, l => by
  have h1 := hg l
  obtain ⟨h2, h3⟩ := ofLoop_le hg i (l.drop (g l).2)
  rw [List.length_drop] at h2
  unfold ofLoop
  refine ⟨by simp only; omega, by simp only [List.length_cons, h3]⟩
theorem ofF_le : ∀ (f : Nat) (l : List PartT), (ofF f l).2 ≤ l.length
 | 0, _ => Nat.zero_le _
 | _ + 1, [] => Nat.zero_le _
 | f + 1, p :: r => by
  have := (ofLoop_le (ofF_le f) (p.a % 8) r).1
  unfold ofF
  simp only [List.length_cons]
  omega
theorem ofLoop_congr {g h : List PartT → Tm × Nat} (n : Nat) (hgh : ∀ l, l.length ≤ n → g l = h l) : ∀ (i : Nat) (l : List PartT), l.length ≤ n → ofLoop g i l = ofLoop h i l
 | 0, _, _ => rfl
 | i + 1, l, hl => by
  unfold ofLoop
  rw [hgh l hl, ofLoop_congr n hgh i _ (by rw [List.length_drop]; omega)]
theorem ofF_fuel : ∀ (n f g : Nat) (l : List PartT), l.length ≤ n → l.length ≤ f → l.length ≤ g → ofF f l = ofF g l
 | n, f, g, [], _, _, _ => by cases f <;> cases g <;> rfl
 | 0, _, _, p :: r, h, _, _ => by simp at h
 | n + 1, f, g, p :: r, h, hf, hg => by
  rw [List.length_cons] at h hf hg
  obtain ⟨f, rfl⟩ : ∃ k, f = k + 1 := ⟨f - 1, by omega⟩
  obtain ⟨g, rfl⟩ : ∃ k, g = k + 1 := ⟨g - 1, by omega⟩
  unfold ofF
  rw [ofLoop_congr (g := ofF f) (h := ofF g) r.length (fun l hl => ofF_fuel n f g l (by omega) (by omega) (by omega)) (p.a % 8) r (Nat.le_refl _)]
theorem ofT_cons (p : PartT) (r : List PartT) : ofT (p :: r) = (.mk p.k p.n p.s (ofLoop ofT (p.a % 8) r).1, 1 + (ofLoop ofT (p.a % 8) r).2) := by
 unfold ofT
 rw [List.length_cons, ofF]
 rw [ofLoop_congr (g := ofF r.length) (h := fun l => ofF l.length l) r.length (fun l hl => ofF_fuel r.length r.length l.length l hl hl (Nat.le_refl _)) (p.a % 8) r (Nat.le_refl _)]
theorem ofT_le (l : List PartT) : (ofT l).2 ≤ l.length := ofF_le _ l
theorem ofLoop_snoc (g : List PartT → Tm × Nat) : ∀ (i : Nat) (l : List PartT), ofLoop g (i + 1) l = ((ofLoop g i l).1 ++ [(g (l.drop (ofLoop g i l).2)).1], (ofLoop g i l).2 + (g (l.drop (ofLoop g i l).2)).2)
 | 0, l => by simp [ofLoop]
 | i + 1, l => by
  have ih := ofLoop_snoc g i (l.drop (g l).2)
  rw [ofLoop, ih, ofLoop]
  simp only [List.drop_drop, List.cons_append, Prod.mk.injEq]
  refine ⟨trivial, by omega⟩
mutual
theorem mend_size : ∀ t : Tm, (mendT t).size ≤ t.size
 | .mk k n s l => by
  have h1 := mends_size l
  have h2 : ∀ s : List UInt8, (atomT s).size = 1 := fun _ => rfl
  have h3 : (Tm.mk k n s l).size = 1 + Tm.sizes l := rfl
  rw [mendT, h3]
  split
  ·rw [h2]; omega
  ·split
   ·show 1 ≤ _; omega
   ·split
    ·show 1 ≤ _; omega
    ·split
     ·rw [h2]; omega
     ·split
      ·split
       ·rw [h2]; omega
       ·show 1 + Tm.sizes (mendL l) ≤ _
        omega
      ·rw [h2]; omega
theorem mends_size : ∀ l : List Tm, Tm.sizes (mendL l) ≤ Tm.sizes l
 | [] => Nat.le_refl _
 | t :: r => by
  have h1 := mend_size t
  have h2 := mends_size r
  rw [mendL, Tm.sizes, Tm.sizes]
  omega
end
theorem mendL_len : ∀ l : List Tm, (mendL l).length = l.length
 | [] => rfl
 | t :: r => by rw [mendL, List.length_cons, List.length_cons, mendL_len r]
mutual
def Tm.thin : Tm → Bool | .mk _ _ _ l => decide (l.length ≤ 255) && Tm.thins l
def Tm.thins : List Tm → Bool | [] => true | t :: r => t.thin && Tm.thins r
end
mutual
theorem mend_may : ∀ t : Tm, t.thin = true → (mendT t).may = true
 | .mk k n s l, h => by
  rw [Tm.thin, Bool.and_eq_true, decide_eq_true_eq] at h
  have h1 := mends_may l h.2
  have h2 := mendL_len l
  have ha : (atomT [97]).may = true := by decide
  rw [mendT]
  split
  ·exact ha
  ·rename_i hs
   split
   ·show (Tm.mk 1 (max 0 n) [] []).may = true
    rw [Tm.may]
    unfold mayP
    simp [Tm.mays]
    omega
   ·split
    ·show (Tm.mk 2 n [] []).may = true
     rw [Tm.may]
     unfold mayP
     simp [Tm.mays]
    ·split
     ·show (Tm.mk 3 0 s []).may = true
      rw [Tm.may]
      unfold mayP
      simp [Tm.mays]
      omega
     ·split
      ·split
       ·exact ha
       ·rename_i hl
        show (Tm.mk 4 0 s (mendL l)).may = true
        rw [Tm.may, h1]
        unfold mayP
        simp
        omega
      ·exact ha
theorem mends_may : ∀ l : List Tm, Tm.thins l = true → Tm.mays (mendL l) = true
 | [], _ => rfl
 | t :: r, h => by
  rw [Tm.thins, Bool.and_eq_true] at h
  rw [mendL, Tm.mays, mend_may t h.1, mends_may r h.2]
  rfl
end
theorem ofLoop_thin {g : List PartT → Tm × Nat} (hg : ∀ l, (g l).1.thin = true ∧ (g l).1.size ≤ 1 + 7 * (g l).2) : ∀ (i : Nat) (l : List PartT), Tm.thins (ofLoop g i l).1 = true ∧ Tm.sizes (ofLoop g i l).1 ≤ i + 7 * (ofLoop g i l).2
 | 0, _ => ⟨rfl, Nat.zero_le _⟩
 | i + 1, l => by
  obtain ⟨h1, h2⟩ := hg l
  obtain ⟨h3, h4⟩ := ofLoop_thin hg i (l.drop (g l).2)
  unfold ofLoop
  refine ⟨?_, ?_⟩
  ·simp only [Tm.thins, h1, h3, Bool.and_self]
  ·simp only [Tm.sizes]
   omega
theorem ofF_thin : ∀ (f : Nat) (l : List PartT), (ofF f l).1.thin = true ∧ (ofF f l).1.size ≤ 1 + 7 * (ofF f l).2
 | 0, _ => ⟨rfl, Nat.le_refl _⟩
 | _ + 1, [] => ⟨rfl, Nat.le_refl _⟩
 | f + 1, p :: r => by
  obtain ⟨h1, h2⟩ := ofLoop_thin (ofF_thin f) (p.a % 8) r
  have h3 := (ofLoop_le (ofF_le f) (p.a % 8) r).2
  have h4 : p.a % 8 < 8 := Nat.mod_lt _ (by decide)
  unfold ofF
  refine ⟨?_, ?_⟩
  ·simp only [Tm.thin, h1, Bool.and_true, decide_eq_true_eq]
   omega
  ·simp only [Tm.size]
   omega
theorem good_ok (l : List PartT) : (goodT l).may = true ∧ (goodT l).size ≤ 1 + 7 * l.length := by
 obtain ⟨h1, h2⟩ := ofF_thin l.length l
 have h3 := ofF_le l.length l
 refine ⟨mend_may _ h1, Nat.le_trans (mend_size _) ?_⟩
 show (ofF l.length l).1.size ≤ _
 omega
end Go.Proofs.YtcallkljcjimiaaGreatDoor
