import Derived.Test.YtmgidfndifhcoaaDoorJReadBrackets02
import Derived.Test.YtmgidfndifhcoaaDoorJReadBrackets03
import Derived.Laws.AppendOwnNone
import Derived.Deep.AppendLies
import Derived.Deep.RegionLaw
import Derived.Lib.Hide
import Derived.WalkKit
import Derived.WalkSmall
import Derived.WalkSpells
/-
  The reader of terms, as functions on lists of tokens: its state, a step, a run. Definitions and plain laws; no condition.
-/
namespace Go.Proofs.YtmgidfndifhcoaaDoor

/-- What operators a name is: each with its priority (0: none), and those of what stands beside it. -/
structure OpsF where
  pre : List UInt8 → Int × Int
  inf : List UInt8 → Int × Int × Int
  post : List UInt8 → Int × Int
/-- What waits for a term. -/
structure WaitF where
  use : Int
  most : Int
  name : List UInt8
  pri : Int
  l : List Tm
/-- The reader on its way. -/
structure RdS where
  at' : Nat
  wait : List WaitF
  most : Int
  hv : Bool
  t : Tm
  pri : Int
  vars : List (List UInt8 × Int)
  names : List (List UInt8 × Int)
  cnt : Int
def noTok : Tok := ⟨0, 0, 0, [], false, false⟩
def peekF (ts : List Tok) (i : Nat) : Tok := ts.getD i noTok
def isP (ts : List Tok) (i : Nat) (c : UInt8) : Bool := decide ((peekF ts i).kind = 6) && decide ((peekF ts i).s = [c])
def intT (n : Int) : Tm := .mk 2 n [] []
/-- A number told off, as the program counts: the least one stays as it is. -/
def negI (n : Int) : Int := if n = -9223372036854775808 then n else -n
def varT (n : Int) : Tm := .mk 1 n [] []
def atomT (s : List UInt8) : Tm := .mk 3 0 s []
def compT (s : List UInt8) (l : List Tm) : Tm := .mk 4 0 s l
def listT (l : List Tm) (tail : Tm) : Tm := l.foldr (fun x t => compT [46] [x, t]) tail
def nilT : Tm := atomT [91, 93]
def RdS.done (s : RdS) (t : Tm) (pri : Int) : RdS := { s with t := t, pri := pri, hv := true }
def RdS.go (s : RdS) (n : Nat) : RdS := { s with at' := s.at' + n }
def RdS.want (s : RdS) (most : Int) : RdS := { s with most := most, hv := false }
def RdS.again (s : RdS) (f : WaitF) (most : Int) : RdS := { s with wait := f :: s.wait, most := most, hv := false }
def RdS.await (s : RdS) (f : WaitF) (most : Int) : RdS := s.again { f with most := s.most } most
/-- Over a mark; an error's place, if another one stands there. -/
def RdS.expect (ts : List Tok) (s : RdS) (c : UInt8) : Except Nat RdS := if isP ts s.at' c then .ok (s.go 1) else .error s.at'
def argsF (ts : List Tok) (s : RdS) (name : List UInt8) : Except Nat RdS :=
  match s.expect ts 40 with
  | .error a => .error a
  | .ok s => .ok (s.await ⟨2, 0, name, 0, []⟩ 999)
def varF (s : RdS) (x : List UInt8) : RdS :=
  match s.vars.find? (fun y => decide (y.1 = x)) with
  | some y => s.done (varT y.2) 0
  | none =>
    let s' := { s with cnt := s.cnt + 1 }
    (if x = [95] then s' else { s' with vars := s.vars ++ [(x, s.cnt)], names := s.names ++ [(x, s.cnt)] }).done (varT s.cnt) 0
/-- Two brackets with nothing between. -/
def pairF (ts : List Tok) (s : RdS) (c : UInt8) : Except Nat RdS :=
  let name := (peekF ts s.at').s ++ [c]
  let opn := (peekF ts (s.at' + 1)).opn
  if opn then argsF ts (s.go 2) name else .ok ((s.go 2).done (atomT name) 0)
def punctF (ts : List Tok) (s : RdS) (x : List UInt8) : Except Nat RdS :=
  if x = [40] then .ok ((s.go 1).await ⟨0, 0, [], 0, []⟩ 1200)
  else if x = [91] then (if isP ts (s.at' + 1) 93 then pairF ts s 93 else .ok ((s.go 1).await ⟨3, 0, [], 0, []⟩ 999))
  else if x = [123] then (if isP ts (s.at' + 1) 125 then pairF ts s 125 else .ok ((s.go 1).await ⟨1, 0, [], 0, []⟩ 1200))
  else .error s.at'
/-- Does a term begin with a token? -/
def beginsF (o : OpsF) (t : Tok) : Bool :=
  if t.kind = 3 ∨ t.kind = 4 ∨ t.kind = 5 then true
  else if t.kind = 6 then decide (t.s = [40] ∨ t.s = [91] ∨ t.s = [123])
  else if t.kind = 1 ∨ t.kind = 2 then
    (if t.opn then true else decide (((o.inf t.s).1 = 0 ∧ (o.post t.s).1 = 0) ∨ 0 < (o.pre t.s).1))
  else false
def atomF (o : OpsF) (ts : List Tok) (s : RdS) (t : Tok) : Except Nat RdS :=
  let n := peekF ts (s.at' + 1)
  if t.kind = 1 ∧ t.s = [45] ∧ n.kind = 3 ∧ n.tight = true then .ok ((s.go 2).done (intT (negI n.n)) 0)
  else if t.opn then argsF ts (s.go 1) t.s
  else if 0 < (o.pre t.s).1 ∧ (o.pre t.s).1 ≤ s.most ∧ beginsF o n = true then .ok ((s.go 1).await ⟨5, 0, t.s, (o.pre t.s).1, []⟩ (o.pre t.s).2)
  else .ok ((s.go 1).done (atomT t.s) 0)
def primaryF (o : OpsF) (ts : List Tok) (s : RdS) : Except Nat RdS :=
  let t := peekF ts s.at'
  if t.kind = 3 then (if t.n < 0 then .error s.at' else .ok ((s.go 1).done (intT t.n) 0))
  else if t.kind = 4 then .ok (varF (s.go 1) t.s)
  else if t.kind = 5 then .ok ((s.go 1).done (listT (t.s.map fun c => intT c.toNat) nilT) 0)
  else if t.kind = 6 then punctF ts s t.s
  else if t.kind = 1 ∨ t.kind = 2 then atomF o ts s t
  else .error s.at'
/-- An operator behind what there is, if one fits. -/
def operatorF (o : OpsF) (ts : List Tok) (s : RdS) : Option RdS :=
  let t := peekF ts s.at'
  if t.kind ≠ 1 ∧ t.kind ≠ 2 ∧ isP ts s.at' 44 = false then none
  else if 0 < (o.inf t.s).1 ∧ (o.inf t.s).1 ≤ s.most ∧ s.pri ≤ (o.inf t.s).2.1 then some ((s.go 1).await ⟨6, 0, t.s, (o.inf t.s).1, [s.t]⟩ (o.inf t.s).2.2)
  else if 0 < (o.post t.s).1 ∧ (o.post t.s).1 ≤ s.most ∧ s.pri ≤ (o.post t.s).2 then some ((s.go 1).done (compT t.s [s.t]) (o.post t.s).1)
  else none
/-- A whole term goes to what waits for it. -/
def backG (ts : List Tok) (s : RdS) (f : WaitF) : Except Nat RdS :=
  if f.use = 0 then (s.expect ts 41).map fun s => s.done s.t 0
  else if f.use = 1 then (s.expect ts 125).map fun s => s.done (compT [123, 125] [s.t]) 0
  else if f.use = 5 then .ok (s.done (compT f.name [s.t]) f.pri)
  else if f.use = 6 then .ok (s.done (compT f.name (f.l ++ [s.t])) f.pri)
  else if f.use = 2 then
    let f := { f with l := f.l ++ [s.t] }
    (if isP ts s.at' 44 then .ok ((s.go 1).again f 999) else (s.expect ts 41).map fun s => s.done (compT f.name f.l) 0)
  else if f.use = 3 then
    let f := { f with l := f.l ++ [s.t] }
    (if isP ts s.at' 44 then .ok ((s.go 1).again f 999)
    else if isP ts s.at' 124 then .ok ((s.go 1).again { f with use := 4 } 999)
    else (s.expect ts 93).map fun s => s.done (listT f.l nilT) 0)
  else if f.use = 4 then (s.expect ts 93).map fun s => s.done (listT f.l s.t) 0
  else .ok s
def backF (ts : List Tok) (s : RdS) (f : WaitF) (r : List WaitF) : Except Nat RdS := backG ts { s with wait := r, most := f.most } f
/-- What a round of the reader comes to: on, at its end, or wrong at a place. -/
inductive RdO
  | on (s : RdS)
  | fin (s : RdS)
  | bad (a : Nat)
def toO : Except Nat RdS → RdO
  | .ok s => .on s
  | .error a => .bad a
def roundF (o : OpsF) (ts : List Tok) (s : RdS) : RdO :=
  if s.hv = false then toO (primaryF o ts s)
  else match operatorF o ts s with
    | some s => .on s
    | none =>
      match s.wait with
      | f :: r => toO (backF ts s f r)
      | [] => if (peekF ts s.at').kind ≠ 7 then .bad s.at' else .fin s
/-- How much there is still to do, at most. -/
def leftF (ts : List Tok) (s : RdS) : Nat := 3 * (ts.length - s.at') + s.wait.length + (if s.hv then 0 else 1)
def runF (o : OpsF) (ts : List Tok) : Nat → RdS → RdO
  | 0, s => .on s
  | n + 1, s =>
    match roundF o ts s with
    | .on s => runF o ts n s
    | .fin s => .fin s
    | .bad a => .bad a
def startF (i : Nat) : RdS := ⟨i, [], 1200, false, .mk 0 0 [] [], 0, [], [], 0⟩
/-- Behind what is wrong. -/
def behindF : List Tok → Nat → Nat
  | [], i => i
  | t :: r, i => if t.kind = 7 then i + 1 else if t.kind = 0 then i else behindF r (i + 1)
/-- A clause, as it is read. -/
structure ClauseF where
  t : Tm
  names : List (List UInt8 × Int)
  line : Int
  next : Int
def noTm : Tm := .mk 0 0 [] []
def failedF (ts : List Tok) (a : Nat) : ClauseF :=
  if ts.length ≤ a then ⟨noTm, [], 0, (ts.length : Int)⟩ else ⟨noTm, [], (peekF ts a).line, (behindF (ts.drop a) a : Int)⟩
def readF (o : OpsF) (ts : List Tok) (i : Int) : ClauseF × Int :=
  if i < 0 ∨ (ts.length : Int) ≤ i ∨ (peekF ts i.toNat).kind = 0 then (⟨noTm, [], 0, 0⟩, 7)
  else match runF o ts (leftF ts (startF i.toNat) + 1) (startF i.toNat) with
    | .on _ => (⟨noTm, [], 0, 0⟩, 7)
    | .bad a => (failedF ts a, 6)
    | .fin s =>
      if s.t.may = false then (⟨noTm, [], (peekF ts i.toNat).line, (s.at' : Int) + 1⟩, 3)
      else if 2000 < s.t.deep then (⟨noTm, [], (peekF ts i.toNat).line, (s.at' : Int) + 1⟩, 4)
      else if 20000 < s.t.size then (⟨noTm, [], (peekF ts i.toNat).line, (s.at' : Int) + 1⟩, 3)
      else (⟨s.t, s.names, (peekF ts i.toNat).line, (s.at' : Int) + 1⟩, 0)

theorem peek_lt {ts : List Tok} {i : Nat} (h : (peekF ts i).kind ≠ 0) : i < ts.length := by
  rcases Nat.lt_or_ge i ts.length with h1 | h1
  · exact h1
  · unfold peekF at h
    rw [List.getD_eq_getElem?_getD, List.getElem?_eq_none h1] at h
    exact absurd rfl h
theorem isP_lt {ts : List Tok} {i : Nat} {c : UInt8} (h : isP ts i c = true) : i < ts.length := by
  apply peek_lt
  unfold isP at h
  simp at h
  omega
theorem expect_ok {ts : List Tok} {s s' : RdS} {c : UInt8} (h : s.expect ts c = .ok s') : s' = s.go 1 ∧ s.at' < ts.length := by
  unfold RdS.expect at h
  split at h
  · rename_i hp
    injection h with h
    exact ⟨h.symm, isP_lt hp⟩
  · cases h
theorem expect_map {ts : List Tok} {s s' : RdS} {c : UInt8} {f : RdS → RdS} (h : (s.expect ts c).map f = .ok s') : s' = f (s.go 1) ∧ s.at' < ts.length := by
  cases he : s.expect ts c with
  | error a => rw [he] at h; cases h
  | ok x =>
    rw [he] at h
    obtain ⟨rfl, h2⟩ := expect_ok he
    injection h with h
    exact ⟨h.symm, h2⟩
theorem args_ok {ts : List Tok} {s s' : RdS} {n : List UInt8} (h : argsF ts s n = .ok s') : s' = (s.go 1).await ⟨2, 0, n, 0, []⟩ 999 ∧ s.at' < ts.length := by
  unfold argsF at h
  cases he : s.expect ts 40 with
  | error a => rw [he] at h; cases h
  | ok x =>
    rw [he] at h
    obtain ⟨rfl, h2⟩ := expect_ok he
    injection h with h
    exact ⟨h.symm, h2⟩
theorem left_done (ts : List Tok) (s : RdS) (t : Tm) (p : Int) : leftF ts (s.done t p) = 3 * (ts.length - s.at') + s.wait.length := rfl
theorem left_await (ts : List Tok) (s : RdS) (f : WaitF) (m : Int) : leftF ts (s.await f m) = 3 * (ts.length - s.at') + (s.wait.length + 1) + 1 := rfl
theorem left_again (ts : List Tok) (s : RdS) (f : WaitF) (m : Int) : leftF ts (s.again f m) = 3 * (ts.length - s.at') + (s.wait.length + 1) + 1 := rfl
theorem left_new {ts : List Tok} {s : RdS} (h : s.hv = false) : leftF ts s = 3 * (ts.length - s.at') + s.wait.length + 1 := by unfold leftF; rw [h]; rfl
theorem left_old {ts : List Tok} {s : RdS} (h : s.hv = true) : leftF ts s = 3 * (ts.length - s.at') + s.wait.length := by unfold leftF; rw [h]; rfl
theorem go_at (s : RdS) (n : Nat) : (s.go n).at' = s.at' + n := rfl
theorem go_wait (s : RdS) (n : Nat) : (s.go n).wait = s.wait := rfl
theorem var_at (s : RdS) (x : List UInt8) : (varF s x).at' = s.at' ∧ (varF s x).wait = s.wait ∧ (varF s x).hv = true := by
  unfold varF
  split
  · exact ⟨rfl, rfl, rfl⟩
  · dsimp only
    split
    · exact ⟨rfl, rfl, rfl⟩
    · exact ⟨rfl, rfl, rfl⟩
theorem pair_less {ts : List Tok} {s s' : RdS} {c : UInt8} (hl : s.at' + 1 < ts.length) (h : pairF ts s c = .ok s') : leftF ts s' < 3 * (ts.length - s.at') + s.wait.length + 1 := by
  unfold pairF at h
  dsimp only at h
  split at h
  · obtain ⟨rfl, h2⟩ := args_ok h
    rw [left_await, go_at, go_at, go_wait, go_wait]
    rw [go_at] at h2
    omega
  · injection h with h
    subst h
    rw [left_done, go_at, go_wait]
    omega
theorem punct_less {ts : List Tok} {s s' : RdS} {x : List UInt8} (hl : s.at' < ts.length) (h : punctF ts s x = .ok s') : leftF ts s' < 3 * (ts.length - s.at') + s.wait.length + 1 := by
  unfold punctF at h
  split at h
  · injection h with h
    subst h
    rw [left_await, go_at, go_wait]
    omega
  · split at h
    · split at h
      · rename_i hp
        exact pair_less (isP_lt hp) h
      · injection h with h
        subst h
        rw [left_await, go_at, go_wait]
        omega
    · split at h
      · split at h
        · rename_i hp
          exact pair_less (isP_lt hp) h
        · injection h with h
          subst h
          rw [left_await, go_at, go_wait]
          omega
      · cases h
theorem atom_less {o : OpsF} {ts : List Tok} {s s' : RdS} {t : Tok} (hl : s.at' < ts.length) (h : atomF o ts s t = .ok s') : leftF ts s' < 3 * (ts.length - s.at') + s.wait.length + 1 := by
  unfold atomF at h
  dsimp only at h
  split at h
  · injection h with h
    subst h
    rw [left_done, go_at, go_wait]
    omega
  · split at h
    · obtain ⟨rfl, h2⟩ := args_ok h
      rw [left_await, go_at, go_at, go_wait, go_wait]
      rw [go_at] at h2
      omega
    · split at h
      · injection h with h
        subst h
        rw [left_await, go_at, go_wait]
        omega
      · injection h with h
        subst h
        rw [left_done, go_at, go_wait]
        omega
theorem primary_less {o : OpsF} {ts : List Tok} {s s' : RdS} (h : primaryF o ts s = .ok s') : leftF ts s' < 3 * (ts.length - s.at') + s.wait.length + 1 := by
  unfold primaryF at h
  dsimp only at h
  split at h
  · rename_i hk
    have hl : s.at' < ts.length := peek_lt (by rw [hk]; decide)
    split at h
    · cases h
    · injection h with h
      subst h
      rw [left_done, go_at, go_wait]
      omega
  · split at h
    · rename_i hk
      have hl : s.at' < ts.length := peek_lt (by rw [hk]; decide)
      injection h with h
      subst h
      obtain ⟨h1, h2, h3⟩ := var_at (s.go 1) (peekF ts s.at').s
      rw [left_old h3, h1, h2, go_at, go_wait]
      omega
    · split at h
      · rename_i hk
        have hl : s.at' < ts.length := peek_lt (by rw [hk]; decide)
        injection h with h
        subst h
        rw [left_done, go_at, go_wait]
        omega
      · split at h
        · rename_i hk
          exact punct_less (peek_lt (by rw [hk]; decide)) h
        · split at h
          · rename_i hk
            exact atom_less (peek_lt (by rcases hk with hk | hk <;> rw [hk] <;> decide)) h
          · cases h
theorem operator_less {o : OpsF} {ts : List Tok} {s s' : RdS} (h : operatorF o ts s = some s') : leftF ts s' < 3 * (ts.length - s.at') + s.wait.length := by
  unfold operatorF at h
  dsimp only at h
  split at h
  · cases h
  · rename_i hk
    have hl : s.at' < ts.length := by
      by_cases h1 : (peekF ts s.at').kind = 1
      · exact peek_lt (by rw [h1]; decide)
      · by_cases h2 : (peekF ts s.at').kind = 2
        · exact peek_lt (by rw [h2]; decide)
        · cases h3 : isP ts s.at' 44 with
          | true => exact isP_lt h3
          | false => exact absurd ⟨h1, h2, h3⟩ hk
    split at h
    · injection h with h
      subst h
      rw [left_await, go_at, go_wait]
      omega
    · split at h
      · injection h with h
        subst h
        rw [left_done, go_at, go_wait]
        omega
      · cases h
theorem backG_less {ts : List Tok} {s s' : RdS} {f : WaitF} (hv : s.hv = true) (h : backG ts s f = .ok s') : leftF ts s' < 3 * (ts.length - s.at') + (s.wait.length + 1) := by
  unfold backG at h
  dsimp only at h
  split at h
  · obtain ⟨rfl, h2⟩ := expect_map h
    rw [left_done]
    simp only [RdS.go] at h2 ⊢
    omega
  · split at h
    · obtain ⟨rfl, h2⟩ := expect_map h
      rw [left_done]
      simp only [RdS.go] at h2 ⊢
      omega
    · split at h
      · injection h with h
        subst h
        rw [left_done]
        omega
      · split at h
        · injection h with h
          subst h
          rw [left_done]
          omega
        · split at h
          · split at h
            · rename_i hp
              have := isP_lt hp
              injection h with h
              subst h
              rw [left_again]
              simp only [RdS.go] at this ⊢
              omega
            · obtain ⟨rfl, h2⟩ := expect_map h
              rw [left_done]
              simp only [RdS.go] at h2 ⊢
              omega
          · split at h
            · split at h
              · rename_i hp
                have := isP_lt hp
                injection h with h
                subst h
                rw [left_again]
                simp only [RdS.go] at this ⊢
                omega
              · split at h
                · rename_i hp
                  have := isP_lt hp
                  injection h with h
                  subst h
                  rw [left_again]
                  simp only [RdS.go] at this ⊢
                  omega
                · obtain ⟨rfl, h2⟩ := expect_map h
                  rw [left_done]
                  simp only [RdS.go] at h2 ⊢
                  omega
            · split at h
              · obtain ⟨rfl, h2⟩ := expect_map h
                rw [left_done]
                simp only [RdS.go] at h2 ⊢
                omega
              · injection h with h
                subst h
                rw [left_old hv]
                omega
theorem back_less {ts : List Tok} {s s' : RdS} {f : WaitF} {r : List WaitF} (hv : s.hv = true) (h : backF ts s f r = .ok s') : leftF ts s' < 3 * (ts.length - s.at') + (r.length + 1) := backG_less (s := { s with wait := r, most := f.most }) hv h
/-- Each round has less to do than the one ahead. -/
theorem round_less {o : OpsF} {ts : List Tok} {s s' : RdS} (h : roundF o ts s = .on s') : leftF ts s' < leftF ts s := by
  unfold roundF at h
  split at h
  · rename_i hv
    rw [left_new hv]
    cases hp : primaryF o ts s with
    | error a => rw [hp] at h; cases h
    | ok x =>
      rw [hp] at h
      injection h with h
      subst h
      exact primary_less hp
  · rename_i hv
    have hv : s.hv = true := by simpa using hv
    rw [left_old hv]
    split at h
    · rename_i x hx
      injection h with h
      subst h
      exact operator_less hx
    · split at h
      · rename_i f r hw
        cases hb : backF ts s f r with
        | error a => rw [hb] at h; cases h
        | ok x =>
          rw [hb] at h
          injection h with h
          subst h
          rw [hw]
          exact back_less hv hb
      · split at h
        · cases h
        · cases h
theorem run_step (o : OpsF) (ts : List Tok) (n : Nat) (s : RdS) : runF o ts (n + 1) s = match roundF o ts s with
    | .on s => runF o ts n s
    | .fin s => .fin s
    | .bad a => .bad a := rfl
/-- More rounds than are needed turn nothing. -/
theorem run_more (o : OpsF) (ts : List Tok) : ∀ (n m : Nat) (s : RdS), leftF ts s < n → leftF ts s < m → runF o ts n s = runF o ts m s
  | 0, _, _, h, _ => absurd h (Nat.not_lt_zero _)
  | _, 0, _, _, h => absurd h (Nat.not_lt_zero _)
  | n + 1, m + 1, s, h1, h2 => by
    rw [run_step, run_step]
    cases hr : roundF o ts s with
    | on s' =>
      have := round_less hr
      exact run_more o ts n m s' (by omega) (by omega)
    | fin s' => rfl
    | bad a => rfl
/-- What the reader comes to from a state on. -/
def endF (o : OpsF) (ts : List Tok) (s : RdS) : RdO := runF o ts (leftF ts s + 1) s
theorem end_step (o : OpsF) (ts : List Tok) (s : RdS) : endF o ts s = match roundF o ts s with
    | .on s => endF o ts s
    | .fin s => .fin s
    | .bad a => .bad a := by
  unfold endF
  rw [run_step]
  cases hr : roundF o ts s with
  | on s' =>
    have := round_less hr
    exact run_more o ts _ _ s' (by omega) (by omega)
  | fin s' => rfl
  | bad a => rfl
end Go.Proofs.YtmgidfndifhcoaaDoor
/-
  Appends as run equations, for the walks and for regions that draw their order. Conditions: the rows are the call's own; the sizes that are named.
-/
namespace Go.Proofs.YtmgidfndifhcoaaDoor
open Go.RowKit

theorem Row.cap_le {α : Type} {w : World} {B sz n cap : Nat} {A : Option Addr} {e : TypeId} {enc : α → List Value} {l : List α} (h : Row w B e sz enc (.slice A n cap) l) : n ≤ cap := by
  rcases h.own.2 with ⟨e1, _⟩ | ⟨g, cap', cur, e1, _, _, hn, _⟩
  · injection e1 with _ a b; omega
  · injection e1 with _ a b; omega
theorem wpList_run {P : Program} {w w' : World} {ops : Array Oper} {rest : List Oper} {o : Oper} {a : Act} {Q : Exit → Act → World → Prop} (hgd : o.guard = none) (s x : Operand) (t : TypeId)
    (ho : o.op = .call { callee := .builtin .append, args := #[s, x], argTypes := #[t, t] }) {v v' y : Value} (hs : a.eval s = v) (hx : a.eval x = y)
    (hrun : (Builtin.append_ #[t, t] o.type #[v, y]).run P w = .ok v' w') (h : wpList P ops Q rest (a.put o.dst v') w') : wpList P ops Q (o :: rest) a w := by
  refine wpList_plain hgd fun K hK => ?_
  unfold Oper.wp
  simp [execOp, ho, resolve, invoke, builtin, hs, hx, hrun, Result.andThen]
  exact hK _ _ h
theorem drew_drew (w : World) (a b : Nat) : (w.drewN a).drewN b = w.drewN (a + b) := by simp [World.drewN, Nat.add_assoc]
theorem step_run {P : Program} {w w' : World} {ops : Array Oper} {o : Oper} {a : Act} {K : Act → World → Prop} {Q : Exit → Act → World → Prop} {E : Prop} (hgd : o.guard = none) (s x : Operand) (t : TypeId)
    (ho : o.op = .call { callee := .builtin .append, args := #[s, x], argTypes := #[t, t] }) {v v' y : Value} (hs : a.eval s = v) (hx : a.eval x = y)
    (hrun : (Builtin.append_ #[t, t] o.type #[v, y]).run P w = .ok v' w') (h : K (a.put o.dst v') w') : if Region.wanted o (yielded ops a.tmps) = true then Oper.wp P o a w K Q else E := by
  have hw : Region.wanted o (yielded ops a.tmps) = true := by simp [Region.wanted, hgd]
  rw [if_pos hw]
  unfold Oper.wp
  simp [execOp, ho, resolve, invoke, builtin, hs, hx, hrun, Result.andThen]
  exact h
theorem cell_made (w : World) (cs : Array Value) (t : TypeId) (i : Nat) (u : Value) (h : cs[i]? = some u) : (w.alloc (.cells cs t)).cell? ⟨w.heap.size, i, none⟩ = some u := by
  rw [cell_of_row _ _ i cs t (0, 0) (heap_alloc_new w _)]
  exact h
section
variable {P : Program} {α : Type} {w : World} {B sz : Nat} {e : TypeId} {enc : α → List Value}
/-- A slice literal of one element. -/
theorem Row.one (henc : ∀ x, (enc x).length = sz) (w : World) (x : α) (hB : B ≤ w.heap.size) : Row (w.alloc (.cells (enc x).toArray e)) B e sz enc (.slice (some ⟨w.heap.size, 0, none⟩) 1 1) [x] := by
  refine ⟨by simp [henc], .inr ⟨w.heap.size, 1, (enc x).toArray, rfl, hB, heap_alloc_new w _, Nat.le_refl _, by unfold maxLen; omega, by simp [henc], ?_⟩⟩
  rw [List.flatMap_cons, List.flatMap_nil, List.append_nil]
  simp only [List.length_cons, List.length_nil, Nat.zero_add, Nat.one_mul]
  exact List.take_of_length_le (by rw [henc]; exact Nat.le_refl _)
/-- One element is appended: the new slice lies in the old row, or in the block that is made now. -/
theorem Row.push {t : TypeId} (t' : TypeId) {i : TypeInfo} {z : Value} {bytes : Nat} (ht : P.underlying t = some (.slice e)) (hi : P.info? e = some i) (hz : i.zero = some z) (hsize : i.size = sz) (hby : i.bytes = bytes) (hzs : z.cells.size = sz) (hsz : 0 < sz)
    (henc : ∀ x, (enc x).length = sz) (h1 : ∀ x, ∀ u ∈ enc x, u.oneCell' = true) {v : Value} {l : List α} (h : Row w B e sz enc v l) (y : α) (g cap : Nat) (hnews : ∀ j u, (enc y)[j]? = some u → w.cell? ⟨g, j, none⟩ = some u)
    (h63 : l.length + 1 ≤ maxLen) (hbytes : (l.length + 1) * bytes ≤ 140737488355328) (hbase : B ≤ w.heap.size) :
    ∃ g' cap' w', (Builtin.append_ #[t, t] t' #[v, .slice (some ⟨g, 0, none⟩) 1 cap]).run P w = .ok (.slice (some ⟨g', 0, none⟩) (l.length + 1) cap') w' ∧ Row w' B e sz enc (.slice (some ⟨g', 0, none⟩) (l.length + 1) cap') (l ++ [y]) ∧ w.grownBy w' v.ownBlock ∧
      (v.ownBlock = some g' ∨ g' = w.heap.size) := by
  obtain ⟨g', cap', w', e1, e2, e3, e4, _⟩ := run_append_lies (P := P) w t t' B e i z sz bytes ht hi hz hsize hby hzs hsz v l.length (l.flatMap enc) h.own ⟨g, 0, none⟩ 1 cap (enc y) (by rw [henc, Nat.one_mul])
    (fun j u hu => by
      have : (⟨g, 0, none⟩ : Addr).add j = ⟨g, j, none⟩ := by unfold Addr.add; split <;> simp_all
      rw [this]
      exact hnews j u hu) (h1 y) (by omega) h63 hbytes hbase w.heap.size rfl
  refine ⟨g', cap', w', e1, ⟨?_⟩, e3, e4⟩
  rw [List.flatMap_append, List.length_append]
  simpa using e2
end
def allocs : World → List Obj → World
  | w, [] => w
  | w, o :: r => allocs (w.alloc o) r
theorem allocs_size : ∀ (w : World) (l : List Obj), (allocs w l).heap.size = w.heap.size + l.length
  | w, [] => rfl
  | w, o :: r => by rw [allocs, allocs_size, List.length_cons]; simp; omega
theorem allocs_below : ∀ (w : World) (l : List Obj), Below w.heap.size w (allocs w l)
  | w, [] => Below.refl _ _
  | w, o :: r => ((Below.refl w.heap.size w).alloc (Nat.le_refl _) o).trans ((allocs_below (w.alloc o) r).mono (by simp))
theorem allocs_at : ∀ (w : World) (l : List Obj) (i : Nat) (o : Obj), l[i]? = some o → (allocs w l).heap[w.heap.size + i]? = some o
  | w, [], i, o, h => by simp at h
  | w, x :: r, 0, o, h => by
    simp at h
    subst h
    rw [allocs, Nat.add_zero, (allocs_below (w.alloc x) r).block w.heap.size (by simp)]
    exact heap_alloc_new w _
  | w, x :: r, i + 1, o, h => by
    have := allocs_at (w.alloc x) r i o (by simpa using h)
    rw [allocs, show w.heap.size + (i + 1) = (w.alloc x).heap.size + i by simp; omega]
    exact this
theorem allocs_cell (w : World) (l : List Obj) (i j : Nat) (cs : Array Value) (t : TypeId) (u : Value) (h : l[i]? = some (.cells cs t)) (hu : cs[j]? = some u) : (allocs w l).cell? ⟨w.heap.size + i, j, none⟩ = some u := by
  rw [cell_of_row _ _ j cs t (0, 0) (allocs_at w l i _ h)]
  exact hu

end Go.Proofs.YtmgidfndifhcoaaDoor
/-
  What term.may answers of any part; what measure.take does with it. Condition: the part's name and count can be read.
-/
namespace Go.Proofs.YtmgidfndifhcoaaDoor
open Go.RowKit
set_option maxRecDepth 100000

set_option maxHeartbeats 4000000 in
theorem may_any (w : World) (x : TV) (hs : x.s.length ≤ maxLen) (hl : x.len ≤ maxLen) :
    Calls Tryd.prog 88 #[tvV x] w fun e w' => e = .returned (.bool (mayP x.k x.n x.s x.len)) ∧ Below w.heap.size w w' := by
  obtain ⟨k, n, s, A, m, c⟩ := x
  simp only at hs hl
  unfold tvV
  simp only
  obtain ⟨r, hr⟩ : ∃ r, r = mayP k n s m := ⟨_, rfl⟩
  rw [← hr]
  have HRR := Lib.hid hr
  have hs' : (s.length : Int) ≤ 9223372036854775807 := by unfold maxLen at hs; omega
  have hm' : (m : Int) ≤ 9223372036854775807 := by unfold maxLen at hl; omega
  clear hr hs hl
  by_cases h1 : k = 1
  · subst h1
    go_enter Tryd.func88, Tryd.ntmps88
    go_wp2_with fail
    all_goals
      go_ret
      refine ⟨?_, (Below.refl _ _).alloc (Nat.le_refl _) _⟩
      have h := HRR.out
      clear HRR
      subst h
      congr 2
      simp_all [mayP] <;> (first | (intros; omega) | (rw [Bool.eq_iff_iff]; simp; omega) | (rw [Bool.eq_iff_iff]; simp))
  by_cases h2 : k = 2
  · subst h2
    clear h1
    go_enter Tryd.func88, Tryd.ntmps88
    go_wp2_with fail
    all_goals
      go_ret
      refine ⟨?_, (Below.refl _ _).alloc (Nat.le_refl _) _⟩
      have h := HRR.out
      clear HRR
      subst h
      congr 2
      simp_all [mayP] <;> (first | (intros; omega) | (rw [Bool.eq_iff_iff]; simp; omega) | (rw [Bool.eq_iff_iff]; simp))
  by_cases h3 : k = 3
  · subst h3
    clear h1 h2
    go_enter Tryd.func88, Tryd.ntmps88
    go_wp2_with fail
    all_goals
      go_ret
      refine ⟨?_, (Below.refl _ _).alloc (Nat.le_refl _) _⟩
      have h := HRR.out
      clear HRR
      subst h
      congr 2
      simp_all [mayP] <;> (first | (intros; omega) | (rw [Bool.eq_iff_iff]; simp; omega) | (rw [Bool.eq_iff_iff]; simp))
  by_cases h4 : k = 4
  · subst h4
    clear h1 h2 h3
    go_enter Tryd.func88, Tryd.ntmps88
    go_wp2_with fail
    all_goals
      go_ret
      refine ⟨?_, (Below.refl _ _).alloc (Nat.le_refl _) _⟩
      have h := HRR.out
      clear HRR
      subst h
      congr 2
      simp_all [mayP] <;> (first | (intros; omega) | (rw [Bool.eq_iff_iff]; simp; omega) | (rw [Bool.eq_iff_iff]; simp))
  · go_enter Tryd.func88, Tryd.ntmps88
    go_wp2_with fail
    all_goals
      go_ret
      refine ⟨?_, (Below.refl _ _).alloc (Nat.le_refl _) _⟩
      have h := HRR.out
      clear HRR
      subst h
      congr 2
      simp_all [mayP]

/-- What term.measure holds. -/
structure Meas where
  bad : Bool
  size : Nat
  deep : Nat
def MeasAt (w : World) (b : Nat) (m : Meas) : Prop := w.heap[b]? = some (.cells #[.bool m.bad, .int .i64 m.size, .int .i64 m.deep] 103 (0, 0))
def Meas.step (m : Meas) (k n : Int) (s : List UInt8) (a d : Nat) : Meas := ⟨m.bad || !mayP k n s a, m.size + 1, max m.deep d⟩
theorem blk_put {w : World} {b i : Nat} {cs : Array Value} {t : TypeId} {fr : Nat × Nat} (h : w.heap[b]? = some (.cells cs t fr)) (u : Value) : (w.setCell ⟨b, i, none⟩ u).heap[b]? = some (.cells (cs.setIfInBounds i u) t fr) := by
  simp [World.setCell, Array.getElem?_modify, h]

theorem meas_cells {w1 : World} {b : Nat} {a0 a1 a2 : Value} {t : TypeId} (h : w1.heap[b]? = some (.cells #[a0, a1, a2] t (0, 0))) :
    w1.cell? ⟨b, 0, none⟩ = some a0 ∧ w1.cell? ⟨b, 1, none⟩ = some a1 ∧ w1.cell? ⟨b, 2, none⟩ = some a2 ∧ (∀ o, w1.frozen? ⟨b, o, none⟩ = false) :=
  ⟨by rw [cell_of_row w1 b 0 _ t (0, 0) h]; rfl, by rw [cell_of_row w1 b 1 _ t (0, 0) h]; rfl, by rw [cell_of_row w1 b 2 _ t (0, 0) h]; rfl, fun o => by simp [World.frozen?, h]⟩
set_option maxHeartbeats 4000000 in
theorem take_any (w : World) (b : Nat) (m : Meas) (x : TV) (d : Nat) (hs : x.s.length ≤ maxLen) (hl : x.len ≤ maxLen) (hb : MeasAt w b m) (hsz : m.size ≤ 1000000000) :
    Calls Tryd.prog 69 #[.pointer (some ⟨b, 0, none⟩), tvV x, .int .i64 d] w fun e w' => e = .returned (.tuple #[]) ∧ MeasAt w' b (m.step x.k x.n x.s x.len d) ∧ Fr (fun k => k = b) w w' := by
  have HM : Hid (∀ W : World, Calls Tryd.prog 88 #[tvV x] W fun e W' => e = .returned (.bool (mayP x.k x.n x.s x.len)) ∧ Below W.heap.size W W') := Lib.hid fun W => may_any W x hs hl
  obtain ⟨k, n, s, A, a, c⟩ := x
  unfold tvV at *
  simp only at HM ⊢
  unfold Meas.step
  generalize mayP k n s a = q at *
  obtain ⟨bad, sz, dp⟩ := m
  simp only at hsz ⊢
  have hbl : b < w.heap.size := (Array.getElem?_eq_some_iff.1 hb).1
  have hne : b ≠ w.heap.size := by omega
  unfold MeasAt at hb
  simp only at hb
  have c0 : w.cell? ⟨b, 0, none⟩ = some (.bool bad) := by rw [cell_of_row w b 0 _ _ (0, 0) hb]; rfl
  have c1 : w.cell? ⟨b, 1, none⟩ = some (.int .i64 sz) := by rw [cell_of_row w b 1 _ _ (0, 0) hb]; rfl
  have c2 : w.cell? ⟨b, 2, none⟩ = some (.int .i64 dp) := by rw [cell_of_row w b 2 _ _ (0, 0) hb]; rfl
  have hf : ∀ o, w.frozen? ⟨b, o, none⟩ = false := fun o => by simp [World.frozen?, hb]
  have HB := Lib.hid hb
  clear hb
  by_cases hdd : dp < d
  · have hmax : max dp d = d := by omega
    have hdd' : (dp : Int) < (d : Int) := by omega
    rw [hmax]
    clear hmax hdd
    cases q
    · go_enter Tryd.func69, Tryd.ntmps69
      go_wp2_with fail
      refine (HM.out _).mono ?_
      rintro e w2 ⟨rfl, hb2⟩
      have hw2 : w2.heap[b]? = some (.cells #[.bool bad, .int .i64 ((sz : Int) + 1), .int .i64 (d : Nat)] 103 (0, 0)) := by
        rw [hb2.block b (by simp [World.setCell]; omega), Below.heap_alloc _ _ _ (by simp [World.setCell]; omega)]
        exact blk_put (blk_put HB.out _) _
      have hf2 : Fr (fun k => k = b) w w2 := (((Fr.refl (fun k => k = b) w).setCell (p := ⟨b, 1, none⟩) (.inl rfl) _).setCell (p := ⟨b, 2, none⟩) (.inl rfl) _).alloc _ |>.step hb2
      have HF2 := Lib.hid hf2
      have HW2 := Lib.hid hw2
      obtain ⟨d0, d1, d2, df⟩ := meas_cells hw2
      clear hb2 hw2 hf2
      go_wp2_with fail
      go_end0
      exact ⟨rfl, by rw [Bool.not_false, Bool.or_true]; exact blk_put HW2.out _, HF2.out.setCell (p := ⟨b, 0, none⟩) (.inl rfl) _⟩
    · go_enter Tryd.func69, Tryd.ntmps69
      go_wp2_with fail
      refine (HM.out _).mono ?_
      rintro e w2 ⟨rfl, hb2⟩
      have hw2 : w2.heap[b]? = some (.cells #[.bool bad, .int .i64 ((sz : Int) + 1), .int .i64 (d : Nat)] 103 (0, 0)) := by
        rw [hb2.block b (by simp [World.setCell]; omega), Below.heap_alloc _ _ _ (by simp [World.setCell]; omega)]
        exact blk_put (blk_put HB.out _) _
      have hf2 : Fr (fun k => k = b) w w2 := (((Fr.refl (fun k => k = b) w).setCell (p := ⟨b, 1, none⟩) (.inl rfl) _).setCell (p := ⟨b, 2, none⟩) (.inl rfl) _).alloc _ |>.step hb2
      have HF2 := Lib.hid hf2
      have HW2 := Lib.hid hw2
      obtain ⟨d0, d1, d2, df⟩ := meas_cells hw2
      clear hb2 hw2 hf2
      go_wp2_with fail
      go_end0
      exact ⟨rfl, by rw [Bool.not_true, Bool.or_false]; exact HW2.out, HF2.out⟩
  · have hmax : max dp d = dp := by omega
    have hdd' : ¬ (dp : Int) < (d : Int) := by omega
    rw [hmax]
    clear hmax hdd
    cases q
    · go_enter Tryd.func69, Tryd.ntmps69
      go_wp2_with fail
      refine (HM.out _).mono ?_
      rintro e w2 ⟨rfl, hb2⟩
      have hw2 : w2.heap[b]? = some (.cells #[.bool bad, .int .i64 ((sz : Int) + 1), .int .i64 (dp : Nat)] 103 (0, 0)) := by
        rw [hb2.block b (by simp [World.setCell]; omega), Below.heap_alloc _ _ _ (by simp [World.setCell]; omega)]
        exact blk_put (blk_put HB.out _) _
      have hf2 : Fr (fun k => k = b) w w2 := (((Fr.refl (fun k => k = b) w).setCell (p := ⟨b, 1, none⟩) (.inl rfl) _).setCell (p := ⟨b, 2, none⟩) (.inl rfl) _).alloc _ |>.step hb2
      have HF2 := Lib.hid hf2
      have HW2 := Lib.hid hw2
      obtain ⟨d0, d1, d2, df⟩ := meas_cells hw2
      clear hb2 hw2 hf2
      go_wp2_with fail
      go_end0
      exact ⟨rfl, by rw [Bool.not_false, Bool.or_true]; exact blk_put HW2.out _, HF2.out.setCell (p := ⟨b, 0, none⟩) (.inl rfl) _⟩
    · go_enter Tryd.func69, Tryd.ntmps69
      go_wp2_with fail
      refine (HM.out _).mono ?_
      rintro e w2 ⟨rfl, hb2⟩
      have hw2 : w2.heap[b]? = some (.cells #[.bool bad, .int .i64 ((sz : Int) + 1), .int .i64 (dp : Nat)] 103 (0, 0)) := by
        rw [hb2.block b (by simp [World.setCell]; omega), Below.heap_alloc _ _ _ (by simp [World.setCell]; omega)]
        exact blk_put (blk_put HB.out _) _
      have hf2 : Fr (fun k => k = b) w w2 := (((Fr.refl (fun k => k = b) w).setCell (p := ⟨b, 1, none⟩) (.inl rfl) _).setCell (p := ⟨b, 2, none⟩) (.inl rfl) _).alloc _ |>.step hb2
      have HF2 := Lib.hid hf2
      have HW2 := Lib.hid hw2
      obtain ⟨d0, d1, d2, df⟩ := meas_cells hw2
      clear hb2 hw2 hf2
      go_wp2_with fail
      go_end0
      exact ⟨rfl, by rw [Bool.not_true, Bool.or_false]; exact HW2.out, HF2.out⟩
end Go.Proofs.YtmgidfndifhcoaaDoor
