import Derived.Test.YtjdnigepnfeboaaGreatDoorJG05
import Derived.Test.YtjdnigepnfeboaaGreatDoorJG08
import Derived.StillTailTactics
namespace Go.Proofs.YtjdnigepnfeboaaGreatDoor
structure OpsF where
 pre : List UInt8 → Int × Int
 inf : List UInt8 → Int × Int × Int
 post : List UInt8 → Int × Int
structure WaitF where
 use : Int
 most : Int
 name : List UInt8
 pri : Int
 l : List Tm
structure RdS where
 at' : Nat
 wait : List WaitF
 most : Int
 hv : Bool
 t : Tm
 pri : Int
 vars : List (List UInt8 × Int)
 names : List (List UInt8 × Int)
 cnt : Int
def noTok : Tok := ⟨0, 0, 0, [], false, false⟩
def peekF (ts : List Tok) (i : Nat) : Tok := ts.getD i noTok
def isP (ts : List Tok) (i : Nat) (c : UInt8) : Bool := decide ((peekF ts i).kind = 6) && decide ((peekF ts i).s = [c])
def intT (n : Int) : Tm := .mk 2 n [] []
def negI (n : Int) : Int := if n = -9223372036854775808 then n else -n
def varT (n : Int) : Tm := .mk 1 n [] []
def atomT (s : List UInt8) : Tm := .mk 3 0 s []
def compT (s : List UInt8) (l : List Tm) : Tm := .mk 4 0 s l
def listT (l : List Tm) (tail : Tm) : Tm := l.foldr (fun x t => compT [46] [x, t]) tail
def nilT : Tm := atomT [91, 93]
def RdS.done (s : RdS) (t : Tm) (pri : Int) : RdS := { s with t := t, pri := pri, hv := true }
def RdS.go (s : RdS) (n : Nat) : RdS := { s with at' := s.at' + n }
def RdS.want (s : RdS) (most : Int) : RdS := { s with most := most, hv := false }
def RdS.again (s : RdS) (f : WaitF) (most : Int) : RdS := { s with wait := f :: s.wait, most := most, hv := false }
def RdS.await (s : RdS) (f : WaitF) (most : Int) : RdS := s.again { f with most := s.most } most
def RdS.expect (ts : List Tok) (s : RdS) (c : UInt8) : Except Nat RdS := if isP ts s.at' c then .ok (s.go 1) else .error s.at'
def argsF (ts : List Tok) (s : RdS) (name : List UInt8) : Except Nat RdS :=
 match s.expect ts 40 with
 | .error a => .error a
 | .ok s => .ok (s.await ⟨2, 0, name, 0, []⟩ 999)
def varF (s : RdS) (x : List UInt8) : RdS :=
 match s.vars.find? (fun y => decide (y.1 = x)) with
 | some y => s.done (varT y.2) 0
 | none =>
  let s' := { s with cnt := s.cnt + 1 }
  (if x = [95] then s' else { s' with vars := s.vars ++ [(x, s.cnt)], names := s.names ++ [(x, s.cnt)] }).done (varT s.cnt) 0
def pairF (ts : List Tok) (s : RdS) (c : UInt8) : Except Nat RdS :=
 let name := (peekF ts s.at').s ++ [c]
 let opn := (peekF ts (s.at' + 1)).opn
 if opn then argsF ts (s.go 2) name else .ok ((s.go 2).done (atomT name) 0)
def punctF (ts : List Tok) (s : RdS) (x : List UInt8) : Except Nat RdS :=
 if x = [40] then .ok ((s.go 1).await ⟨0, 0, [], 0, []⟩ 1200)
 else if x = [91] then (if isP ts (s.at' + 1) 93 then pairF ts s 93 else .ok ((s.go 1).await ⟨3, 0, [], 0, []⟩ 999))
 else if x = [123] then (if isP ts (s.at' + 1) 125 then pairF ts s 125 else .ok ((s.go 1).await ⟨1, 0, [], 0, []⟩ 1200))
 else .error s.at'
def beginsF (o : OpsF) (t : Tok) : Bool :=
 if t.kind = 3 ∨ t.kind = 4 ∨ t.kind = 5 then true
 else if t.kind = 6 then decide (t.s = [40] ∨ t.s = [91] ∨ t.s = [123])
 else if t.kind = 1 ∨ t.kind = 2 then
  (if t.opn then true else decide (((o.inf t.s).1 = 0 ∧ (o.post t.s).1 = 0) ∨ 0 < (o.pre t.s).1))
 else false
def atomF (o : OpsF) (ts : List Tok) (s : RdS) (t : Tok) : Except Nat RdS :=
 let n := peekF ts (s.at' + 1)
 if t.kind = 1 ∧ t.s = [45] ∧ n.kind = 3 ∧ n.tight = true then .ok ((s.go 2).done (intT (negI n.n)) 0)
 else if t.opn then argsF ts (s.go 1) t.s
 else if 0 < (o.pre t.s).1 ∧ (o.pre t.s).1 ≤ s.most ∧ beginsF o n = true then .ok ((s.go 1).await ⟨5, 0, t.s, (o.pre t.s).1, []⟩ (o.pre t.s).2)
 else .ok ((s.go 1).done (atomT t.s) 0)
def primaryF (o : OpsF) (ts : List Tok) (s : RdS) : Except Nat RdS :=
 let t := peekF ts s.at'
 if t.kind = 3 then (if t.n < 0 then .error s.at' else .ok ((s.go 1).done (intT t.n) 0))
 else if t.kind = 4 then .ok (varF (s.go 1) t.s)
 else if t.kind = 5 then .ok ((s.go 1).done (listT (t.s.map fun c => intT c.toNat) nilT) 0)
 else if t.kind = 6 then punctF ts s t.s
 else if t.kind = 1 ∨ t.kind = 2 then atomF o ts s t
 else .error s.at'
def operatorF (o : OpsF) (ts : List Tok) (s : RdS) : Option RdS :=
 let t := peekF ts s.at'
 if t.kind ≠ 1 ∧ t.kind ≠ 2 ∧ isP ts s.at' 44 = false then none
 else if 0 < (o.inf t.s).1 ∧ (o.inf t.s).1 ≤ s.most ∧ s.pri ≤ (o.inf t.s).2.1 then some ((s.go 1).await ⟨6, 0, t.s, (o.inf t.s).1, [s.t]⟩ (o.inf t.s).2.2)
 else if 0 < (o.post t.s).1 ∧ (o.post t.s).1 ≤ s.most ∧ s.pri ≤ (o.post t.s).2 then some ((s.go 1).done (compT t.s [s.t]) (o.post t.s).1)
 else none
def backG (ts : List Tok) (s : RdS) (f : WaitF) : Except Nat RdS :=
 if f.use = 0 then (s.expect ts 41).map fun s => s.done s.t 0
 else if f.use = 1 then (s.expect ts 125).map fun s => s.done (compT [123, 125] [s.t]) 0
 else if f.use = 5 then .ok (s.done (compT f.name [s.t]) f.pri)
 else if f.use = 6 then .ok (s.done (compT f.name (f.l ++ [s.t])) f.pri)
 else if f.use = 2 then
  let f := { f with l := f.l ++ [s.t] }
  (if isP ts s.at' 44 then .ok ((s.go 1).again f 999) else (s.expect ts 41).map fun s => s.done (compT f.name f.l) 0)
 else if f.use = 3 then
  let f := { f with l := f.l ++ [s.t] }
  (if isP ts s.at' 44 then .ok ((s.go 1).again f 999)
  else if isP ts s.at' 124 then .ok ((s.go 1).again { f with use := 4 } 999)
  else (s.expect ts 93).map fun s => s.done (listT f.l nilT) 0)
 else if f.use = 4 then (s.expect ts 93).map fun s => s.done (listT f.l s.t) 0
 else .ok s
def backF (ts : List Tok) (s : RdS) (f : WaitF) (r : List WaitF) : Except Nat RdS := backG ts { s with wait := r, most := f.most } f
inductive RdO
 | on (s : RdS)
 | fin (s : RdS)
 | bad (a : Nat)
def toO : Except Nat RdS → RdO
 | .ok s => .on s
 | .error a => .bad a
def roundF (o : OpsF) (ts : List Tok) (s : RdS) : RdO :=
 if s.hv = false then toO (primaryF o ts s)
 else match operatorF o ts s with
  | some s => .on s
  | none =>
   match s.wait with
   | f :: r => toO (backF ts s f r)
   | [] => if (peekF ts s.at').kind ≠ 7 then .bad s.at' else .fin s
def leftF (ts : List Tok) (s : RdS) : Nat := 3 * (ts.length - s.at') + s.wait.length + (if s.hv then 0 else 1)
def runF (o : OpsF) (ts : List Tok) : Nat → RdS → RdO
 | 0, s => .on s
 | n + 1, s =>
  match roundF o ts s with
  | .on s => runF o ts n s
  | .fin s => .fin s
  | .bad a => .bad a
def startF (i : Nat) : RdS := ⟨i, [], 1200, false, .mk 0 0 [] [], 0, [], [], 0⟩
def behindF : List Tok → Nat → Nat
 | [], i => i
 | t :: r, i => if t.kind = 7 then i + 1 else if t.kind = 0 then i else behindF r (i + 1)
structure ClauseF where
 t : Tm
 names : List (List UInt8 × Int)
 line : Int
 next : Int
def noTm : Tm := .mk 0 0 [] []
def failedF (ts : List Tok) (a : Nat) : ClauseF :=
 if ts.length ≤ a then ⟨noTm, [], 0, (ts.length : Int)⟩ else ⟨noTm, [], (peekF ts a).line, (behindF (ts.drop a) a : Int)⟩
def readF (o : OpsF) (ts : List Tok) (i : Int) : ClauseF × Int :=
 if i < 0 ∨ (ts.length : Int) ≤ i ∨ (peekF ts i.toNat).kind = 0 then (⟨noTm, [], 0, 0⟩, 7)
 else match runF o ts (leftF ts (startF i.toNat) + 1) (startF i.toNat) with
  | .on _ => (⟨noTm, [], 0, 0⟩, 7)
  | .bad a => (failedF ts a, 6)
  | .fin s =>
   if s.t.may = false then (⟨noTm, [], (peekF ts i.toNat).line, (s.at' : Int) + 1⟩, 3)
   else if 2000 < s.t.deep then (⟨noTm, [], (peekF ts i.toNat).line, (s.at' : Int) + 1⟩, 4)
   else if 20000 < s.t.size then (⟨noTm, [], (peekF ts i.toNat).line, (s.at' : Int) + 1⟩, 3)
   else (⟨s.t, s.names, (peekF ts i.toNat).line, (s.at' : Int) + 1⟩, 0)
theorem peek_lt {ts : List Tok} {i : Nat} (h : (peekF ts i).kind ≠ 0) : i < ts.length := by
 rcases Nat.lt_or_ge i ts.length with h1 | h1
 ·exact h1
 ·unfold peekF at h
  rw [List.getD_eq_getElem?_getD, List.getElem?_eq_none h1] at h
  exact absurd rfl h
theorem isP_lt {ts : List Tok} {i : Nat} {c : UInt8} (h : isP ts i c = true) : i < ts.length := by
 apply peek_lt
 unfold isP at h
 simp at h
 omega
open Go.RowKit
set_option maxRecDepth 100000
theorem below_call' {w E u : World} (h : Below w.heap.size w E) (hb : Below E.heap.size E u) : Below w.heap.size w u := h.trans (hb.mono h.size)
structure ToksAt (w : World) (B : Nat) (A : Option Addr) (n : Nat) (l : List Tok) : Prop where
 len : l.length = n
 at' : ∀ (i : Nat) (t : Tok), l[i]? = some t → ∃ b off, A = some ⟨b, off, none⟩ ∧ b < B ∧ w.cell? ⟨b, off + i * 6, none⟩ = some (.int .i64 t.kind) ∧ w.cell? ⟨b, off + i * 6 + 1, none⟩ = some (.int .i64 t.line) ∧ w.cell? ⟨b, off + i * 6 + 2, none⟩ = some (.int .i64 t.n) ∧
  w.cell? ⟨b, off + i * 6 + 3, none⟩ = some (.string ⟨t.s.toArray⟩) ∧ w.cell? ⟨b, off + i * 6 + 4, none⟩ = some (.bool t.opn) ∧ w.cell? ⟨b, off + i * 6 + 5, none⟩ = some (.bool t.tight)
theorem ToksAt.keep {w w' : World} {B : Nat} {A : Option Addr} {n : Nat} {l : List Tok} (h : ToksAt w B A n l) (hb : ∀ k, k < B → w'.heap[k]? = w.heap[k]?) : ToksAt w' B A n l :=
 ⟨h.len, fun i t ht => by
  obtain ⟨b, off, h1, h2, c0, c1, c2, c3, c4, c5⟩ := h.at' i t ht
  exact ⟨b, off, h1, h2, (World.cell?_of_block (a := ⟨b, off + i * 6, none⟩) (hb b h2)).trans c0, (World.cell?_of_block (a := ⟨b, off + i * 6 + 1, none⟩) (hb b h2)).trans c1, (World.cell?_of_block (a := ⟨b, off + i * 6 + 2, none⟩) (hb b h2)).trans c2,
   (World.cell?_of_block (a := ⟨b, off + i * 6 + 3, none⟩) (hb b h2)).trans c3, (World.cell?_of_block (a := ⟨b, off + i * 6 + 4, none⟩) (hb b h2)).trans c4, (World.cell?_of_block (a := ⟨b, off + i * 6 + 5, none⟩) (hb b h2)).trans c5⟩⟩
def tokW (t : Tok) : Value := .agg #[.int .i64 t.kind, .int .i64 t.line, .int .i64 t.n, .string ⟨t.s.toArray⟩, .bool t.opn, .bool t.tight]
structure RdV where
 A : Option Addr
 n : Nat
 c : Nat
 ob : Value
 bv : Value
 wv : Value
 x : TV
 vb : Value
 nv : Value
def rdCells (v : RdV) (s : RdS) : Array Value :=
 #[.slice v.A v.n v.c, .int .i64 (s.at' : Int), v.ob, v.bv, v.wv, .int .i64 s.most, .bool s.hv, .int .i64 v.x.k, .int .i64 v.x.n, .string ⟨v.x.s.toArray⟩, .slice v.x.A v.x.len v.x.cap, .int .i64 s.pri, v.vb, v.nv, .int .i64 s.cnt]
def RdB (u : World) (rb : Nat) (v : RdV) (s : RdS) : Prop := u.heap[rb]? = some (.cells (rdCells v s) 136 (0, 0))
theorem RdB.lt {u : World} {rb : Nat} {v : RdV} {s : RdS} (h : RdB u rb v s) : rb < u.heap.size := (Array.getElem?_eq_some_iff.1 h).1
theorem RdB.later {u u' : World} {rb : Nat} {v : RdV} {s : RdS} (h : RdB u rb v s) (hb : Below u.heap.size u u') : RdB u' rb v s := (hb.block _ h.lt).trans h
theorem RdB.cell {u : World} {rb : Nat} {v : RdV} {s : RdS} (h : RdB u rb v s) {i : Nat} {x : Value} (hx : (rdCells v s)[i]? = some x) : u.cell? ⟨rb, i, none⟩ = some x := by
 rw [cell_of_row u rb i _ _ (0, 0) h]
 exact hx
theorem RdB.free {u : World} {rb : Nat} {v : RdV} {s : RdS} (h : RdB u rb v s) (o : Nat) : u.frozen? ⟨rb, o, none⟩ = false := by simp [World.frozen?, show u.heap[rb]? = _ from h]
theorem RdB.put {u : World} {rb : Nat} {v v' : RdV} {s s' : RdS} (h : RdB u rb v s) (i : Nat) (x : Value) (he : (rdCells v s).setIfInBounds i x = rdCells v' s') : RdB (u.setCell ⟨rb, i, none⟩ x) rb v' s' := by
 have := blk_put (i := i) h x
 rw [he] at this
 exact this
structure RdAt (u : World) (rb : Nat) (v : RdV) (ts : List Tok) (s : RdS) (B : Nat) : Prop where
 blk : RdB u rb v s
 toks : ToksAt u B v.A v.n ts
 base : B ≤ rb
 few : ts.length ≤ 20000
 in' : s.at' ≤ ts.length
theorem RdAt.later {u u' : World} {rb : Nat} {v : RdV} {ts : List Tok} {s : RdS} {B : Nat} (h : RdAt u rb v ts s B) (hb : Below u.heap.size u u') : RdAt u' rb v ts s B :=
 ⟨h.blk.later hb, h.toks.keep fun k hk => hb.block k (by have := h.blk.lt; have := h.base; omega), h.base, h.few, h.in'⟩
theorem RdAt.put {u : World} {rb : Nat} {v v' : RdV} {ts : List Tok} {s s' : RdS} {B : Nat} (h : RdAt u rb v ts s B) (i : Nat) (x : Value) (he : (rdCells v s).setIfInBounds i x = rdCells v' s') (hA : v'.A = v.A) (hn : v'.n = v.n) (hi : s'.at' ≤ ts.length) : RdAt (u.setCell ⟨rb, i, none⟩ x) rb v' ts s' B :=
 ⟨h.blk.put i x he, by rw [hA, hn]; exact h.toks.keep fun k hk => Deep.blk_setCell_other _ _ _ _ (by have := h.base; show k ≠ rb; omega), h.base, h.few, hi⟩
set_option maxHeartbeats 4000000 in
theorem peek_any (u : World) (rb : Nat) (v : RdV) (ts : List Tok) (s : RdS) (B : Nat) (h : RdAt u rb v ts s B) (k : Nat) (hk : k ≤ 2) :
    Calls Tryz.prog 117 #[.pointer (some ⟨rb, 0, none⟩), .int .i64 k] u fun e u' => e = .returned (tokW (peekF ts (s.at' + k))) ∧ Below u.heap.size u u' := by
 have c0 : u.cell? ⟨rb, 0, none⟩ = some (.slice v.A v.n v.c) := h.blk.cell (i := 0) rfl
 have c1 : u.cell? ⟨rb, 1, none⟩ = some (.int .i64 (s.at' : Int)) := h.blk.cell (i := 1) rfl
 have hlt := h.blk.lt
 have hf := h.few
 have hin := h.in'
 have hln := h.toks.len
 have HT := Lib.hid h.toks
 have hlu : B ≤ u.heap.size := by have := h.base; omega
 obtain ⟨A, n, c, ob, bv, wv, x, vb, nv⟩ := v
 simp only at c0 hln HT
 clear h
 obtain ⟨a, ha⟩ : ∃ a, a = s.at' := ⟨_, rfl⟩
 rw [← ha] at c1 hin ⊢
 clear ha
 by_cases hlast : a + k < ts.length
 ·have hg := List.getElem?_eq_getElem hlast
  have hp : peekF ts (a + k) = ts[a + k] := by unfold peekF; rw [List.getD_eq_getElem?_getD, hg]; rfl
  rw [hp]
  generalize ts[a + k] = t at hg
  obtain ⟨b, off, e1, e2, d0, d1, d2, d3, d4, d5⟩ := HT.out.at' _ t hg
  subst e1
  have hbl : b < u.heap.size := by omega
  have hl1 : (a : Int) + (k : Int) < (n : Int) := by omega
  have hl0 : (0 : Int) ≤ (a : Int) + (k : Int) := by omega
  have hsum : (a : Int) + (k : Int) = ((a + k : Nat) : Int) := by omega
  have hl2 : ((a + k : Nat) : Int) < (n : Int) := by omega
  have hl3 : (0 : Int) ≤ ((a + k : Nat) : Int) := by omega
  clear hg hp hln
  generalize a + k = m at *
  have hwr : IntKind.i64.wrap ((a : Int) + (k : Int)) = (m : Int) := by rw [hsum]; exact IntWalk.i64_in _ (by omega)
  have hwm : IntKind.i64.wrap (m : Int) = (m : Int) := IntWalk.i64_in _ (by omega)
  clear hsum
  unfold tokW
  go_enter Tryz.func117, Tryz.ntmps117
  go_wp2_with fail
  go_quiet (fail)
  go_wp2_with fail
  have hbW : Below u.heap.size u ((u.alloc (.cells #[.int .i64 0, .int .i64 0, .int .i64 0, .string ⟨#[]⟩, .bool false, .bool false] 127)).drewN nq) := below_drewN' (below_alloc' (Below.refl _ _) _) nq
  have hnew : ((u.alloc (.cells #[.int .i64 0, .int .i64 0, .int .i64 0, .string ⟨#[]⟩, .bool false, .bool false] 127)).drewN nq).heap[u.heap.size]? = some (.cells #[.int .i64 0, .int .i64 0, .int .i64 0, .string ⟨#[]⟩, .bool false, .bool false] 127 (0, 0)) := heap_alloc_new u _
  generalize (u.alloc (.cells #[.int .i64 0, .int .i64 0, .int .i64 0, .string ⟨#[]⟩, .bool false, .bool false] 127)).drewN nq = W at hbW hnew ⊢
  have w0 := (hbW.cell (p := ⟨rb, 0, none⟩) hlt).trans c0
  have w1 := (hbW.cell (p := ⟨rb, 1, none⟩) hlt).trans c1
  have y0 := (hbW.cell (p := ⟨b, off + m * 6, none⟩) hbl).trans d0
  have y1 := (hbW.cell (p := ⟨b, off + m * 6 + 1, none⟩) hbl).trans d1
  have y2 := (hbW.cell (p := ⟨b, off + m * 6 + 2, none⟩) hbl).trans d2
  have y3 := (hbW.cell (p := ⟨b, off + m * 6 + 3, none⟩) hbl).trans d3
  have y4 := (hbW.cell (p := ⟨b, off + m * 6 + 4, none⟩) hbl).trans d4
  have y5 := (hbW.cell (p := ⟨b, off + m * 6 + 5, none⟩) hbl).trans d5
  obtain ⟨n0, n1, n2, n3, n4, n5, nf⟩ := six_at hnew
  have HBW := Lib.hid hbW
  clear c0 c1 d0 d1 d2 d3 d4 d5 hbW hnew
  (refine wp_region_still_tail 12 (by kernel_rfl) (by kernel_rfl) ?_; simp only [List.take_succ_cons, List.take_zero, List.drop_succ_cons, List.drop_zero]; repeat (with_reducible refine wpStill_step ?_; intro KK hKK; go_simp; with_reducible refine hKK _ ?_; clear hKK KK)); try (with_reducible refine wpStill_nil ?_)
  go_wp2_with fail
  have hul : u.heap.size < W.heap.size := World.block_lt_of_cell? W _ n0
  exact bodyPost_ret (v := .agg #[.int .i64 t.kind, .int .i64 t.line, .int .i64 t.n, .string ⟨t.s.toArray⟩, .bool t.opn, .bool t.tight]) (by simp [results, Tryz.results117, go_sem, n0, n1, n2, n3, n4, n5]) rfl
   ⟨rfl, ((((((HBW.out.setCell (p := ⟨u.heap.size, 0, none⟩) (Nat.le_refl _) _).setCell (p := ⟨u.heap.size, 1, none⟩) (Nat.le_refl _) _).setCell (p := ⟨u.heap.size, 2, none⟩) (Nat.le_refl _) _).setCell (p := ⟨u.heap.size, 3, none⟩) (Nat.le_refl _) _).setCell (p := ⟨u.heap.size, 4, none⟩) (Nat.le_refl _) _).setCell (p := ⟨u.heap.size, 5, none⟩) (Nat.le_refl _) _).drew⟩
 ·have hp : peekF ts (a + k) = noTok := by unfold peekF; rw [List.getD_eq_getElem?_getD, List.getElem?_eq_none (by omega)]; rfl
  rw [hp]
  have hl1 : ¬ ((a : Int) + (k : Int) < (n : Int)) := by omega
  have hsum : (a : Int) + (k : Int) = ((a + k : Nat) : Int) := by omega
  have hwr : IntKind.i64.wrap ((a : Int) + (k : Int)) = ((a + k : Nat) : Int) := by rw [hsum]; exact IntWalk.i64_in _ (by omega)
  have hwm : IntKind.i64.wrap ((a + k : Nat) : Int) = ((a + k : Nat) : Int) := IntWalk.i64_in _ (by omega)
  have hge : n ≤ a + k := by omega
  clear hp hsum
  generalize a + k = m at *
  unfold tokW noTok
  go_enter Tryz.func117, Tryz.ntmps117
  go_wp2_with fail
  go_quiet (fail)
  have hbW : Below u.heap.size u ((u.alloc (.cells #[.int .i64 0, .int .i64 0, .int .i64 0, .string ⟨#[]⟩, .bool false, .bool false] 127)).drewN nq) := below_drewN' (below_alloc' (Below.refl _ _) _) nq
  have hnew : ((u.alloc (.cells #[.int .i64 0, .int .i64 0, .int .i64 0, .string ⟨#[]⟩, .bool false, .bool false] 127)).drewN nq).heap[u.heap.size]? = some (.cells #[.int .i64 0, .int .i64 0, .int .i64 0, .string ⟨#[]⟩, .bool false, .bool false] 127 (0, 0)) := heap_alloc_new u _
  generalize (u.alloc (.cells #[.int .i64 0, .int .i64 0, .int .i64 0, .string ⟨#[]⟩, .bool false, .bool false] 127)).drewN nq = W at hbW hnew ⊢
  obtain ⟨n0, n1, n2, n3, n4, n5, nf⟩ := six_at hnew
  have HBW := Lib.hid hbW
  clear hbW hnew
  go_wp2_with fail
  have hul : u.heap.size < W.heap.size := World.block_lt_of_cell? W _ n0
  exact bodyPost_ret (v := .agg #[.int .i64 0, .int .i64 0, .int .i64 0, .string ⟨#[]⟩, .bool false, .bool false]) (by simp [results, Tryz.results117, go_sem, n0, n1, n2, n3, n4, n5]) rfl
   ⟨rfl, (((((HBW.out.setCell (p := ⟨u.heap.size, 0, none⟩) (Nat.le_refl _) _).setCell (p := ⟨u.heap.size, 1, none⟩) (Nat.le_refl _) _).setCell (p := ⟨u.heap.size, 2, none⟩) (Nat.le_refl _) _).setCell (p := ⟨u.heap.size, 3, none⟩) (Nat.le_refl _) _).setCell (p := ⟨u.heap.size, 4, none⟩) (Nat.le_refl _) _).setCell (p := ⟨u.heap.size, 5, none⟩) (Nat.le_refl _) _⟩
set_option maxHeartbeats 4000000 in
theorem is_any (u : World) (rb : Nat) (v : RdV) (ts : List Tok) (s : RdS) (B : Nat) (h : RdAt u rb v ts s B) (k : Nat) (hk : k ≤ 2) (c : UInt8) :
    Calls Tryz.prog 207 #[.pointer (some ⟨rb, 0, none⟩), .int .i64 k, .string ⟨#[c]⟩] u fun e u' => e = .returned (.bool (isP ts (s.at' + k) c)) ∧ Below u.heap.size u u' := by
 have HA := Lib.hid h
 have hlt := h.blk.lt
 clear h
 unfold isP
 go_enter Tryz.func207, Tryz.ntmps207
 go_wp2_with fail
 refine (peek_any _ rb v ts s B HA.out k hk).mono ?_
 rintro e w1 ⟨rfl, hb⟩
 simp only [tokW]
 go_wp2_with fail
 all_goals rename_i hk6
 ·refine bodyPost_ret (v := .bool ((peekF ts (s.at' + k)).s == [c])) (by simp [results, Tryz.results207, go_sem]) rfl ⟨?_, hb.alloc hb.size _⟩
  rw [decide_eq_true hk6, Bool.true_and]
  by_cases h2 : (peekF ts (s.at' + k)).s = [c]
  ·rw [decide_eq_true h2, beq_iff_eq.2 h2]
  ·rw [decide_eq_false h2, beq_eq_false_iff_ne.2 h2]
 ·exact bodyPost_ret (v := .bool false) (by simp [results, Tryz.results207, go_sem]) rfl ⟨by rw [decide_eq_false hk6]; rfl, hb.alloc hb.size _⟩
set_option maxHeartbeats 4000000 in
theorem accept_any (u : World) (rb : Nat) (v : RdV) (ts : List Tok) (s : RdS) (B : Nat) (h : RdAt u rb v ts s B) (c : UInt8) :
    Calls Tryz.prog 212 #[.pointer (some ⟨rb, 0, none⟩), .string ⟨#[c]⟩] u fun e u' => e = .returned (.bool (isP ts s.at' c)) ∧ RdAt u' rb v ts (if isP ts s.at' c then s.go 1 else s) B ∧ Fr (· = rb) u u' := by
 have HA := Lib.hid h
 have hlt := h.blk.lt
 clear h
 obtain ⟨s', hs'⟩ : ∃ s', s' = (if isP ts s.at' c then s.go 1 else s) := ⟨_, rfl⟩
 rw [← hs']
 go_enter Tryz.func212, Tryz.ntmps212
 go_wp2_with fail
 refine (is_any _ rb v ts s B HA.out 0 (by omega) c).mono ?_
 rintro e w1 ⟨rfl, hb⟩
 have HA1 := Lib.hid (HA.out.later hb)
 have hP : s.at' + 0 = s.at' := rfl
 rw [hP]
 have HB := Lib.hid hb
 clear hb hP
 cases hq : isP ts s.at' c with
 | false =>
  rw [hq, if_neg (by simp)] at hs'
  subst hs'
  go_wp2_with fail
  exact bodyPost_ret (v := .bool false) (by simp [results, Tryz.results212, go_sem]) rfl ⟨by rw [hq], HA1.out, .of_below _ HB.out⟩
 | true =>
  rw [hq, if_pos rfl] at hs'
  subst hs'
  have hl := isP_lt hq
  have c1 : w1.cell? ⟨rb, 1, none⟩ = some (.int .i64 (s.at' : Int)) := HA1.out.blk.cell (i := 1) rfl
  have cf := HA1.out.blk.free
  have hf := HA1.out.few
  have hwr : IntKind.i64.wrap ((s.at' : Int) + 1) = (s.at' : Int) + 1 := IntWalk.i64_in _ (by omega)
  go_wp2_with fail
  exact bodyPost_ret (v := .bool true) (by simp [results, Tryz.results212, go_sem]) rfl ⟨by rw [hq], HA1.out.put (s' := s.go 1) 1 _ (by simp [rdCells, RdS.go]) rfl rfl (by show s.at' + 1 ≤ _; omega), (Fr.of_below (· = rb) HB.out).setCell (p := ⟨rb, 1, none⟩) (.inl rfl) _⟩
set_option maxHeartbeats 4000000 in
theorem fail_any (u : World) (p : Value) :
    Calls Tryz.prog 112 #[p] u fun e u' => e = .panicked [{ v := .iface 295 (.agg #[]), recovered := false }] ∧ Below u.heap.size u u' := by
 go_enter Tryz.func112, Tryz.ntmps112
 go_wp2_with fail
 exact ⟨rfl, rfl, Below.refl _ _⟩
set_option maxHeartbeats 4000000 in
theorem expect_any (u : World) (rb : Nat) (v : RdV) (ts : List Tok) (s : RdS) (B : Nat) (h : RdAt u rb v ts s B) (c : UInt8) :
    Calls Tryz.prog 208 #[.pointer (some ⟨rb, 0, none⟩), .string ⟨#[c]⟩] u fun e u' => Fr (· = rb) u u' ∧
     (if isP ts s.at' c then e = .returned (.tuple #[]) ∧ RdAt u' rb v ts (s.go 1) B else e = .panicked [{ v := .iface 295 (.agg #[]), recovered := false }] ∧ RdAt u' rb v ts s B) := by
 have HA := Lib.hid h
 clear h
 cases hq : isP ts s.at' c with
 | true =>
  simp only [if_true]
  go_enter Tryz.func208, Tryz.ntmps208
  go_wp2_with fail
  refine (accept_any _ rb v ts s B HA.out c).mono ?_
  rintro e w1 ⟨rfl, h1, hF⟩
  rw [hq, if_pos rfl] at h1
  rw [hq]
  have H1 := Lib.hid h1
  have HF := Lib.hid hF
  clear h1 hF
  go_wp2_with fail
  exact bodyPost_end (v := .tuple #[]) (by simp [results, Tryz.results208, go_sem]) rfl ⟨HF.out, rfl, H1.out⟩
 | false =>
  simp only [Bool.false_eq_true, if_false]
  go_enter Tryz.func208, Tryz.ntmps208
  go_wp2_with fail
  refine (accept_any _ rb v ts s B HA.out c).mono ?_
  rintro e w1 ⟨rfl, h1, hF⟩
  rw [hq, if_neg (by simp)] at h1
  rw [hq]
  have H1 := Lib.hid h1
  have HF := Lib.hid hF
  clear h1 hF
  go_wp2_with fail
  refine (fail_any _ _).mono ?_
  rintro e w2 ⟨rfl, hb⟩
  exact ⟨rfl, HF.out.trans (.of_below _ hb), rfl, H1.out.later hb⟩
set_option maxHeartbeats 4000000 in
theorem want_any (u : World) (rb : Nat) (v : RdV) (ts : List Tok) (s : RdS) (B : Nat) (h : RdAt u rb v ts s B) (m : Int) :
    Calls Tryz.prog 121 #[.pointer (some ⟨rb, 0, none⟩), .int .i64 m] u fun e u' => e = .returned (.tuple #[]) ∧ RdAt u' rb v ts (s.want m) B ∧ u' = (u.setCell ⟨rb, 5, none⟩ (.int .i64 m)).setCell ⟨rb, 6, none⟩ (.bool false) := by
 have HA := Lib.hid h
 have c5 : u.cell? ⟨rb, 5, none⟩ = some (.int .i64 s.most) := h.blk.cell (i := 5) rfl
 have c6 : u.cell? ⟨rb, 6, none⟩ = some (.bool s.hv) := h.blk.cell (i := 6) rfl
 have cf := h.blk.free
 clear h
 go_enter Tryz.func121, Tryz.ntmps121
 go_wp2_with fail
 exact bodyPost_end (v := .tuple #[]) (by simp [results, Tryz.results121, go_sem]) rfl
  ⟨rfl, (HA.out.put (s' := { s with most := m }) 5 _ (by simp [rdCells]) rfl rfl HA.out.in').put (s' := s.want m) 6 _ (by simp [rdCells, RdS.want]) rfl rfl HA.out.in', rfl⟩
set_option maxHeartbeats 4000000 in
theorem done_any (u : World) (rb : Nat) (v : RdV) (ts : List Tok) (s : RdS) (B : Nat) (h : RdAt u rb v ts s B) (x : TV) (t : Tm) (pri : Int) :
    Calls Tryz.prog 113 #[.pointer (some ⟨rb, 0, none⟩), .agg #[.int .i64 x.k, .int .i64 x.n, .string ⟨x.s.toArray⟩, .slice x.A x.len x.cap], .int .i64 pri] u fun e u' => e = .returned (.tuple #[]) ∧ RdAt u' rb { v with x := x } ts (s.done t pri) B ∧ Fr (· = rb) u u' := by
 have HA := Lib.hid h
 have c7 : u.cell? ⟨rb, 7, none⟩ = some (.int .i64 v.x.k) := h.blk.cell (i := 7) rfl
 have c8 : u.cell? ⟨rb, 8, none⟩ = some (.int .i64 v.x.n) := h.blk.cell (i := 8) rfl
 have c9 : u.cell? ⟨rb, 9, none⟩ = some (.string ⟨v.x.s.toArray⟩) := h.blk.cell (i := 9) rfl
 have c10 : u.cell? ⟨rb, 10, none⟩ = some (.slice v.x.A v.x.len v.x.cap) := h.blk.cell (i := 10) rfl
 have c11 : u.cell? ⟨rb, 11, none⟩ = some (.int .i64 s.pri) := h.blk.cell (i := 11) rfl
 have c6 : u.cell? ⟨rb, 6, none⟩ = some (.bool s.hv) := h.blk.cell (i := 6) rfl
 have cf := h.blk.free
 have hlt := h.blk.lt
 clear h
 go_enter Tryz.func113, Tryz.ntmps113
 go_wp2_with fail
 have p1 := HA.out.put (v' := { v with x := { v.x with k := x.k } }) (s' := s) 7 (.int .i64 x.k) (by simp [rdCells]) rfl rfl HA.out.in'
 have p2 := p1.put (v' := { v with x := { v.x with k := x.k, n := x.n } }) (s' := s) 8 (.int .i64 x.n) (by simp [rdCells]) rfl rfl HA.out.in'
 have p3 := p2.put (v' := { v with x := { v.x with k := x.k, n := x.n, s := x.s } }) (s' := s) 9 (.string ⟨x.s.toArray⟩) (by simp [rdCells]) rfl rfl HA.out.in'
 have p4 := p3.put (v' := { v with x := x }) (s' := s) 10 (.slice x.A x.len x.cap) (by simp [rdCells]) rfl rfl HA.out.in'
 have p5 := p4.put (v' := { v with x := x }) (s' := { s with pri := pri }) 11 (.int .i64 pri) (by simp [rdCells]) rfl rfl HA.out.in'
 have p6 := p5.put (v' := { v with x := x }) (s' := s.done t pri) 6 (.bool true) (by simp [rdCells, RdS.done]) rfl rfl HA.out.in'
 have hF : Fr (· = rb) u ((((((u.setCell ⟨rb, 7, none⟩ (.int .i64 x.k)).setCell ⟨rb, 8, none⟩ (.int .i64 x.n)).setCell ⟨rb, 9, none⟩ (.string ⟨x.s.toArray⟩)).setCell ⟨rb, 10, none⟩ (.slice x.A x.len x.cap)).setCell ⟨rb, 11, none⟩ (.int .i64 pri)).setCell ⟨rb, 6, none⟩ (.bool true)) :=
  ((((((Fr.refl (· = rb) u).setCell (p := ⟨rb, 7, none⟩) (.inl rfl) _).setCell (p := ⟨rb, 8, none⟩) (.inl rfl) _).setCell (p := ⟨rb, 9, none⟩) (.inl rfl) _).setCell (p := ⟨rb, 10, none⟩) (.inl rfl) _).setCell (p := ⟨rb, 11, none⟩) (.inl rfl) _).setCell (p := ⟨rb, 6, none⟩) (.inl rfl) _
 exact bodyPost_end (v := .tuple #[]) (by simp [results, Tryz.results113, go_sem]) rfl
  ⟨rfl, p6.later ((Below.refl _ _).alloc (Nat.le_refl _) _), hF.alloc _⟩
structure FrV where
 use : Int
 most : Int
 name : List UInt8
 pri : Int
 A : Option Addr
 len : Nat
 cap : Nat
def encFr (f : FrV) : List Value := [.int .i64 f.use, .int .i64 f.most, .string ⟨f.name.toArray⟩, .int .i64 f.pri, .slice f.A f.len f.cap]
def frV (f : FrV) : Value := .agg #[.int .i64 f.use, .int .i64 f.most, .string ⟨f.name.toArray⟩, .int .i64 f.pri, .slice f.A f.len f.cap]
theorem encFr_len (f : FrV) : (encFr f).length = 5 := rfl
theorem encFr_one (f : FrV) : ∀ u ∈ encFr f, u.oneCell' = true := by
 intro u hu
 simp only [encFr, List.mem_cons, List.mem_nil_iff, or_false] at hu
 rcases hu with rfl | rfl | rfl | rfl | rfl <;> rfl
theorem frame_info : ∃ i z, Tryz.prog.info? 193 = some i ∧ i.zero = some z ∧ i.size = 5 ∧ i.bytes = 64 ∧ z.cells.size = 5 := by
 refine ⟨_, _, rfl, rfl, ?_, ?_, ?_⟩ <;> kernel_rfl
abbrev WRow (u : World) (rb : Nat) (wv : Value) (l : List FrV) : Prop := Row u (rb + 1) 193 5 encFr wv l
theorem five_at {w1 : World} {b : Nat} {a0 a1 a2 a3 a4 : Value} {t : TypeId} (h : w1.heap[b]? = some (.cells #[a0, a1, a2, a3, a4] t (0, 0))) :
    w1.cell? ⟨b, 0, none⟩ = some a0 ∧ w1.cell? ⟨b, 1, none⟩ = some a1 ∧ w1.cell? ⟨b, 2, none⟩ = some a2 ∧ w1.cell? ⟨b, 3, none⟩ = some a3 ∧ w1.cell? ⟨b, 4, none⟩ = some a4 ∧ (∀ o, w1.frozen? ⟨b, o, none⟩ = false) :=
 ⟨by rw [cell_of_row w1 b 0 _ t (0, 0) h]; rfl, by rw [cell_of_row w1 b 1 _ t (0, 0) h]; rfl, by rw [cell_of_row w1 b 2 _ t (0, 0) h]; rfl, by rw [cell_of_row w1 b 3 _ t (0, 0) h]; rfl, by rw [cell_of_row w1 b 4 _ t (0, 0) h]; rfl, fun o => by simp [World.frozen?, h]⟩
theorem WRow.ne {u : World} {rb : Nat} {wv : Value} {l : List FrV} (h : WRow u rb wv l) : wv.ownBlock ≠ some rb := fun e => by have := (h.lt rb e).1; omega
theorem RdAt.keep {u u' : World} {rb : Nat} {v : RdV} {ts : List Tok} {s : RdS} {B : Nat} (h : RdAt u rb v ts s B) (hr : u'.heap[rb]? = u.heap[rb]?) (hb : ∀ k, k < B → u'.heap[k]? = u.heap[k]?) : RdAt u' rb v ts s B :=
 ⟨hr.trans h.blk, h.toks.keep hb, h.base, h.few, h.in'⟩
theorem wait_behind {W W' w9 : World} {rb : Nat} {v : RdV} {ts : List Tok} {s : RdS} {B : Nat} {l : List FrV} (h : RdAt W rb v ts s B) (hr : WRow W rb v.wv l) (hb : Below W.heap.size W W') (hg : W'.grownBy w9 v.wv.ownBlock) : RdAt w9 rb v ts s B :=
 (h.later hb).keep (hg.block rb (Nat.lt_of_lt_of_le h.blk.lt hb.size) (fun e => hr.ne e.symm)) fun k hk => hg.block k (by have := h.blk.lt; have := h.base; have := hb.size; omega) fun e => by
   have := (hr.lt k e.symm).1
   have := h.base
   omega
theorem wait_pushed {u W W' w9 : World} {rb : Nat} {v : RdV} {ts : List Tok} {s : RdS} {B : Nat} {l : List FrV} {f : FrV} {nw : Value} (h : RdAt W rb v ts s B) (hr : WRow W rb v.wv l) (hu : Fr (fun k => k = rb ∨ v.wv.ownBlock = some k) u W) (hb : Below W.heap.size W W') (hg : W'.grownBy w9 v.wv.ownBlock)
    (hown : w9.ownsRow (rb + 1) 193 5 nw (l.length + 1) (l.flatMap encFr ++ encFr f)) (sf : WaitF) :
    RdAt (w9.setCell ⟨rb, 4, none⟩ nw) rb { v with wv := nw } ts { s with wait := sf :: s.wait } B ∧ WRow (w9.setCell ⟨rb, 4, none⟩ nw) rb nw (l ++ [f]) ∧ Fr (fun k => k = rb ∨ v.wv.ownBlock = some k) u (w9.setCell ⟨rb, 4, none⟩ nw) := by
 have h9 := wait_behind h hr hb hg
 have hr9 : WRow w9 rb nw (l ++ [f]) := ⟨by rw [List.length_append, List.flatMap_append]; simpa using hown⟩
 refine ⟨h9.put (v' := { v with wv := nw }) (s' := { s with wait := sf :: s.wait }) 4 nw (by simp [rdCells]) rfl rfl h9.in', Row.keep hr9 fun k hk => Below.heap_setCell _ _ _ _ fun e => hr9.ne (by rw [hk]; exact congrArg some e), ?_⟩
 exact ((hu.step hb).grown hg fun g hg' => .inl (.inr hg')).setCell (.inl (.inl rfl)) _
theorem WRow.put {u : World} {rb : Nat} {wv : Value} {l : List FrV} (h : WRow u rb wv l) (i : Nat) (x : Value) : WRow (u.setCell ⟨rb, i, none⟩ x) rb wv l :=
 Row.keep h fun k hk => Below.heap_setCell _ _ _ _ fun e => h.ne (by rw [hk]; exact congrArg some e)
set_option maxHeartbeats 8000000 in
theorem await_any (u : World) (rb : Nat) (v : RdV) (ts : List Tok) (s : RdS) (B : Nat) (h : RdAt u rb v ts s B) (l : List FrV) (hrow : WRow u rb v.wv l) (hl : l.length ≤ 100000) (f : FrV) (m : Int) (sf : WaitF) :
    Calls Tryz.prog 115 #[.pointer (some ⟨rb, 0, none⟩), frV f, .int .i64 m] u fun e u' => e = .returned (.tuple #[]) ∧ ∃ wv', RdAt u' rb { v with wv := wv' } ts (s.await sf m) B ∧ WRow u' rb wv' (l ++ [{ f with most := s.most }]) ∧
     Fr (fun k => k = rb ∨ v.wv.ownBlock = some k) u u' := by
 obtain ⟨A, cap, hsh⟩ := hrow.shape
 obtain ⟨W1, hW1⟩ : ∃ W1, W1 = u.alloc (.cells #[.int .i64 f.use, .int .i64 s.most, .string ⟨f.name.toArray⟩, .int .i64 f.pri, .slice f.A f.len f.cap] 193) := ⟨_, rfl⟩
 have hb1 : Below u.heap.size u W1 := by rw [hW1]; exact (Below.refl _ _).alloc (Nat.le_refl _) _
 have HS := Lib.hid (h.later hb1)
 have HR : Hid (WRow W1 rb v.wv l) := Lib.hid (Row.later hrow hb1)
 have hnew : W1.heap[u.heap.size]? = some (.cells #[.int .i64 f.use, .int .i64 s.most, .string ⟨f.name.toArray⟩, .int .i64 f.pri, .slice f.A f.len f.cap] 193 (0, 0)) := by rw [hW1]; exact heap_alloc_new u _
 obtain ⟨n0, n1, n2, n3, n4, nf⟩ := five_at hnew
 have hsz : W1.heap.size = u.heap.size + 1 := by rw [hW1]; simp
 have hlt := h.blk.lt
 have c5 : u.cell? ⟨rb, 5, none⟩ = some (.int .i64 s.most) := h.blk.cell (i := 5) rfl
 have c4 : W1.cell? ⟨rb, 4, none⟩ = some v.wv := HS.out.blk.cell (i := 4) rfl
 have cf := HS.out.blk.free
 have HB1 := Lib.hid hb1
 clear h hrow hnew hb1
 obtain ⟨A0, n, c, ob, bv, wv, x, vb, nv⟩ := v
 simp only at hsh
 subst hsh
 unfold frV
 obtain ⟨i0, z0, hi0, hz0, hz1, hz2, hz3⟩ := frame_info
 go_enter Tryz.func115, Tryz.ntmps115
 go_wp2_with fail
 rw [← hW1]
 clear hW1
 go_region_law
     ((refine step_append_lies _ (by rfl) _ _ _ (by rfl) (rb + 1) 193 i0 _ 5 64 Tryz.underlying134 hi0 hz0 hz1 hz2 hz3 (by omega) (.slice A l.length cap) l.length (l.flatMap encFr) (by rfl) (Row.later HR.out (by (repeat (first | exact Below.refl _ _ | refine Below.drew ?_ | refine Below.alloc ?_ (Nat.le_refl _) _)))).own
         ⟨u.heap.size + 1, 0, none⟩ 1 1 (encFr { f with most := s.most }) (by rfl) (by rfl) (World.news_of_block (cs := (encFr { f with most := s.most }).toArray) (t := 193) (fr := (0, 0)) (by rw [← hsz]; exact heap_alloc_new W1 _)) (encFr_one _)
         (by omega) (by unfold maxLen; omega) (by omega) (by simp; omega) (u.heap.size + 2) (by simp [hsz]) ?_; intro gg cap2 w9 hown9 hgrow hat9 hlt9; obtain ⟨hc9, hf9⟩ : w9.cell? ⟨rb, 4, none⟩ = some (.slice A l.length cap) ∧ w9.frozen? ⟨rb, 4, none⟩ = false := ⟨(wait_behind HS.out HR.out (by (repeat (first | exact Below.refl _ _ | refine Below.drew ?_ | refine Below.alloc ?_ (Nat.le_refl _) _))) hgrow).blk.cell (i := 4) rfl, (wait_behind HS.out HR.out (by (repeat (first | exact Below.refl _ _ | refine Below.drew ?_ | refine Below.alloc ?_ (Nat.le_refl _) _))) hgrow).blk.free 4⟩))
 all_goals
  go_wp2_with fail
  obtain ⟨r1, r2, r3⟩ := wait_pushed (u := u) HS.out HR.out (Fr.of_below _ HB1.out) (by (repeat (first | exact Below.refl _ _ | refine Below.drew ?_ | refine Below.alloc ?_ (Nat.le_refl _) _))) hgrow hown9 { sf with most := s.most }
  refine (want_any _ rb _ ts _ B r1 m).mono ?_
  rintro e w10 ⟨rfl, q1, rfl⟩
  have R2 := Lib.hid r2
  have R3 := Lib.hid r3
  have Q1 := Lib.hid q1
  clear r1 r2 r3 q1
  go_wp2_with fail
  exact bodyPost_end (v := .tuple #[]) (by simp [results, Tryz.results115, go_sem]) rfl
   ⟨rfl, _, Q1.out, (R2.out.put 5 _).put 6 _, (R3.out.setCell (p := ⟨rb, 5, none⟩) (.inl (.inl rfl)) _).setCell (p := ⟨rb, 6, none⟩) (.inl (.inl rfl)) _⟩
def gaveUp : Ending := .panicked [{ v := .iface 295 (.agg #[]), recovered := false }]
theorem WRow.fr {u u' : World} {rb : Nat} {wv : Value} {l : List FrV} (h : WRow u rb wv l) (hF : Fr (· = rb) u u') : WRow u' rb wv l :=
 Row.keep h fun k hk => hF.block k (h.lt k hk).2 fun e => h.ne (by rw [hk, e])
set_option maxHeartbeats 8000000 in
theorem arguments_any (u : World) (rb : Nat) (v : RdV) (ts : List Tok) (s : RdS) (B : Nat) (h : RdAt u rb v ts s B) (l : List FrV) (hrow : WRow u rb v.wv l) (hl : l.length ≤ 100000) (name : List UInt8) :
    Calls Tryz.prog 118 #[.pointer (some ⟨rb, 0, none⟩), .string ⟨name.toArray⟩] u fun e u' => Fr (fun k => k = rb ∨ v.wv.ownBlock = some k) u u' ∧
     (if isP ts s.at' 40 then e = .returned (.tuple #[]) ∧ ∃ wv', RdAt u' rb { v with wv := wv' } ts ((s.go 1).await ⟨2, 0, name, 0, []⟩ 999) B ∧ WRow u' rb wv' (l ++ [⟨2, s.most, name, 0, none, 0, 0⟩])
     else e = gaveUp ∧ RdAt u' rb v ts s B) := by
 have HA := Lib.hid h
 have HR := Lib.hid hrow
 clear h hrow
 cases hq : isP ts s.at' 40 with
 | true =>
  simp only [if_true]
  go_enter Tryz.func118, Tryz.ntmps118
  go_wp2_with fail
  refine (expect_any _ rb v ts s B HA.out 40).mono ?_
  rintro e w1 ⟨hF, h1⟩
  rw [hq, if_pos rfl] at h1
  obtain ⟨rfl, h1⟩ := h1
  have H1 := Lib.hid h1
  have HF := Lib.hid hF
  have HR1 := Lib.hid (WRow.fr HR.out hF)
  clear h1 hF
  go_wp2_with fail
  refine (await_any _ rb v ts _ B H1.out l HR1.out hl ⟨2, 0, name, 0, none, 0, 0⟩ 999 ⟨2, 0, name, 0, []⟩).mono ?_
  rintro e w2 ⟨rfl, wv', r1, r2, r3⟩
  have R1 := Lib.hid r1
  have R2 := Lib.hid r2
  have R3 := Lib.hid r3
  clear r1 r2 r3
  go_wp2_with fail
  exact bodyPost_end (v := .tuple #[]) (by simp [results, Tryz.results118, go_sem]) rfl
   ⟨(HF.out.weak fun k hk => .inl hk).trans R3.out, rfl, wv', R1.out, R2.out⟩
 | false =>
  simp only [Bool.false_eq_true, if_false]
  go_enter Tryz.func118, Tryz.ntmps118
  go_wp2_with fail
  refine (expect_any _ rb v ts s B HA.out 40).mono ?_
  rintro e w1 ⟨hF, h1⟩
  rw [hq, if_neg (by simp)] at h1
  obtain ⟨rfl, h1⟩ := h1
  exact ⟨rfl, hF.weak fun k hk => .inl hk, rfl, h1⟩
set_option maxHeartbeats 8000000 in
theorem number_any (u : World) (rb : Nat) (v : RdV) (ts : List Tok) (s : RdS) (B : Nat) (h : RdAt u rb v ts s B) (t : Tok) (hat : s.at' < ts.length) :
    Calls Tryz.prog 49 #[.pointer (some ⟨rb, 0, none⟩), tokW t] u fun e u' => Fr (· = rb) u u' ∧
     (if t.n < 0 then e = gaveUp ∧ RdAt u' rb v ts s B else e = .returned (.tuple #[]) ∧ RdAt u' rb { v with x := ⟨2, t.n, [], none, 0, 0⟩ } ts ((s.go 1).done (intT t.n) 0) B) := by
 have HA := Lib.hid h
 have c1 : u.cell? ⟨rb, 1, none⟩ = some (.int .i64 (s.at' : Int)) := h.blk.cell (i := 1) rfl
 have cf := h.blk.free
 have hf := h.few
 have hlt := h.blk.lt
 have hwr : IntKind.i64.wrap ((s.at' : Int) + 1) = (s.at' : Int) + 1 := IntWalk.i64_in _ (by omega)
 clear h
 unfold tokW
 by_cases hn : t.n < 0
 ·simp only [hn, if_true]
  go_enter Tryz.func49, Tryz.ntmps49
  go_wp2_with fail
  refine (fail_any _ _).mono ?_
  rintro e w1 ⟨rfl, hb⟩
  have hb0 : Below u.heap.size u w1 := ((Below.refl _ _).alloc (Nat.le_refl _) _).trans (hb.mono (by simp))
  exact ⟨rfl, .of_below _ hb0, rfl, HA.out.later hb0⟩
 ·simp only [hn, if_false]
  go_enter Tryz.func49, Tryz.ntmps49
  go_wp2_with fail
  have h1 := HA.out.put (v' := v) (s' := s.go 1) 1 (.int .i64 ((s.at' : Int) + 1)) (by simp [rdCells, RdS.go]) rfl rfl (by show s.at' + 1 ≤ _; omega)
  have h2 := h1.later ((Below.refl _ _).alloc (Nat.le_refl _) (.cells #[.int .i64 t.kind, .int .i64 t.line, .int .i64 t.n, .string ⟨t.s.toArray⟩, .bool t.opn, .bool t.tight] 127))
  have hF := ((Fr.refl (· = rb) u).setCell (p := ⟨rb, 1, none⟩) (.inl rfl) (.int .i64 ((s.at' : Int) + 1))).alloc (.cells #[.int .i64 t.kind, .int .i64 t.line, .int .i64 t.n, .string ⟨t.s.toArray⟩, .bool t.opn, .bool t.tight] 127)
  refine (done_any _ rb v ts _ B h2 ⟨2, t.n, [], none, 0, 0⟩ (intT t.n) 0).mono ?_
  rintro e w1 ⟨rfl, r1, r2⟩
  have R1 := Lib.hid r1
  have R2 := Lib.hid (hF.trans r2)
  clear r1 r2 hF h1 h2
  go_wp2_with fail
  exact bodyPost_end (v := .tuple #[]) (by simp [results, Tryz.results49, go_sem]) rfl ⟨R2.out, rfl, R1.out⟩
end Go.Proofs.YtjdnigepnfeboaaGreatDoor
