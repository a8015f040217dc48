import Derived.Test.YtjdnigepnfeboaaGreatDoorJG00
import Derived.Test.YtjdnigepnfeboaaGreatDoorProg
import Derived.Laws.AppendOwnNone
import Derived.Deep.AppendLies
import Derived.Shelf.Spec.SlicesInsertGrow
import Derived.Lib.Hide
import Derived.BigQuiet
namespace Go.Proofs.YtjdnigepnfeboaaGreatDoor
open Go.RowKit Go.Deep
section
variable {w : World} {α : Type} {B sz : Nat} {e : TypeId} {enc : α → List Value} {v : Value} {l : List α}
theorem flatMap_set (henc : ∀ x, (enc x).length = sz) : ∀ (l : List α) (i j : Nat) (x y : α) (u : Value), l[i]? = some x → j < sz → enc y = (enc x).set j u → (l.flatMap enc).set (i * sz + j) u = (l.set i y).flatMap enc
 | [], i, j, x, y, u, h, _, _ => by simp at h
 | z :: r, 0, j, x, y, u, h, hj, he => by
  simp at h
  subst h
  rw [Nat.zero_mul, Nat.zero_add, List.set_cons_zero, List.flatMap_cons, List.flatMap_cons, List.set_append_left _ _ (by rw [henc]; exact hj), he]
 | z :: r, i + 1, j, x, y, u, h, hj, he => by
  simp at h
  rw [List.set_cons_succ, List.flatMap_cons, List.flatMap_cons, List.set_append_right _ _ (by rw [henc, Nat.add_mul]; omega), henc, show (i + 1) * sz + j - sz = i * sz + j by rw [Nat.add_mul]; omega, flatMap_set henc r i j x y u h hj he]
theorem Row.put (henc : ∀ x, (enc x).length = sz) {g n cap : Nat} (h : Row w B e sz enc (.slice (some ⟨g, 0, none⟩) n cap) l) {i j : Nat} {x y : α} {u : Value} (hx : l[i]? = some x) (hj : j < sz) (hy : enc y = (enc x).set j u) :
    Row (w.setCell ⟨g, i * sz + j, none⟩ u) B e sz enc (.slice (some ⟨g, 0, none⟩) n cap) (l.set i y) := by
 obtain ⟨h1, h2⟩ := h.own
 rcases h2 with ⟨h0, _⟩ | ⟨g', cap', cur, hv, hg, hh, hn, hcap, hsz, htake⟩
 ·cases h0
 ·cases hv
  refine ⟨by rw [length_flatMap_enc henc], .inr ⟨g, cap, cur.setIfInBounds (i * sz + j) u, by rw [List.length_set], hg, ?_, by rw [List.length_set]; exact hn, hcap, by rw [Array.size_setIfInBounds]; exact hsz, ?_⟩⟩
  ·simp [World.setCell, Array.getElem?_modify, hh]
  ·rw [List.length_set, Array.toList_setIfInBounds, List.take_set, htake, flatMap_set henc l i j x y u hx hj hy]
theorem Row.away (h : Row w B e sz enc v l) {p : Addr} (u : Value) (hp : ∀ k, v.ownBlock = some k → k ≠ p.block) : Row (w.setCell p u) B e sz enc v l :=
 h.keep fun k hk => blk_setCell_other _ _ _ _ (hp k hk)
theorem Row.front (henc : ∀ x, (enc x).length = sz) {g cap : Nat} {x : α} (h : Row w B e sz enc (.slice (some ⟨g, 0, none⟩) (l.length + 1) cap) (l ++ [x])) : Row w B e sz enc (.slice (some ⟨g, 0, none⟩) l.length cap) l := by
 have h1 := h.own
 rw [List.length_append, List.flatMap_append] at h1
 exact ⟨ownsRow_pop (length_flatMap_enc henc l) h1⟩
theorem wpList_rows {P : Program} {ops : Array Oper} {rest : List Oper} {o : Oper} {a : Act} {Q : Exit → Act → World → Prop} (hgd : o.guard = none) (s x : Operand) (t : TypeId)
    (ho : o.op = .call { callee := .builtin .append, args := #[s, x], argTypes := #[t, t] }) (w : World) (B : Nat)
    (e : TypeId) (i : TypeInfo) (z : Value) (sz bytes : Nat) (enc : α → List Value) (ht : P.underlying t = some (.slice e)) (hi : P.info? e = some i) (hz : i.zero = some z)
    (hsize : i.size = sz) (hby : i.bytes = bytes) (hzs : z.cells.size = sz) (hsz : 0 < sz) (henc : ∀ x, (enc x).length = sz) (h1 : ∀ x, ∀ u ∈ enc x, u.oneCell' = true)
    (v : Value) (l ys : List α) (hs : a.eval s = v) (h : Row w B e sz enc v l)
    (g off cap : Nat) (hx : a.eval x = .slice (some ⟨g, off, none⟩) ys.length cap) (hnews : ∀ j u, (ys.flatMap enc)[j]? = some u → w.cell? ⟨g, off + j, none⟩ = some u)
    (h63 : l.length + ys.length ≤ maxLen) (hbytes : (l.length + ys.length) * bytes ≤ 140737488355328) (hbase : B ≤ w.heap.size)
    (hK : ∀ v' w', Row w' B e sz enc v' (l ++ ys) → w.grownBy w' v.ownBlock → wpList P ops Q rest (a.put o.dst v') w') : wpList P ops Q (o :: rest) a w := by
 refine wpList_append_own w hgd s x t ho B e i z sz bytes ht hi hz hsize hby hzs hsz v l.length (l.flatMap enc) hs h.own ⟨g, off, none⟩ ys.length cap (ys.flatMap enc) hx (length_flatMap_enc henc ys) ?_ ?_ h63 hbytes hbase ?_
 ·intro j u hu
  have : (⟨g, off, none⟩ : Addr).add j = ⟨g, off + j, none⟩ := by unfold Addr.add; split <;> simp_all
  rw [this]
  exact hnews j u hu
 ·intro u hu
  rw [List.mem_flatMap] at hu
  obtain ⟨y, -, hy⟩ := hu
  exact h1 y u hy
 ·intro v' w' h2 h3 _
  refine hK v' w' ⟨?_⟩ h3
  rw [List.flatMap_append, List.length_append]
  exact h2
end
end Go.Proofs.YtjdnigepnfeboaaGreatDoor
namespace Go.Proofs.YtjdnigepnfeboaaGreatDoor
open Go.RowKit
inductive Tm
 | mk (k n : Int) (s : List UInt8) (args : List Tm)
def Tm.k : Tm → Int | .mk k _ _ _ => k
def Tm.n : Tm → Int | .mk _ n _ _ => n
def Tm.s : Tm → List UInt8 | .mk _ _ s _ => s
def Tm.args : Tm → List Tm | .mk _ _ _ l => l
def mayP (k n : Int) (s : List UInt8) (m : Nat) : Bool :=
 if k = 1 then decide (0 ≤ n ∧ s = [] ∧ m = 0) else if k = 2 then decide (s = [] ∧ m = 0) else if k = 3 then decide (n = 0 ∧ s.length ≤ 1000 ∧ m = 0)
 else if k = 4 then decide (n = 0 ∧ s.length ≤ 1000 ∧ 1 ≤ m ∧ m ≤ 255) else false
mutual
def Tm.size : Tm → Nat | .mk _ _ _ l => 1 + Tm.sizes l
def Tm.sizes : List Tm → Nat | [] => 0 | t :: r => t.size + Tm.sizes r
end
mutual
def Tm.deep : Tm → Nat | .mk _ _ _ l => 1 + Tm.deeps l
def Tm.deeps : List Tm → Nat | [] => 0 | t :: r => max t.deep (Tm.deeps r)
end
mutual
def Tm.may : Tm → Bool | .mk k n s l => mayP k n s l.length && Tm.mays l
def Tm.mays : List Tm → Bool | [] => true | t :: r => t.may && Tm.mays r
end
structure TV where
 k : Int
 n : Int
 s : List UInt8
 A : Option Addr
 len : Nat
 cap : Nat
def encTV (x : TV) : List Value := [.int .i64 x.k, .int .i64 x.n, .string ⟨x.s.toArray⟩, .slice x.A x.len x.cap]
def tvV (x : TV) : Value := .agg #[.int .i64 x.k, .int .i64 x.n, .string ⟨x.s.toArray⟩, .slice x.A x.len x.cap]
theorem encTV_len (x : TV) : (encTV x).length = 4 := rfl
theorem encTV_one (x : TV) : ∀ u ∈ encTV x, u.oneCell' = true := by
 intro u hu
 simp [encTV] at hu
 rcases hu with rfl | rfl | rfl | rfl <;> rfl
inductive TermAt (w : World) (B : Nat) : TV → Tm → Prop
 | mk (x : TV) (args : List Tm) (xs : List TV) (h1 : xs.length = x.len) (h2 : args.length = x.len) (h3 : x.s.length ≤ maxLen)
     (hc : ∀ i y, xs[i]? = some y → ∃ b off, x.A = some ⟨b, off, none⟩ ∧ b < B ∧ ∀ j u, (encTV y)[j]? = some u → w.cell? ⟨b, off + i * 4 + j, none⟩ = some u)
     (ht : ∀ (i : Nat) (y : TV) (t : Tm), xs[i]? = some y → args[i]? = some t → TermAt w B y t) : TermAt w B x (.mk x.k x.n x.s args)
theorem TermAt.keep {w w' : World} {B B' : Nat} {x : TV} {t : Tm} (h : TermAt w B x t) (hB : B ≤ B') (hb : ∀ k, k < B → w'.heap[k]? = w.heap[k]?) : TermAt w' B' x t := by
 induction h with
 | mk x args xs h1 h2 h3 hc ht ih =>
  refine .mk x args xs h1 h2 h3 (fun i y hy => ?_) ih
  obtain ⟨b, off, e1, e2, e3⟩ := hc i y hy
  exact ⟨b, off, e1, by omega, fun j u hu => (World.cell?_of_block (a := ⟨b, off + i * 4 + j, none⟩) (hb b e2)).trans (e3 j u hu)⟩
theorem TermAt.blw {w w' : World} {B : Nat} {x : TV} {t : Tm} (h : TermAt w B x t) (hb : Below B w w') : TermAt w' B x t := h.keep (Nat.le_refl _) hb.block
theorem TermAt.up {w : World} {B B' : Nat} {x : TV} {t : Tm} (h : TermAt w B x t) (hB : B ≤ B') : TermAt w B' x t := h.keep hB fun _ _ => rfl
theorem TermAt.later {w w' : World} {x : TV} {t : Tm} (h : TermAt w w.heap.size x t) (hb : Below w.heap.size w w') : TermAt w' w'.heap.size x t := h.keep hb.size hb.block
theorem TermAt.leaf (w : World) (B : Nat) (k n : Int) (s : List UInt8) (A : Option Addr) (c : Nat) (hs : s.length ≤ maxLen) : TermAt w B ⟨k, n, s, A, 0, c⟩ (.mk k n s []) :=
 .mk ⟨k, n, s, A, 0, c⟩ [] [] rfl rfl hs (fun i y h => by simp at h) (fun i y t h => by simp at h)
theorem TermAt.open {w : World} {B : Nat} {x : TV} {t : Tm} (h : TermAt w B x t) : t.k = x.k ∧ t.n = x.n ∧ t.s = x.s ∧ t.args.length = x.len ∧ x.s.length ≤ maxLen ∧
    ∀ i ti, t.args[i]? = some ti → ∃ y b off, x.A = some ⟨b, off, none⟩ ∧ b < B ∧ TermAt w B y ti ∧ ∀ j u, (encTV y)[j]? = some u → w.cell? ⟨b, off + i * 4 + j, none⟩ = some u := by
 cases h with
 | mk _ args xs h1 h2 h3 hc ht =>
  refine ⟨rfl, rfl, rfl, h2, h3, fun i ti hi => ?_⟩
  have hlt := (List.getElem?_eq_some_iff.1 hi).1
  have hlt2 : i < xs.length := by rw [h1, ← h2]; exact hlt
  obtain ⟨b, off, e1, e2, e3⟩ := hc i _ (List.getElem?_eq_getElem hlt2)
  exact ⟨_, b, off, e1, e2, ht i _ ti (List.getElem?_eq_getElem hlt2) hi, e3⟩
theorem wpList_run {P : Program} {w w' : World} {ops : Array Oper} {rest : List Oper} {o : Oper} {a : Act} {Q : Exit → Act → World → Prop} (hgd : o.guard = none) (s x : Operand) (t : TypeId)
    (ho : o.op = .call { callee := .builtin .append, args := #[s, x], argTypes := #[t, t] }) {v v' y : Value} (hs : a.eval s = v) (hx : a.eval x = y)
    (hrun : (Builtin.append_ #[t, t] o.type #[v, y]).run P w = .ok v' w') (h : wpList P ops Q rest (a.put o.dst v') w') : wpList P ops Q (o :: rest) a w := by
 refine wpList_plain hgd fun K hK => ?_
 unfold Oper.wp
 simp [execOp, ho, resolve, invoke, builtin, hs, hx, hrun, Result.andThen]
 exact hK _ _ h
theorem step_run {P : Program} {w w' : World} {ops : Array Oper} {o : Oper} {a : Act} {K : Act → World → Prop} {Q : Exit → Act → World → Prop} {E : Prop} (hgd : o.guard = none) (s x : Operand) (t : TypeId)
    (ho : o.op = .call { callee := .builtin .append, args := #[s, x], argTypes := #[t, t] }) {v v' y : Value} (hs : a.eval s = v) (hx : a.eval x = y)
    (hrun : (Builtin.append_ #[t, t] o.type #[v, y]).run P w = .ok v' w') (h : K (a.put o.dst v') w') : if Region.wanted o (yielded ops a.tmps) = true then Oper.wp P o a w K Q else E := by
 have hw : Region.wanted o (yielded ops a.tmps) = true := by simp [Region.wanted, hgd]
 rw [if_pos hw]
 unfold Oper.wp
 simp [execOp, ho, resolve, invoke, builtin, hs, hx, hrun, Result.andThen]
 exact h
theorem cell_made (w : World) (cs : Array Value) (t : TypeId) (i : Nat) (u : Value) (h : cs[i]? = some u) : (w.alloc (.cells cs t)).cell? ⟨w.heap.size, i, none⟩ = some u := by
 rw [cell_of_row _ _ i cs t (0, 0) (heap_alloc_new w _)]
 exact h
section
variable {P : Program} {α : Type} {w : World} {B sz : Nat} {e : TypeId} {enc : α → List Value}
theorem Row.one (henc : ∀ x, (enc x).length = sz) (w : World) (x : α) (hB : B ≤ w.heap.size) : Row (w.alloc (.cells (enc x).toArray e)) B e sz enc (.slice (some ⟨w.heap.size, 0, none⟩) 1 1) [x] := by
 refine ⟨by simp [henc], .inr ⟨w.heap.size, 1, (enc x).toArray, rfl, hB, heap_alloc_new w _, Nat.le_refl _, by unfold maxLen; omega, by simp [henc], ?_⟩⟩
 rw [List.flatMap_cons, List.flatMap_nil, List.append_nil]
 simp only [List.length_cons, List.length_nil, Nat.zero_add, Nat.one_mul]
 exact List.take_of_length_le (by rw [henc]; exact Nat.le_refl _)
theorem Row.push {t : TypeId} (t' : TypeId) {i : TypeInfo} {z : Value} {bytes : Nat} (ht : P.underlying t = some (.slice e)) (hi : P.info? e = some i) (hz : i.zero = some z) (hsize : i.size = sz) (hby : i.bytes = bytes) (hzs : z.cells.size = sz) (hsz : 0 < sz)
    (henc : ∀ x, (enc x).length = sz) (h1 : ∀ x, ∀ u ∈ enc x, u.oneCell' = true) {v : Value} {l : List α} (h : Row w B e sz enc v l) (y : α) (g cap : Nat) (hnews : ∀ j u, (enc y)[j]? = some u → w.cell? ⟨g, j, none⟩ = some u)
    (h63 : l.length + 1 ≤ maxLen) (hbytes : (l.length + 1) * bytes ≤ 140737488355328) (hbase : B ≤ w.heap.size) :
    ∃ g' cap' w', (Builtin.append_ #[t, t] t' #[v, .slice (some ⟨g, 0, none⟩) 1 cap]).run P w = .ok (.slice (some ⟨g', 0, none⟩) (l.length + 1) cap') w' ∧ Row w' B e sz enc (.slice (some ⟨g', 0, none⟩) (l.length + 1) cap') (l ++ [y]) ∧ w.grownBy w' v.ownBlock ∧
     (v.ownBlock = some g' ∨ g' = w.heap.size) := by
 obtain ⟨g', cap', w', e1, e2, e3, e4, _⟩ := run_append_lies (P := P) w t t' B e i z sz bytes ht hi hz hsize hby hzs hsz v l.length (l.flatMap enc) h.own ⟨g, 0, none⟩ 1 cap (enc y) (by rw [henc, Nat.one_mul])
  (fun j u hu => by
    have : (⟨g, 0, none⟩ : Addr).add j = ⟨g, j, none⟩ := by unfold Addr.add; split <;> simp_all
    rw [this]
    exact hnews j u hu) (h1 y) (by omega) h63 hbytes hbase w.heap.size rfl
 refine ⟨g', cap', w', e1, ⟨?_⟩, e3, e4⟩
 rw [List.flatMap_append, List.length_append]
 simpa using e2
end
def allocs : World → List Obj → World
 | w, [] => w
 | w, o :: r => allocs (w.alloc o) r
theorem allocs_size : ∀ (w : World) (l : List Obj), (allocs w l).heap.size = w.heap.size + l.length
 | w, [] => rfl
 | w, o :: r => by rw [allocs, allocs_size, List.length_cons]; simp; omega
theorem allocs_below : ∀ (w : World) (l : List Obj), Below w.heap.size w (allocs w l)
 | w, [] => Below.refl _ _
 | w, o :: r => ((Below.refl w.heap.size w).alloc (Nat.le_refl _) o).trans ((allocs_below (w.alloc o) r).mono (by simp))
theorem allocs_at : ∀ (w : World) (l : List Obj) (i : Nat) (o : Obj), l[i]? = some o → (allocs w l).heap[w.heap.size + i]? = some o
 | w, [], i, o, h => by simp at h
 | w, x :: r, 0, o, h => by
  simp at h
  subst h
  rw [allocs, Nat.add_zero, (allocs_below (w.alloc x) r).block w.heap.size (by simp)]
  exact heap_alloc_new w _
 | w, x :: r, i + 1, o, h => by
  have := allocs_at (w.alloc x) r i o (by simpa using h)
  rw [allocs, show w.heap.size + (i + 1) = (w.alloc x).heap.size + i by simp; omega]
  exact this
end Go.Proofs.YtjdnigepnfeboaaGreatDoor
namespace Go.Proofs
open Go.Shelf
def Tryz.insInt_ren : Go.Shelf.Ren := ⟨fun | 21 => 67 | 27 => 132 | 28 => 133 | 35 => 220 | 39 => 286 | n => n, fun | 22 => 157 | 3 => 3 | 4 => 4 | 0 => 0 | n => n, fun | n => n⟩
theorem Tryz.insInt : Go.Proofs.Lays2.n21 Tryz.prog Tryz.insInt_ren := {
 mixed := by kernel_rfl
 f21 := Tryz.func67.trans (congrArg some (by kernel_rfl))
 f27 := Tryz.func132.trans (congrArg some (by kernel_rfl))
 f28 := Tryz.func133.trans (congrArg some (by kernel_rfl))
 f35 := Tryz.func220.trans (congrArg some (by kernel_rfl))
 f39 := Tryz.func286.trans (congrArg some (by kernel_rfl))
 t0 := Tryz.underlying0
 a0 := Tryz.isAgg0
 z0 := Tryz.sizeOf0
 v0 := Tryz.zeroValue0
 t3 := Tryz.underlying3
 a3 := Tryz.isAgg3
 z3 := Tryz.sizeOf3
 v3 := Tryz.zeroValue3
 t4 := Tryz.underlying4
 a4 := Tryz.isAgg4
 z4 := Tryz.sizeOf4
 v4 := Tryz.zeroValue4
 t22 := Tryz.underlying157
 a22 := Tryz.isAgg157
 z22 := Tryz.sizeOf157
 v22 := Tryz.zeroValue157
 i3 := by kernel_rfl }
end Go.Proofs
namespace Go.Proofs.YtjdnigepnfeboaaGreatDoor
open Go.RowKit
set_option maxRecDepth 100000
def encI (x : Int) : List Value := [.int .i64 x]
theorem encI_len (x : Int) : (encI x).length = 1 := rfl
theorem encI_one (x : Int) : ∀ u ∈ encI x, u.oneCell' = true := by
 intro u hu
 simp [encI] at hu
 subst hu
 rfl
theorem dbint_info : ∃ i z, Tryz.prog.info? 3 = some i ∧ i.zero = some z ∧ i.size = 1 ∧ i.bytes = 8 ∧ z.cells.size = 1 := by
 refine ⟨_, _, rfl, rfl, ?_, ?_, ?_⟩ <;> kernel_rfl
def putAll : Array Value → Nat → List Value → Array Value
 | cs, _, [] => cs
 | cs, o, v :: r => putAll (cs.setIfInBounds o v) (o + 1) r
theorem blk_setCells {b : Nat} {t : TypeId} : ∀ (vs : List Value) (w : World) (o : Nat) (cs : Array Value), w.heap[b]? = some (.cells cs t (0, 0)) → (w.setCells b o vs).heap[b]? = some (.cells (putAll cs o vs) t (0, 0))
 | [], _, _, _, h => h
 | v :: r, w, o, cs, h => blk_setCells r _ (o + 1) _ (by simp [World.setCell, Array.getElem?_modify, h])
theorem fr_setCells {b : Nat} {S : Nat → Prop} {w : World} (hb : S b ∨ w.heap.size ≤ b) : ∀ (vs : List Value) (u : World) (o : Nat), Fr S w u → Fr S w (u.setCells b o vs)
 | [], _, _, h => h
 | v :: r, _, o, h => fr_setCells hb r _ (o + 1) (h.setCell (p := ⟨b, o, none⟩) hb v)
theorem putAll_size : ∀ (vs : List Value) (cs : Array Value) (o : Nat), (putAll cs o vs).size = cs.size
 | [], _, _ => rfl
 | v :: r, cs, o => by rw [putAll, putAll_size r, Array.size_setIfInBounds]
theorem putAll_get : ∀ (vs : List Value) (cs : Array Value) (o j : Nat), o + vs.length ≤ cs.size → (putAll cs o vs)[j]? = if o ≤ j ∧ j < o + vs.length then vs[j - o]? else cs[j]?
 | [], cs, o, j, _ => by
  rw [putAll, if_neg (by simp only [List.length_nil]; omega)]
 | v :: r, cs, o, j, h => by
  simp only [List.length_cons] at h ⊢
  rw [putAll, putAll_get r _ (o + 1) j (by rw [Array.size_setIfInBounds]; omega)]
  by_cases h1 : o + 1 ≤ j ∧ j < o + 1 + r.length
  ·rw [if_pos h1, if_pos (by omega), show j - o = (j - (o + 1)) + 1 by omega, List.getElem?_cons_succ]
  ·rw [if_neg h1]
   by_cases h2 : j = o
   ·subst h2
    rw [if_pos (by omega), Nat.sub_self, List.getElem?_cons_zero, Array.getElem?_setIfInBounds_self_of_lt (by omega)]
   ·rw [if_neg (by omega), Array.getElem?_setIfInBounds_ne (by omega)]
theorem dbflat_ints (l : List Int) : l.flatMap encI = l.map (Value.int .i64) := by
 induction l with
 | nil => rfl
 | cons x r ih => rw [List.flatMap_cons, ih]; rfl
theorem row_of {w : World} {B g cap : Nat} {cur : Array Value} {l : List Int} (hB : B ≤ g) (hg : w.heap[g]? = some (.cells cur 3 (0, 0))) (h1 : l.length ≤ cap) (h2 : cap ≤ maxLen) (h3 : cur.size = cap) (h4 : ∀ j, j < l.length → cur[j]? = (l.map (Value.int .i64))[j]?) :
    Row w B 3 1 encI (.slice (some ⟨g, 0, none⟩) l.length cap) l := by
 refine ⟨by rw [length_flatMap_enc encI_len], .inr ⟨g, cap, cur, rfl, hB, hg, h1, h2, by omega, ?_⟩⟩
 rw [dbflat_ints, Nat.mul_one]
 apply List.ext_getElem?
 intro j
 rw [List.getElem?_take]
 by_cases hj : j < l.length
 ·rw [if_pos hj, ← h4 j hj]
  simp
 ·rw [if_neg hj, List.getElem?_eq_none (by rw [List.length_map]; omega)]
theorem zeros_size (n : Nat) : (Builtin.zeroCells (Value.int .i64 0).cells n).size = n := by simp [Builtin.zeroCells, Value.cells]
theorem front_new (w : World) (B : Nat) (x : Int) (c : Nat) (hB : B ≤ w.heap.size) :
    Row (w.drew.alloc (.cells ((([] ++ [Value.int .i64 x] : List Value)).toArray ++ Builtin.zeroCells (Value.int .i64 0).cells (grownCap w (0 + 1) c 3 - (0 + 1))) 3)) B 3 1 encI (.slice (some ⟨w.heap.size, 0, none⟩) (0 + 1) (grownCap w (0 + 1) c 3)) [x] := by
 have h1 := grownCap_ge w (0 + 1) c 3
 have h2 := grownCap_le_maxLen w (0 + 1) c 3 (by unfold maxLen; omega)
 generalize grownCap w (0 + 1) c 3 = gc at *
 refine row_of (l := [x]) hB (heap_alloc_new w.drew _) h1 h2 (by rw [Array.size_append, zeros_size]; simp; omega) (fun j hj => ?_)
 have hj0 : j = 0 := by simpa using hj
 subst hj0
 rw [List.nil_append, Array.getElem?_append_left (by simp)]
 rfl
set_option maxHeartbeats 2000000 in
theorem insert_front (w : World) (B : Nat) (ov : Value) (l : List Int) (h : Row w B 3 1 encI ov l) (vb : Nat) (x : Int) (hv : w.heap[vb]? = some (.cells #[.int .i64 x] 3 (0, 0))) (hvb : ov.ownBlock ≠ some vb) (hl : l.length ≤ 100000) (hB : B ≤ w.heap.size) :
    Calls Tryz.prog 67 #[ov, .int .i64 0, .slice (some ⟨vb, 0, none⟩) 1 1] w fun e w' => ∃ v', e = .returned v' ∧ Row w' B 3 1 encI v' (x :: l) ∧ Fr (fun k => ov.ownBlock = some k) w w' ∧ (v'.ownBlock = ov.ownBlock ∨ v'.ownBlock = some w.heap.size) := by
 have hvc : ∀ (j : Nat) v, [Value.int .i64 x][j]? = some v → w.cell? ⟨vb, 0 + j, none⟩ = some v := fun j v hj => by
  rw [Nat.zero_add, cell_of_row w vb j _ _ (0, 0) hv]
  simpa using hj
 have hv1 : ∀ v ∈ [Value.int .i64 x], v.oneCell' = true := encI_one x
 rcases h.own.2 with ⟨rfl, h0⟩ | ⟨g, cap, cur, rfl, hg, hgg, hn, hcap, hcur, htk⟩
 ·obtain rfl : l = [] := List.eq_nil_of_length_eq_zero h0
  refine (Any2.slices_Insert_int_end_grow Tryz.insInt none 0 0 vb 0 1 1 [] [.int .i64 x] w (by omega) (Nat.le_refl _) (by omega) (by omega) rfl rfl (fun _ => rfl) (fun a ha => by cases ha) hvc hv1).mono ?_
  rintro e w' ⟨rfl, rfl⟩
  exact ⟨_, rfl, front_new w B x 0 hB, ((Fr.refl _ w).drew).alloc _, .inr rfl⟩
 ·rw [Nat.mul_one] at hcur
  have hsome : ∀ j, j < cap → (w.cell? ⟨g, 0 + j, none⟩).isSome = true := fun j hj => by
   rw [Nat.zero_add, cell_of_row w g j _ _ (0, 0) hgg, Array.getElem?_eq_getElem (by omega)]
   rfl
  have hfz : ∀ j, w.frozen? ⟨g, j, none⟩ = false := fun j => by simp [World.frozen?, hgg]
  by_cases hne : l = []
  ·subst hne
   by_cases hc0 : cap = 0
   ·subst hc0
    refine (Any2.slices_Insert_int_end_grow Tryz.insInt (some ⟨g, 0, none⟩) 0 0 vb 0 1 1 [] [.int .i64 x] w (by omega) (Nat.le_refl _) (by omega) (by omega) rfl rfl (fun h => by cases h) (fun a ha j v hj => by simp at hj) hvc hv1).mono ?_
    rintro e w' ⟨rfl, rfl⟩
    exact ⟨_, rfl, front_new w B x 0 hB, ((Fr.refl _ w).drew).alloc _, .inr rfl⟩
   ·refine (Any2.slices_Insert_int_end_room Tryz.insInt g 0 0 cap vb 0 1 1 [.int .i64 x] w (by omega) (by omega) (by unfold maxLen at hcap; omega) rfl (fun j hj => by simpa using hsome j (by omega)) (fun j hj => hfz _) hvc hv1).mono ?_
    rintro e w' ⟨rfl, rfl⟩
    refine ⟨_, rfl, ?_, (fr_setCells (b := g) (S := (· = g)) (.inl rfl) _ _ _ (Fr.refl _ w)).weak (fun k hk => by rw [hk]; rfl), .inl rfl⟩
    refine row_of (l := [x]) hg (blk_setCells _ _ _ _ hgg) (by simp; omega) hcap (by rw [putAll_size]; exact hcur) (fun j hj => ?_)
    have hj0 : j = 0 := by simpa using hj
    subst hj0
    rw [putAll_get _ _ _ _ (by simp; omega)]
    simp
  ·have hpos : 0 < l.length := List.length_pos_iff.2 hne
   have hcl : ∀ (j : Nat) v, (l.map (Value.int .i64))[j]? = some v → w.cell? ⟨g, 0 + j, none⟩ = some v := fun j v hj => by
    have hjl : j < l.length := by simpa using (List.getElem?_eq_some_iff.1 hj).1
    rw [dbflat_ints, Nat.mul_one] at htk
    rw [Nat.zero_add, cell_of_row w g j _ _ (0, 0) hgg]
    have e1 := congrArg (fun z => z[j]?) htk
    simp only [List.getElem?_take, if_pos hjl] at e1
    rw [← hj, ← e1]
    simp
   have h1c : ∀ v ∈ l.map (Value.int .i64), v.oneCell' = true := fun v hv => by
    obtain ⟨y, _, rfl⟩ := List.mem_map.1 hv
    rfl
   by_cases hroom : l.length + 1 ≤ cap
   ·refine (Any2.slices_Insert_int_shift Tryz.insInt g 0 l.length cap 0 vb 0 1 1 (l.map (Value.int .i64)) [.int .i64 x] w hpos (by omega) hroom (by unfold maxLen at hcap; omega) (fun e => hvb (by rw [e]; rfl)) (by rw [List.length_map]) rfl hcl (fun j hj => hsome j (by omega)) (fun j _ => hfz _) hvc h1c hv1
     3 3 1 cap (by simp [World.shape?, hv]) (by simp [World.shape?, hgg, hcur]) (by omega) (by simp [World.frozen?, hv]) (by simp [World.frozen?, hv])).mono ?_
    rintro e w' ⟨rfl, rfl⟩
    refine ⟨_, rfl, ?_, (fr_setCells (b := g) (S := (· = g)) (.inl rfl) _ _ _ (fr_setCells (b := g) (S := (· = g)) (.inl rfl) _ _ _ ((Fr.refl _ w).drew))).weak (fun k hk => by rw [hk]; rfl), .inl rfl⟩
    refine row_of (l := x :: l) hg (blk_setCells _ _ _ _ (blk_setCells _ _ _ _ (show w.drew.heap[g]? = _ from hgg))) (by simpa using hroom) hcap (by rw [putAll_size, putAll_size]; exact hcur) (fun j hj => ?_)
    rw [putAll_get _ _ _ _ (by rw [putAll_size]; simp; omega), putAll_get _ _ _ _ (by simp; omega)]
    simp only [List.length_cons] at hj
    rcases Nat.eq_zero_or_pos j with rfl | hj0
    ·simp
    ·rw [if_neg (by simp; omega), if_pos (by simp; omega)]
     obtain ⟨j, rfl⟩ : ∃ i, j = i + 1 := ⟨j - 1, by omega⟩
     simp
   ·refine (Any2.slices_Insert_int_grow Tryz.insInt g 0 l.length cap 0 vb 0 1 1 (l.map (Value.int .i64)) [.int .i64 x] w hpos (by omega) hn (by omega) (by omega) (by rw [List.length_map]) rfl hcl hvc h1c hv1).mono ?_
    rintro e w' ⟨rfl, rfl⟩
    have h1 := grownCap_ge w (l.length + 1) cap 3
    have h2 := grownCap_le_maxLen w (l.length + 1) cap 3 (by unfold maxLen; omega)
    refine ⟨_, rfl, ?_, fr_setCells (.inr (Nat.le_refl _)) _ _ _ ((fr_setCells (.inr (Nat.le_refl _)) _ _ _ ((((Fr.refl _ w).alloc _).drew))).drew), .inr rfl⟩
    rw [show Tryz.insInt_ren.t 3 = 3 from rfl]
    generalize grownCap w (l.length + 1) cap 3 = gc at *
    refine row_of (l := x :: l) hB (blk_setCells _ _ _ _ (show (World.drew _).heap[w.heap.size]? = _ from blk_setCells _ _ _ _ (show (World.drew _).heap[w.heap.size]? = _ from heap_alloc_new w _))) (by simpa using h1) h2 (by rw [putAll_size, putAll_size, Array.size_append, Array.size_append, zeros_size, zeros_size]; simp; omega) (fun j hj => ?_)
    rw [putAll_get _ _ _ _ (by rw [putAll_size, Array.size_append, Array.size_append, zeros_size, zeros_size]; simp; omega), putAll_get _ _ _ _ (by rw [Array.size_append, Array.size_append, zeros_size, zeros_size]; simp; omega)]
    simp only [List.length_cons] at hj
    rcases Nat.eq_zero_or_pos j with rfl | hj0
    ·simp
    ·rw [if_pos (by simp; omega)]
     obtain ⟨j, rfl⟩ : ∃ i, j = i + 1 := ⟨j - 1, by omega⟩
     simp
end Go.Proofs.YtjdnigepnfeboaaGreatDoor
