import Derived.Test.YtjdnigepnfeboaaGreatDoorJG20
import Derived.Test.YtjdnigepnfeboaaGreatDoorJG33
import Derived.Test.YtjdnigepnfeboaaGreatDoorJG28
import Derived.Stop.LaidErr
import Derived.Deep.DeepWitnessRowRef
import Derived.LaidMore
namespace Go.Proofs.YtjdnigepnfeboaaGreatDoor
open Go.RowKit Go.Maps Go.Lib Go.Sort
set_option maxRecDepth 100000
theorem sortWorld_fr {α : Type} [Inhabited α] (enc : α → List Value) (k : Nat) (w : World) (blk off n : Nat) (d : Array α) (os : Array Obj) : Fr (· = blk) w (sortWorldK enc k w blk off n d os) := by
 refine ⟨rfl, rfl, rfl, by simp [sortWorldK, size_putRowK, Sort.ahead], fun i hi hn => ?_⟩
 unfold sortWorldK
 rw [heap_grow_old _ _ (by simpa [size_putRowK, Sort.ahead] using hi)]
 have : ¬ blk = i := fun e => hn e.symm
 simp [putRowK, putRow, mapBlock, Sort.ahead, Array.getElem?_modify, this]
theorem holds_row {w : World} {B : Nat} {e : TypeId} {l : List DefT} {g cap : Nat} (h : Row w B e 3 encDef (.slice (some ⟨g, 0, none⟩) l.length cap) l) : HoldsK encDef 3 w g 0 l.toArray := by
 intro t ht
 have ht' : t < l.length * 3 := by simpa using ht
 have hne : l ≠ [] := by rintro rfl; simp at ht'
 obtain ⟨g', cap', e1, _, _, _, h5⟩ := h.cells encDef_len hne
 cases e1
 have hq : t / 3 < l.length := by omega
 have hu : (encDef l[t / 3])[t % 3]? = some (encDef l[t / 3])[t % 3]! := by
  have : t % 3 < (encDef l[t / 3]).length := by rw [encDef_len]; omega
  rw [getElem!_pos (encDef l[t / 3]) (t % 3) this, List.getElem?_eq_getElem this]
 have := h5 (t / 3) l[t / 3] (List.getElem?_eq_getElem hq) (t % 3) _ hu
 rw [show t / 3 * 3 + t % 3 = t by omega] at this
 rw [get_flatK _ _ _ _ (by simpa using ht'), Nat.zero_add]
 simpa [hq] using this
theorem sortDefs_any (w : World) (v : Value) (l : List DefT) (e : TypeId) (B : Nat) (h : Row w B e 3 encDef v l) (hsz : l.length < 4611686018427387904) :
    Calls Tryz.prog 35 #[v, .func (.func 36) #[] #[]] w fun e w' =>
     e = .returned (.tuple #[]) ∧ ∃ l', l'.Perm l ∧ Sorted l' ∧ SlAt w' w'.heap.size 3 encDef v l' ∧ Fr (fun k => v.ownBlock = some k) w w' := by
 by_cases hne : l = []
 ·subst hne
  obtain ⟨A, cap, rfl⟩ := h.shape
  refine (AnyF.slices_SortFunc_none { Tryz.sortDefs with } A cap _ w).mono ?_
  rintro e w' ⟨rfl, rfl⟩
  exact ⟨rfl, [], List.Perm.refl _, List.Pairwise.nil, ⟨A, cap, rfl, fun h => absurd rfl h⟩, Fr.refl _ _⟩
 ·obtain ⟨g, cap, rfl, _, hg, _, _⟩ := h.cells encDef_len hne
  have hH := holds_row h
  have eg : ∀ args w, (callFunc 36 args).run Tryz.prog w = .ok (.enter 36 args) w := enters_of Tryz.func36 (by kernel_rfl) rfl
  have hcon := AnyQ.slices_SortFunc Tryz.sortDefs 3 Tryz.isAgg64 Tryz.sizeOf64 encDef encDef_len encDef_one defCmp defSWO 36 #[] g 0 cap l.toArray w eg (fun m os dk _ x y => defCmp_any _ x y) hH hg (by simpa using hsz)
  refine hcon.mono ?_
  rintro e w' ⟨rfl, d', n, os, hp, hs, rfl⟩
  obtain ⟨p1, p2⟩ := sorted_of_row hp hs
  have hF := sortWorld_fr encDef 3 w g 0 n d' os
  have hlen : d'.size = l.length := by simpa using hp.1
  refine ⟨rfl, d'.toList, p1, p2, ⟨some ⟨g, 0, none⟩, cap, by simp [hlen], fun _ => ⟨g, 0, rfl, Nat.lt_of_lt_of_le hg hF.size, ?_⟩⟩, hF.weak fun k hk => by simp [Value.ownBlock, hk]⟩
  have hc := holdsK_sortWorldK_c encDef 3 w g 0 l.toArray d' n os hH hg (by simpa using hlen)
  intro i x hx j u hu
  have hi : i < d'.size := by simpa using (List.getElem?_eq_some_iff.1 hx).1
  have hj : j < 3 := by simpa [encDef_len] using (List.getElem?_eq_some_iff.1 hu).1
  have := (hc.cell hi hj).1
  rw [this]
  have ex : d'[i]! = x := by
   rw [getElem!_pos d' i hi]
   simpa [hi] using hx
  have hj' : j < (encDef x).length := by rw [encDef_len]; exact hj
  rw [ex, getElem!_pos (encDef x) j hj']
  rw [List.getElem?_eq_getElem hj'] at hu
  exact hu
theorem Row.apart_iter {α κ ν : Type} {w : World} {B sz r b : Nat} {e : TypeId} {enc : α → List Value} {v : Value} {l : List α} {ek : κ → Value} {ev : ν → Value} {es left : List (κ × ν)}
    (h : Row w B e sz enc v l) (hr : RangeAt w r b ek ev es left) : v.ownBlock ≠ some r := by
 obtain ⟨es', clock, seen, _, _, _, hi, _⟩ := hr.it
 rcases h.own.2 with ⟨rfl, _⟩ | ⟨g, cap, cur, rfl, _, hgg, _⟩
 ·simp [Value.ownBlock]
 ·simp only [Value.ownBlock, ne_eq, Option.some.injEq]
  rintro rfl
  rw [hgg] at hi
  cases hi
theorem cell_alloc3 (w : World) (a b : Obj) (cs : Array Value) (t : TypeId) (i : Nat) (u : Value) (h : cs[i]? = some u) :
    ((((w.alloc a).alloc b).alloc (.cells cs t))).cell? ⟨w.heap.size + 1 + 1, i, none⟩ = some u := by
 have hb : ((((w.alloc a).alloc b).alloc (.cells cs t))).heap[w.heap.size + 1 + 1]? = some (.cells cs t (0, 0)) := by
  have := heap_alloc_new ((w.alloc a).alloc b) (.cells cs t)
  have e : ((w.alloc a).alloc b).heap.size = w.heap.size + 1 + 1 := by simp
  rw [e] at this
  exact this
 rw [cell_of_row _ _ i cs t (0, 0) hb]
 exact h
structure ListInv (w : World) (bm r : Nat) (es : List (OpK × OpV)) (done : List DefT) (left : List (OpK × OpV)) (v : Value) (wr : World) : Prop where
 it : RangeAt wr r bm opk opv es left
 row : Row wr w.heap.size 64 3 encDef v done
 perm : (done ++ left.map defOf).Perm (es.map defOf)
 below : Below w.heap.size w wr
 r_ge : w.heap.size ≤ r
theorem ListInv.len {w wr : World} {bm r : Nat} {es left : List (OpK × OpV)} {done : List DefT} {v : Value} (h : ListInv w bm r es done left v wr) : done.length + left.length = es.length := by
 simpa using h.perm.length_eq
theorem erase_perm {α : Type} : ∀ (l : List α) (j : Nat) (x : α), l[j]? = some x → (x :: l.eraseIdx j).Perm l
 | [], j, x, h => by simp at h
 | y :: r, 0, x, h => by
  simp at h
  subst h
  exact List.Perm.refl _
 | y :: r, j + 1, x, h => by
  simp at h
  exact (List.Perm.swap y x _).trans (List.Perm.cons y (erase_perm r j x h))
theorem ListInv.step {w wr wn w' : World} {bm r j : Nat} {es left : List (OpK × OpV)} {done : List DefT} {v v' : Value} {x : OpK × OpV} {a b c : Obj} (h : ListInv w bm r es done left v wr) (hbm : bm < w.heap.size)
    (hitn : RangeAt wn r bm opk opv es (left.eraseIdx j)) (hgn : wr.grownBy wn (some r)) (hjx : left[j]? = some x) (hrow : Row w' w.heap.size 64 3 encDef v' (done ++ [defOf x])) (hg : (((wn.alloc a).alloc b).alloc c).grownBy w' v.ownBlock) :
    ListInv w bm r es (done ++ [defOf x]) (left.eraseIdx j) v' w' := by
 have hr := hitn.lt.2
 have hbl : ∀ k, k < wn.heap.size → some k ≠ v.ownBlock → w'.heap[k]? = wn.heap[k]? := by
  intro k hk hn
  rw [hg.block k (by simp; omega) hn, Below.heap_alloc _ _ k (by simp; omega), Below.heap_alloc _ _ k (by simp; omega), Below.heap_alloc _ _ k hk]
 have hlow : ∀ k, k < w.heap.size → some k ≠ v.ownBlock := fun k hk e => by
  have := (h.row.lt k e.symm).1
  omega
 have hwn : w.heap.size ≤ wn.heap.size := Nat.le_trans h.below.size hgn.size
 refine ⟨hitn.keep (hbl _ (by omega) (hlow _ hbm)) (hbl _ hr (h.row.apart_iter h.it).symm), hrow, ?_, ?_, h.r_ge⟩
 ·have h1 := (erase_perm left j x hjx).map defOf
  rw [List.append_assoc]
  exact (List.Perm.append_left done h1).trans h.perm
 ·have hr' := h.r_ge
  have hs := hg.size
  have hs2 : ((((wn.alloc a).alloc b).alloc c).heap.size) = wn.heap.size + 1 + 1 + 1 := by simp
  refine ⟨hg.os.trans (hgn.os.trans h.below.os), hg.tape.trans (hgn.tape.trans h.below.tape), hg.output.trans (hgn.output.trans h.below.output), by omega, fun k hk => ?_⟩
  rw [hbl k (by omega) (hlow k hk), hgn.block k (Nat.lt_of_lt_of_le hk h.below.size) (fun e => by cases e; omega)]
  exact h.below.block k hk
theorem def_info : ∃ i z, Tryz.prog.info? 64 = some i ∧ i.zero = some z ∧ i.size = 3 ∧ i.bytes = 32 ∧ z.cells.size = 3 := by
 refine ⟨_, _, rfl, rfl, ?_, ?_, ?_⟩ <;> kernel_rfl
set_option maxHeartbeats 1000000 in
theorem oplist_any (w : World) (bt bm : Nat) (es : List (OpK × OpV)) (hT : TabAt w bt bm es) (hn : es.length ≤ 100000) :
    Calls Tryz.prog 20 #[.pointer (some ⟨bt, 0, none⟩)] w fun e w' => ∃ v l, e = .returned v ∧ SlAt w' w'.heap.size 3 encDef v l ∧ l.Perm (es.map defOf) ∧ Sorted l ∧ Below w.heap.size w w' := by
 obtain ⟨i, z, hi, hz, hsi, hby, hzs⟩ := def_info
 have hbt := hT.lt
 have hbm := hT.map.lt
 have hlen := hT.map.len (P := Tryz.prog) (ty := 3) Tryz.underlying72
 obtain ⟨w1, hmk, hrow, hg1⟩ := Row.made (P := Tryz.prog) (w := w) (B := w.heap.size) (enc := encDef) Tryz.underlying61 hi hz hsi .i64 .i64 es.length (by rw [hby]; omega) (by unfold maxLen; omega) (Nat.le_refl _)
 have hb1 : Below w.heap.size w w1 := ⟨hg1.os, hg1.tape, hg1.output, hg1.size, fun k hk => hg1.block k hk (by simp)⟩
 obtain ⟨w2, hrg, hit, hb2⟩ := (hT.map.below hb1 hbm).range (P := Tryz.prog) Tryz.underlying72
 have hc := hT.cell
 have hc1 := hb1.cell (p := ⟨bt, 0, none⟩) hbt
 rw [hc] at hc1
 have hI : ListInv w bm w1.heap.size es [] es (.slice (some ⟨w.heap.size, 0, none⟩) 0 es.length) w2 :=
  ⟨hit, hrow.later hb2, List.Perm.refl _, hb1.trans (hb2.mono hb1.size), hb1.size⟩
 have HI := Lib.hid hI
 clear hT hI hb1 hg1 hrow hit hb2
 go_enter Tryz.func20, Tryz.ntmps20
 go_wp2_with fail
 go_loopw [3] (fun v wr => ∃ done left, ListInv w bm w1.heap.size es done left v wr) (fun v _ => es.length - sliceLen v)
 case atStart => exact ⟨_, _, HI.out⟩
 case round =>
  obtain ⟨done, left, hR⟩ := hrel
  have hlenR := hR.len
  have HR := Lib.hid hR
  clear hR HI
  by_cases hl : left = []
  ·subst hl
   have hov := HR.out.it.over (P := Tryz.prog) (ty := 0)
   go_wp2_with fail
   refine (sortDefs_any wr _ done _ _ HR.out.row (by omega)).mono ?_
   rintro e w6 ⟨rfl, l', hp, hs, hS, hF⟩
   go_wp2_with fail
   go_ret
   refine ⟨_, l', rfl, hS, hp.trans (by simpa using HR.out.perm), hs, ?_⟩
   exact HR.out.below.trans (hF.below HR.out.below.size fun k hk e => by have := (HR.out.row.lt k e).1; omega)
  ·obtain ⟨j, x, wn, hnx, hjx, hitn, hgn, hszn, hent⟩ := HR.out.it.next (P := Tryz.prog) (ty := 0) hl
   obtain ⟨⟨x1, x2⟩, ⟨x3, x4⟩⟩ := x
   simp only [opk, opv] at hnx hent
   have HN := Lib.hid hitn
   have HG := Lib.hid hgn
   have hwn : w.heap.size ≤ wn.heap.size := by rw [hszn]; exact HR.out.below.size
   have HW := Lib.hid (HR.out.row.kept hgn (.inr (HR.out.row.apart_iter HR.out.it)))
   clear hitn hgn hszn
   go_wp2_with (at_builtin; refine wpList_row rfl _ _ 61 rfl _ w.heap.size 64 i z 3 32 encDef Tryz.underlying61 hi hz hsi hby hzs (by decide) encDef_len encDef_one _ done (x3, x4, x2) rfl (((HW.out.alloc _).alloc _).alloc _) _ _ rfl (fun j u hu => cell_alloc3 _ _ _ _ _ j u (by simpa [encDef] using hu)) (by unfold maxLen; omega) (by omega) (Nat.le_trans hwn (by simp; omega)) ?_)
   intro v' w5 hrow5 hg5
   have HI5 := Lib.hid (HR.out.step hbm HN.out HG.out hjx hrow5 hg5)
   have hlen5 := HI5.out.len
   have hl5 := HI5.out.row.len
   have hl4 := HR.out.row.len
   clear hrow5 hg5
   go_wp2_with fail
   go_roundw
   case rel => exact ⟨_, _, HI5.out⟩
   case measure =>
    rw [List.length_append] at hl5 hlen5
    simp only [List.length_cons, List.length_nil] at hl5 hlen5
    have : 0 < left.length := List.length_pos_iff.2 hl
    omega
open Go.RowKit Go.Maps
def Fz (B : Nat) (w : World) (v : Value) (b : Nat) : Prop := B ≤ b ∧ TyB w 27 b ∧ v.ownBlock ≠ some b
def newB (B : Nat) (w : World) (b : Nat) : Prop := B ≤ b ∧ TyB w 27 b
structure BldAt (B bt : Nat) (k n : Int) (s : List UInt8) (l : List Tm) (A : Option Addr) (c : Nat) (xs : List TV) (w : World) : Prop where
 box : w.heap[bt]? = some (.cells #[.int .i64 k, .int .i64 n, .string ⟨s.toArray⟩, .slice A l.length c] 27 (0, 0))
 row : Row w B 27 4 encTV (.slice A l.length c) xs
 tms : TermsS w (Fz B w (.slice A l.length c)) xs l
 lt : bt < B
 name : s.length ≤ maxLen
section
variable {B bt : Nat} {k n : Int} {s : List UInt8} {l : List Tm} {A : Option Addr} {c : Nat} {xs : List TV} {w w' : World}
theorem BldAt.len (h : BldAt B bt k n s l A c xs w) : xs.length = l.length := h.tms.1
theorem BldAt.later (h : BldAt B bt k n s l A c xs w) (hb : Below w.heap.size w w') : BldAt B bt k n s l A c xs w' :=
 ⟨(hb.block bt (Array.getElem?_eq_some_iff.1 h.box).1).trans h.box, h.row.later hb, h.tms.keep (fun _ hb' => ⟨hb'.1, hb'.2.1.keep (hb.block _ hb'.2.1.lt), hb'.2.2⟩) (fun b hb' => hb.block b hb'.2.1.lt), h.lt, h.name⟩
theorem BldAt.start (hB : bt < B) (hs : s.length ≤ maxLen) (hb : w.heap[bt]? = some (.cells #[.int .i64 k, .int .i64 n, .string ⟨s.toArray⟩, .slice none 0 0] 27 (0, 0))) : BldAt B bt k n s [] none 0 [] w :=
 ⟨hb, Row.nil _ _ _ _ _, .nil _ _, hB, hs⟩
theorem BldAt.cells (h : BldAt B bt k n s l A c xs w) : w.cell? ⟨bt, 0, none⟩ = some (.int .i64 k) ∧ w.cell? ⟨bt, 1, none⟩ = some (.int .i64 n) ∧ w.cell? ⟨bt, 2, none⟩ = some (.string ⟨s.toArray⟩) ∧ w.cell? ⟨bt, 3, none⟩ = some (.slice A l.length c) ∧ (∀ o, w.frozen? ⟨bt, o, none⟩ = false) := four_at h.box
theorem BldAt.done (h : BldAt B bt k n s l A c xs w) : TermS w (newB B w) ⟨k, n, s, A, l.length, c⟩ (.mk k n s l) :=
 (h.tms.keep (S' := newB B w) (fun _ hb => ⟨hb.1, hb.2.1⟩) (fun _ _ => rfl)).comp h.row rfl (fun g hg => ⟨(h.row.lt g hg).1, h.row.ty hg⟩) s h.name k n
theorem BldAt.push {V : World} {x : TV} {t : Tm} {g cap : Nat} (h : BldAt B bt k n s l A c xs w) (hb : Below w.heap.size w V) (hx : TermS V (newB w.heap.size V) x t) (hB : B ≤ w.heap.size)
    (hR : Row w' B 27 4 encTV (.slice (some ⟨g, 0, none⟩) (l.length + 1) cap) (xs ++ [x])) (hg : V.grownBy w' (Value.slice A l.length c).ownBlock) (hl : (Value.slice A l.length c).ownBlock = some g ∨ g = V.heap.size) :
    BldAt B bt k n s (l ++ [t]) (some ⟨g, 0, none⟩) cap (xs ++ [x]) (w'.setCell ⟨bt, 3, none⟩ (.slice (some ⟨g, 0, none⟩) (l.length + 1) cap)) := by
 have hV := h.later hb
 have hbtV : bt < V.heap.size := (Array.getElem?_eq_some_iff.1 hV.box).1
 have hown : ∀ q, (Value.slice A l.length c).ownBlock = some q → B ≤ q ∧ q < w.heap.size := fun q hq => h.row.lt q hq
 have hkeep : ∀ b, b < V.heap.size → (Value.slice A l.length c).ownBlock ≠ some b → w'.heap[b]? = V.heap[b]? := fun b hb1 hb2 => hg.block b hb1 (fun e => hb2 e.symm)
 have hbox' : w'.heap[bt]? = some (.cells #[.int .i64 k, .int .i64 n, .string ⟨s.toArray⟩, .slice A l.length c] 27 (0, 0)) := by
  rw [hkeep bt hbtV (fun e => by have := (hown bt e).1; have := h.lt; omega)]
  exact hV.box
 have hgB := hR.lt g rfl
 have hset : ∀ b, b ≠ bt → (w'.setCell ⟨bt, 3, none⟩ (.slice (some ⟨g, 0, none⟩) (l.length + 1) cap)).heap[b]? = w'.heap[b]? := fun b hb1 => Below.heap_setCell _ _ _ _ hb1
 have hsz : V.heap.size ≤ w'.heap.size := hg.size
 have hS : ∀ b, (Fz B V (.slice A l.length c) b ∨ newB w.heap.size V b) → Fz B (w'.setCell ⟨bt, 3, none⟩ (.slice (some ⟨g, 0, none⟩) (l.length + 1) cap)) (.slice (some ⟨g, 0, none⟩) (l.length + 1) cap) b ∧ (w'.setCell ⟨bt, 3, none⟩ (.slice (some ⟨g, 0, none⟩) (l.length + 1) cap)).heap[b]? = V.heap[b]? := fun b hb1 => by
  have h1 : B ≤ b ∧ TyB V 27 b ∧ (Value.slice A l.length c).ownBlock ≠ some b := by
   rcases hb1 with h1 | h1
   ·exact h1
   ·have := h1.1
    exact ⟨by omega, h1.2, fun e => by have := (hown b e).2; omega⟩
  have hbt : b ≠ bt := by have := h.lt; omega
  have hbl := h1.2.1.lt
  refine ⟨⟨h1.1, ?_, fun e => ?_⟩, (hset b hbt).trans (hkeep b hbl h1.2.2)⟩
  ·exact h1.2.1.keep ((hset b hbt).trans (hkeep b hbl h1.2.2))
  ·have e : g = b := by simpa [Value.ownBlock] using e
   rcases hl with h2 | h2
   ·exact h1.2.2 (by rw [h2, e])
   ·omega
 refine ⟨?_, ?_, ?_, h.lt, h.name⟩
 ·rw [List.length_append]
  exact blk_put hbox' _
 ·rw [List.length_append]
  exact hR.away _ fun q hq => by
   have e : g = q := by simpa [Value.ownBlock] using hq
   have := h.lt
   simp only
   omega
 ·rw [List.length_append]
  refine TermsS.snoc ?_ ?_
  ·exact hV.tms.keep (fun b hb1 => (hS b (.inl hb1)).1) (fun b hb1 => (hS b (.inl hb1)).2)
  ·exact hx.keep (fun b hb1 => (hS b (.inr hb1)).1) (fun b hb1 => (hS b (.inr hb1)).2)
end
end Go.Proofs.YtjdnigepnfeboaaGreatDoor
namespace Go.Proofs.YtjdnigepnfeboaaGreatDoor
open Go.RowKit Go.Maps
set_option maxRecDepth 100000
def encPart (p : PartT) : List Value := [.int .i64 p.k, .int .i64 p.n, .string ⟨p.s.toArray⟩, .int .u8 (p.a : Int)]
structure PartsAt (w : World) (A : Option Addr) (l : List PartT) : Prop where
 at' : ∀ (i : Nat) (p : PartT), l[i]? = some p → ∃ b off, A = some ⟨b, off, none⟩ ∧ b < w.heap.size ∧ ∀ (j : Nat) u, (encPart p)[j]? = some u → w.cell? ⟨b, off + i * 4 + j, none⟩ = some u
 ok : ∀ p ∈ l, p.s.length ≤ maxLen ∧ p.a < 256
 len : l.length ≤ 1000000000
theorem PartsAt.later {w w' : World} {A : Option Addr} {l : List PartT} (h : PartsAt w A l) (hb : Below w.heap.size w w') : PartsAt w' A l :=
 ⟨fun i p hp => by
  obtain ⟨b, off, h1, h2, h3⟩ := h.at' i p hp
  exact ⟨b, off, h1, Nat.lt_of_lt_of_le h2 hb.size, fun j u hu => (hb.cell (p := ⟨b, off + i * 4 + j, none⟩) h2).trans (h3 j u hu)⟩, h.ok, h.len⟩
theorem PartsAt.drop {w : World} {A : Option Addr} {l : List PartT} {c : Nat} (h : PartsAt w A l) (k : Nat) (hk : 0 < k) (hl : k ≤ l.length) (hc : l.length ≤ c) :
    ∃ A2 c2, sliced A k l.length c 4 = .slice A2 (l.drop k).length c2 ∧ (l.drop k).length ≤ c2 ∧ PartsAt w A2 (l.drop k) := by
 unfold sliced
 refine ⟨_, _, by rw [List.length_drop], by rw [List.length_drop]; omega, ⟨fun i p hp => ?_, fun p hp => h.ok p (List.mem_of_mem_drop hp), by rw [List.length_drop]; have := h.len; omega⟩⟩
 rw [List.getElem?_drop] at hp
 obtain ⟨b, off, h1, h2, h3⟩ := h.at' (k + i) p hp
 have hlt := (List.getElem?_eq_some_iff.1 hp).1
 refine ⟨b, off + k * 4, ?_, h2, fun j u hu => ?_⟩
 ·rw [if_neg (by omega), h1]
  show some (Addr.add ⟨b, off, none⟩ (k * 4)) = _
  unfold Addr.add
  rw [if_neg (by omega)]
 ·have := h3 j u hu
  rwa [show off + (k + i) * 4 + j = off + k * 4 + i * 4 + j by omega] at this
def OfPost (u : World) (l : List PartT) (e : Ending) (u' : World) : Prop :=
 ∃ x : TV, e = .returned (.tuple #[tvV x, .int .i64 ((ofT l).2 : Int)]) ∧ TermS u' (newB u.heap.size u') x (ofT l).1 ∧ Below u.heap.size u u'
def OfC (n : Nat) : Prop := ∀ (l : List PartT) (u : World) (A : Option Addr) (c : Nat), l.length ≤ n → l.length ≤ c → PartsAt u A l → Calls Tryz.prog 14 #[.slice A l.length c] u fun e u' => OfPost u l e u'
theorem fresh_four (w : World) (x : TV) (t : TypeId) : ∀ j u, (encTV x)[j]? = some u → (w.alloc (.cells #[.int .i64 x.k, .int .i64 x.n, .string ⟨x.s.toArray⟩, .slice x.A x.len x.cap] t)).cell? ⟨w.heap.size, j, none⟩ = some u := fun j u hu => by
 exact cell_alloc1 w _ t j u (by simpa [encTV] using hu)
theorem run_sizeOf_part (w : World) : (sizeOf (Tryz.prog.elem 22)).run Tryz.prog w = .ok 4 w := by kernel_rfl
theorem put_cell {V w5 : World} {bt B : Nat} {a0 a1 a2 a3 v : Value} {t : TypeId} {o : Obj} (h : V.heap[bt]? = some (.cells #[a0, a1, a2, a3] t (0, 0))) (hlt : bt < V.heap.size) (hr : ∀ q, v.ownBlock = some q → B ≤ q ∧ q < V.heap.size) (hB : bt < B) (hg : (V.alloc o).grownBy w5 v.ownBlock) :
    w5.cell? ⟨bt, 3, none⟩ = some a3 ∧ w5.frozen? ⟨bt, 3, none⟩ = false := by
 have h1 : w5.heap[bt]? = some (.cells #[a0, a1, a2, a3] t (0, 0)) := by
  rw [hg.block bt (by simp; omega) (fun e => by have := (hr bt e.symm).1; omega), Below.heap_alloc _ _ _ hlt]
  exact h
 obtain ⟨-, -, -, h2, h3⟩ := four_at h1
 exact ⟨h2, h3 3⟩
set_option maxHeartbeats 4000000 in
theorem of_nil (u : World) (A : Option Addr) (c : Nat) : Calls Tryz.prog 14 #[.slice A 0 c] u fun e u' => OfPost u [] e u' := by
 obtain ⟨R, hR⟩ : ∃ R : Ending → World → Prop, R = fun e u' => OfPost u [] e u' := ⟨_, rfl⟩
 rw [← hR]
 have HRR := Lib.hid hR
 clear hR
 go_enter Tryz.func14, Tryz.ntmps14
 go_wp2_with fail
 have hx0 := heap_alloc_new u (.cells #[.int .i64 3, .int .i64 0, .string ⟨#[97]⟩, .slice none 0 0] 27)
 obtain ⟨f0, f1, f2, f3, -⟩ := four_at hx0
 refine ⟨rfl, .tuple #[.agg #[.int .i64 3, .int .i64 0, .string ⟨#[97]⟩, .slice none 0 0], .int .i64 0], by simp [results, Tryz.results14, go_sem, f0, f1, f2, f3], ?_⟩
 rw [HRR.out]
 exact ⟨⟨3, 0, [97], none, 0, 0⟩, rfl, TermS.leaf _ _ 3 0 [97] none 0 (by decide), (Below.refl _ _).alloc (Nat.le_refl _) _⟩
set_option maxHeartbeats 8000000 in
theorem of_step {n : Nat} (hC : OfC n) : OfC (n + 1) := by
 intro l u A c hl hlc hp
 obtain ⟨R, hR⟩ : ∃ R : Ending → World → Prop, R = fun e u' => OfPost u l e u' := ⟨_, rfl⟩
 rw [← hR]
 have HRR := Lib.hid hR
 clear hR
 cases l with
 | nil => rw [HRR.out]; exact of_nil u A c
 | cons p r =>
  obtain ⟨b, off, hA, hb, hc⟩ := hp.at' 0 p rfl
  have m0 := hc 0 _ rfl
  have m1 := hc 1 _ rfl
  have m2 := hc 2 _ rfl
  have m3 := hc 3 _ rfl
  simp only [Nat.zero_mul, Nat.add_zero] at m0 m1 m2 m3
  have hok := hp.ok p (List.mem_cons_self ..)
  obtain ⟨B, hB⟩ : ∃ B, B = u.heap.size + 3 := ⟨_, rfl⟩
  obtain ⟨bt, hbt⟩ : ∃ bt, bt = u.heap.size + 2 := ⟨_, rfl⟩
  obtain ⟨bp, hbp⟩ : ∃ bp, bp = u.heap.size + 1 := ⟨_, rfl⟩
  obtain ⟨br, hbr⟩ : ∃ br, br = u.heap.size := ⟨_, rfl⟩
  obtain ⟨W, hW⟩ : ∃ W, W = ((u.alloc (.cells #[.int .i64 0, .int .i64 0, .string ⟨#[]⟩, .slice none 0 0] 27)).alloc (.cells #[.int .i64 p.k, .int .i64 p.n, .string ⟨p.s.toArray⟩, .int .u8 (p.a : Int)] 71)).alloc (.cells #[.int .i64 p.k, .int .i64 p.n, .string ⟨p.s.toArray⟩, .slice none 0 0] 27) := ⟨_, rfl⟩
  have hbW : Below u.heap.size u W := by rw [hW]; exact (((Below.refl _ _).alloc (Nat.le_refl _) _).alloc (by simp) _).alloc (by simp; omega) _
  have hr0 : W.heap[br]? = some (.cells #[.int .i64 0, .int .i64 0, .string ⟨#[]⟩, .slice none 0 0] 27 (0, 0)) := by
   rw [hW, hbr, Below.heap_alloc _ _ _ (by simp; omega), Below.heap_alloc _ _ _ (by simp)]
   exact heap_alloc_new _ _
  have hp0 : W.heap[bp]? = some (.cells #[.int .i64 p.k, .int .i64 p.n, .string ⟨p.s.toArray⟩, .int .u8 (p.a : Int)] 71 (0, 0)) := by
   rw [hW, hbp, Below.heap_alloc _ _ _ (by simp)]
   have := heap_alloc_new (u.alloc (.cells #[.int .i64 0, .int .i64 0, .string ⟨#[]⟩, .slice none 0 0] 27)) (.cells #[.int .i64 p.k, .int .i64 p.n, .string ⟨p.s.toArray⟩, .int .u8 (p.a : Int)] 71)
   rwa [World.size_alloc] at this
  have ht0 : W.heap[bt]? = some (.cells #[.int .i64 p.k, .int .i64 p.n, .string ⟨p.s.toArray⟩, .slice none 0 0] 27 (0, 0)) := by
   rw [hW, hbt]
   have := heap_alloc_new ((u.alloc (.cells #[.int .i64 0, .int .i64 0, .string ⟨#[]⟩, .slice none 0 0] 27)).alloc (.cells #[.int .i64 p.k, .int .i64 p.n, .string ⟨p.s.toArray⟩, .int .u8 (p.a : Int)] 71)) (.cells #[.int .i64 p.k, .int .i64 p.n, .string ⟨p.s.toArray⟩, .slice none 0 0] 27)
   rwa [World.size_alloc, World.size_alloc] at this
  have hstart : BldAt B bt p.k p.n p.s [] none 0 [] W := BldAt.start (by omega) hok.1 ht0
  obtain ⟨m, hm⟩ : ∃ m, m = p.a % 8 := ⟨_, rfl⟩
  have hm7 : m ≤ 7 := by omega
  have hmm : (p.a : Int).tmod 8 = (m : Int) := by rw [hm]; rfl
  obtain ⟨N, hN⟩ : ∃ N, N = (p :: r).length := ⟨_, rfl⟩
  have hN0 : 0 < N := by rw [hN]; simp
  have hsW : W.heap.size = u.heap.size + 3 := by rw [hW]; simp
  have HB0 := Lib.hid (And.intro hB (And.intro hbt (And.intro hbp (And.intro hbr hsW))))
  have HP := Lib.hid hp
  have HC := Lib.hid hC
  have HLN := Lib.hid (And.intro hl (And.intro hlc hN))
  have HST := Lib.hid hstart
  have HBW := Lib.hid hbW
  have HR0 := Lib.hid hr0
  have HPX := Lib.hid hp0
  have HM := Lib.hid hm
  have HOK := Lib.hid hok
  rw [← hN, hA]
  clear hC hl hlc hp hc hok hB hbW hr0 hp0 ht0 hstart hm hN
  go_enter Tryz.func14, Tryz.ntmps14
  have hNz : ((N : Int) == 0) = false := beq_eq_false_iff_ne.2 (by omega)
  go_upto_region 6 with fail
  rw [← hW, show u.heap.size + 1 + 1 = bt from hbt.symm, ← hbp, ← hbr]
  clear hW hbt hbp hbr m0 m1 m2 m3 hb
  go_wp2_with fail
  go_loopw [6, 7] (fun a i wr => ∃ (k : Nat) (A1 : Option Addr) (c1 : Nat) (xs : List TV), k ≤ m ∧ a = .int .i64 (1 + ((ofLoop ofT k r).2 : Nat)) ∧ i = .int .i64 k ∧ Hid (BldAt B bt p.k p.n p.s (ofLoop ofT k r).1 A1 c1 xs wr ∧ Below u.heap.size u wr ∧ wr.heap[br]? = W.heap[br]? ∧ wr.heap[bp]? = W.heap[bp]?)) (fun _ i _ => m - (intOf i).toNat)
  case atStart => exact ⟨0, none, 0, [], Nat.zero_le _, rfl, rfl, Lib.hid ⟨HST.out, HBW.out, rfl, rfl⟩⟩
  case round =>
   obtain ⟨k, A1, c1, xs, hk, rfl, rfl, HI⟩ := hrel
   have HPR := Lib.hid (HI.out.2.2.2.trans HPX.out)
   have HRR0 := Lib.hid (HI.out.2.2.1.trans HR0.out)
   obtain ⟨q0, q1, q2, q3, -⟩ := four_at HPR.out
   by_cases hkm : k < m
   case neg =>
    have hke : k = m := by omega
    subst hke
    have hd : decide ((k : Int) < (k : Int)) = false := by simp
    obtain ⟨t0, t1, t2, t3, -⟩ := HI.out.1.cells
    obtain ⟨r0, r1, r2, r3, rf⟩ := four_at HRR0.out
    have HFIN : Hid (OfPost u (p :: r) (.returned (.tuple #[tvV ⟨p.k, p.n, p.s, A1, (ofLoop ofT k r).1.length, c1⟩, .int .i64 (1 + ((ofLoop ofT k r).2 : Nat))])) ((((wr.setCell ⟨br, 0, none⟩ (.int .i64 p.k)).setCell ⟨br, 1, none⟩ (.int .i64 p.n)).setCell ⟨br, 2, none⟩ (.string ⟨p.s.toArray⟩)).setCell ⟨br, 3, none⟩ (.slice A1 (ofLoop ofT k r).1.length c1))) := Lib.hid (by
     obtain ⟨hB, hbt, hbp, hbr, hsz⟩ := HB0.out
     refine ⟨⟨p.k, p.n, p.s, A1, (ofLoop ofT k r).1.length, c1⟩, ?_, ?_, ?_⟩
     ·rw [ofT_cons, ← HM.out]
      simp
     ·rw [ofT_cons, ← HM.out]
      refine HI.out.1.done.keep (fun q hq => ⟨by have := hq.1; omega, ?_⟩) (fun q hq => blk_set4_ne _ _ _ _ (by have := hq.1; omega))
      exact hq.2.keep (blk_set4_ne _ _ _ _ (by have := hq.1; omega))
     ·have h1 := HI.out.2.1
      exact (((h1.setCell (p := ⟨br, 0, none⟩) (by simp only; omega) _).setCell (p := ⟨br, 1, none⟩) (by simp only; omega) _).setCell (p := ⟨br, 2, none⟩) (by simp only; omega) _).setCell (p := ⟨br, 3, none⟩) (by simp only; omega) _)
    have HC4 := Lib.hid (blk_set4 HRR0.out rfl (.int .i64 p.k) (.int .i64 p.n) (.string ⟨p.s.toArray⟩) (.slice A1 (ofLoop ofT k r).1.length c1))
    go_wp2_with fail
    obtain ⟨z0, z1, z2, z3, -⟩ := four_at HC4.out
    refine ⟨rfl, .tuple #[.agg #[.int .i64 p.k, .int .i64 p.n, .string ⟨p.s.toArray⟩, .slice A1 (ofLoop ofT k r).1.length c1], .int .i64 (1 + ((ofLoop ofT k r).2 : Nat))], by simp [results, Tryz.results14, go_sem, z0, z1, z2, z3], ?_⟩
    rw [HRR.out]
    exact HFIN.out
   have hd : decide ((k : Int) < (m : Int)) = true := by simp; omega
   have hkr : (ofLoop ofT k r).2 ≤ r.length := (ofLoop_le ofT_le k r).1
   have hNr : N = r.length + 1 := by rw [HLN.out.2.2, List.length_cons]
   have hPW : PartsAt wr (some ⟨b, off, none⟩) (p :: r) := by rw [← hA]; exact HP.out.later HI.out.2.1
   obtain ⟨A2, c2, hsl, hc2, hP2⟩ := hPW.drop (1 + (ofLoop ofT k r).2) (by omega) (by rw [List.length_cons]; omega) (c := c) HLN.out.2.1
   have hdr : (p :: r).drop (1 + (ofLoop ofT k r).2) = r.drop (ofLoop ofT k r).2 := by rw [Nat.add_comm, List.drop_succ_cons]
   rw [hdr] at hsl hc2 hP2
   rw [← HLN.out.2.2] at hsl
   have hsi : sliced (some ⟨b, off, none⟩) (1 + ((ofLoop ofT k r).2 : Nat) : Int).toNat N c 4 = .slice A2 (r.drop (ofLoop ofT k r).2).length c2 := by
    rw [show (1 + ((ofLoop ofT k r).2 : Nat) : Int).toNat = 1 + (ofLoop ofT k r).2 by omega]
    exact hsl
   have hcall := HC.out (r.drop (ofLoop ofT k r).2) wr A2 c2 (by have := HLN.out.1; rw [List.length_cons] at this; rw [List.length_drop]; omega) hc2 hP2
   have HCL := Lib.hid hcall
   obtain ⟨at', hat⟩ : ∃ a : Nat, a = 1 + (ofLoop ofT k r).2 := ⟨_, rfl⟩
   have hsr : (Instr.slice 22 (.slice (some ⟨b, off, none⟩) N c) (some (.int .i64 (1 + ((ofLoop ofT k r).2 : Nat)))) none none).run Tryz.prog wr = .ok (.slice A2 (r.drop (ofLoop ofT k r).2).length c2) wr := by
    rw [run_slice_l (P := Tryz.prog) (w := wr) 22 (some ⟨b, off, none⟩) N c rfl .i64 _ (by omega) (by omega), run_sizeOf_part, ← hsi]
    rfl
   clear hcall hP2 hsl hPW hsi
   obtain ⟨kc, hkc⟩ : ∃ kc, kc = (ofLoop ofT k r).2 := ⟨_, rfl⟩
   rw [← hkc] at hsr HCL hkr hc2 ⊢
   have HKC := Lib.hid hkc
   generalize hD : (r.drop kc).length = D at hsr HCL hc2
   have HD := Lib.hid hD
   obtain ⟨X, hX⟩ : ∃ X, X = ofT (r.drop kc) := ⟨_, rfl⟩
   have hX2 : X.2 ≤ (r.drop kc).length := by rw [hX]; exact ofT_le _
   have HX2 : Hid (kc + X.2 ≤ r.length) := Lib.hid (by rw [List.length_drop] at hX2; omega)
   have HXX := Lib.hid hX
   have HLEN : Hid (r.length ≤ 1000000000) := Lib.hid (by have := HP.out.len; rw [List.length_cons] at this; omega)
   have HNR := Lib.hid hNr
   clear hkc hX hD hkr hat hX2 hNr
   go_wp2_with fail
   refine HCL.out.mono ?_
   rintro e W1 ⟨y, rfl, hy, hb1⟩
   have HY := Lib.hid hy
   have HB1 := Lib.hid hb1
   clear hy hb1 hsr
   rw [← HXX.out, tvV_lit]
   go_upto_region 10 with fail
   obtain ⟨V0, hV0⟩ : ∃ V0, V0 = W1.alloc (.cells #[.int .i64 y.k, .int .i64 y.n, .string ⟨y.s.toArray⟩, .slice y.A y.len y.cap] 27) := ⟨_, rfl⟩
   obtain ⟨b8, hb8⟩ : ∃ b8, b8 = W1.heap.size := ⟨_, rfl⟩
   have hV0b : Below W1.heap.size W1 V0 := by rw [hV0]; exact (Below.refl _ _).alloc (Nat.le_refl _) _
   have hy0 : V0.heap[b8]? = some (.cells #[.int .i64 y.k, .int .i64 y.n, .string ⟨y.s.toArray⟩, .slice y.A y.len y.cap] 27 (0, 0)) := by rw [hV0, hb8]; exact heap_alloc_new _ _
   rw [← hV0, ← hb8]
   have hbV : Below wr.heap.size wr V0 := HB1.out.trans (hV0b.mono HB1.out.size)
   have HBV := Lib.hid hbV
   have hbld := HI.out.1.later hbV
   have hxl := hbld.len
   have HYV : Hid (TermS V0 (newB wr.heap.size V0) y X.1) := Lib.hid (by
    rw [HXX.out]
    exact HY.out.keep (fun q hq => ⟨hq.1, hq.2.keep (hV0b.block q hq.2.lt)⟩) (fun q hq => hV0b.block q hq.2.lt))
   obtain ⟨t0, t1, t2, t3, tf⟩ := hbld.cells
   obtain ⟨y0, y1, y2, y3, -⟩ := four_at hy0
   generalize hLL : (ofLoop ofT k r).1 = LL at hbld hxl t3
   have HLL := Lib.hid hLL
   have HBLD := Lib.hid hbld
   have HROW : Hid (Row V0 B 27 4 encTV (.slice A1 LL.length c1) xs) := Lib.hid hbld.row
   have hL7 : LL.length = k := by rw [← hLL]; exact (ofLoop_le ofT_le k r).2
   have hxs9 : xs.length ≤ 7 := by omega
   have HXS := Lib.hid (And.intro hxl hxs9)
   have HBX := Lib.hid hbld.box
   have HBt : Hid (bt < V0.heap.size ∧ bt < B ∧ B ≤ V0.heap.size ∧ B ≤ wr.heap.size) := Lib.hid ⟨(Array.getElem?_eq_some_iff.1 hbld.box).1, hbld.lt, by
    have h1 := HB0.out
    have h2 := (Array.getElem?_eq_some_iff.1 HI.out.1.box).1
    have h3 := hbV.size
    omega, by have h1 := HB0.out; have h2 := (Array.getElem?_eq_some_iff.1 HI.out.1.box).1; omega⟩
   obtain ⟨i0, z0, hi0, hz0, hs0, hby0, hzc0⟩ := term_info
   have hzs : z0.cells.size = 4 := by rw [hzc0]; rfl
   have HIN := Lib.hid (And.intro hi0 (And.intro hz0 (And.intro hs0 (And.intro hby0 hzs))))
   have hw1 : IntKind.i64.wrap (1 + (kc : Int) + (X.2 : Int)) = 1 + (kc : Int) + (X.2 : Int) := IntWalk.i64_in _ (by have := HX2.out; have := HLEN.out; omega)
   have hw2 : IntKind.i64.wrap ((k : Int) + 1) = (k : Int) + 1 := IntWalk.i64_in _ (by omega)
   clear hV0 hb8 hV0b hy0 hbV hbld hxl hLL hL7 hxs9 hi0 hz0 hs0 hby0 hzc0 hzs q0 q1 q2 q3
   go_wp2_with (at_builtin; refine wpList_row_lies rfl _ _ 25 rfl _ B 27 i0 z0 4 56 encTV Tryz.underlying25 HIN.out.1 HIN.out.2.1 HIN.out.2.2.1 HIN.out.2.2.2.1 HIN.out.2.2.2.2 (by decide) encTV_len encTV_one _ xs y rfl (HROW.out.alloc _) _ _ rfl (fun j u hu => fresh_four _ _ _ j u hu) (by have := HXS.out; unfold maxLen; omega) (by have := HXS.out; omega) (by have := HBt.out; simp; omega) ?_; intro g5 cap5 w5 hR5 hg5 hl5; have HR5 := Lib.hid hR5; have HG5 := Lib.hid hg5; have HL5 := Lib.hid hl5; clear hR5 hg5 hl5; obtain ⟨v3, vf⟩ := put_cell HBX.out HBt.out.1 (HROW.out.lt) HBt.out.2.1 HG5.out)
   have HNX : Hid (BldAt B bt p.k p.n p.s (ofLoop ofT (k + 1) r).1 (some ⟨g5, 0, none⟩) cap5 (xs ++ [y]) (w5.setCell ⟨bt, 3, none⟩ (.slice (some ⟨g5, 0, none⟩) (xs.length + 1) cap5)) ∧ Below u.heap.size u (w5.setCell ⟨bt, 3, none⟩ (.slice (some ⟨g5, 0, none⟩) (xs.length + 1) cap5)) ∧ (w5.setCell ⟨bt, 3, none⟩ (.slice (some ⟨g5, 0, none⟩) (xs.length + 1) cap5)).heap[br]? = W.heap[br]? ∧ (w5.setCell ⟨bt, 3, none⟩ (.slice (some ⟨g5, 0, none⟩) (xs.length + 1) cap5)).heap[bp]? = W.heap[bp]?) := Lib.hid (by
    obtain ⟨hB, hbt, hbp, hbr, hsz⟩ := HB0.out
    have hxl := HXS.out.1
    have hR5 := HR5.out
    rw [hxl] at hR5 ⊢
    have hbA : Below V0.heap.size V0 (V0.alloc (.cells #[.int .i64 y.k, .int .i64 y.n, .string ⟨y.s.toArray⟩, .slice y.A y.len y.cap] 27)) := (Below.refl _ _).alloc (Nat.le_refl _) _
    have hown : ∀ q, (Value.slice A1 LL.length c1).ownBlock = some q → B ≤ q ∧ q < V0.heap.size := HROW.out.lt
    have hkeep : ∀ q, q < V0.heap.size → q < B → w5.heap[q]? = V0.heap[q]? := fun q h1 h2 => by
     rw [HG5.out.block q (by simp; omega) (fun e => by have := (hown q e.symm).1; omega)]
     exact Below.heap_alloc _ _ _ h1
    have hBV := HBt.out
    refine ⟨?_, ?_, ?_, ?_⟩
    ·rw [ofLoop_snoc, ← HKC.out, ← HXX.out, HLL.out]
     have h0 := HBLD.out.tms
     have hwr := HI.out.1
     rw [HLL.out] at hwr
     refine BldAt.push hwr (HBV.out.trans (hbA.mono HBV.out.size)) (HYV.out.keep (fun q hq => ⟨hq.1, hq.2.keep (Below.heap_alloc _ _ _ hq.2.lt)⟩) (fun q hq => Below.heap_alloc _ _ _ hq.2.lt)) hBV.2.2.2 hR5 HG5.out ?_
     rcases HL5.out with h | h
     ·exact .inl h
     ·exact .inr h
    ·have h1 : Below u.heap.size u V0 := HI.out.2.1.trans (HBV.out.mono HI.out.2.1.size)
     have h2 : Below u.heap.size u (V0.alloc (.cells #[.int .i64 y.k, .int .i64 y.n, .string ⟨y.s.toArray⟩, .slice y.A y.len y.cap] 27)) := h1.trans (hbA.mono h1.size)
     have h3 : Below u.heap.size u w5 := h2.grown HG5.out h2.size fun q hq => by have := (hown q hq).1; omega
     exact h3.setCell (p := ⟨bt, 3, none⟩) (by simp only; omega) _
    ·have h1 : br < wr.heap.size := (Array.getElem?_eq_some_iff.1 HRR0.out).1
     rw [Below.heap_setCell _ _ _ _ (by simp only; omega), hkeep br (by have := HBV.out.size; omega) (by omega), HBV.out.block br h1]
     exact HI.out.2.2.1
    ·have h1 : bp < wr.heap.size := (Array.getElem?_eq_some_iff.1 HPR.out).1
     rw [Below.heap_setCell _ _ _ _ (by simp only; omega), hkeep bp (by have := HBV.out.size; omega) (by omega), HBV.out.block bp h1]
     exact HI.out.2.2.2)
   have HSD : Hid (((ofLoop ofT (k + 1) r).2 : Nat) = kc + X.2) := Lib.hid (by rw [ofLoop_snoc, ← HKC.out, ← HXX.out])
   have hint : Value.int .i64 (1 + (kc : Int) + (X.2 : Int)) = .int .i64 (1 + ((ofLoop ofT (k + 1) r).2 : Nat)) := by
    rw [HSD.out]
    congr 1
    omega
   have HINT := Lib.hid hint
   clear t0 t1 t2 t3 tf y0 y1 y2 y3 hint
   go_wp2_with fail
   go_roundw
   case rel => exact ⟨k + 1, _, _, _, by omega, HINT.out, rfl, HNX⟩
   all_goals (simp [intOf]; omega)
theorem of_all : ∀ n, OfC n
 | 0 => by
  intro l u A c hl hlc hp
  obtain rfl : l = [] := List.eq_nil_of_length_eq_zero (by omega)
  exact of_nil u A c
 | n + 1 => of_step (of_all n)
def MendPost (u : World) (t : Tm) (e : Ending) (u' : World) : Prop :=
 ∃ x : TV, e = .returned (tvV x) ∧ TermS u' (newB u.heap.size u') x (mendT t) ∧ Below u.heap.size u u'
def MendC (n : Nat) : Prop := ∀ (t : Tm) (u : World) (x : TV), t.size ≤ n → t.size ≤ 1000000000 → TermAt u u.heap.size x t → Calls Tryz.prog 15 #[tvV x] u fun e u' => MendPost u t e u'
theorem mend_eq (t : Tm) : mendT t = if 20 < t.s.length then atomT [97] else if t.k = 1 then varT (max 0 t.n) else if t.k = 2 then intT t.n else if t.k = 3 then atomT t.s else if t.k = 4 then (if t.args.length = 0 then atomT [97] else compT t.s (mendL t.args)) else atomT [97] := by
 obtain ⟨k, n, s, l⟩ := t
 rw [mendT]
 rfl
theorem mendL_snoc : ∀ (l : List Tm) (t : Tm), mendL (l ++ [t]) = mendL l ++ [mendT t]
 | [], t => by simp [mendL]
 | a :: r, t => by rw [List.cons_append, mendL, mendL_snoc r t, mendL]; rfl
theorem arg_in {w : World} {B : Nat} {x : TV} {t : Tm} (h : TermAt w B x t) {i : Nat} (hi : i < t.args.length) :
    ∃ b off y, x.A = some ⟨b, off, none⟩ ∧ b < B ∧ TermAt w B y (t.args.getD i noTm) ∧
     (w.cell? ⟨b, off + i * 4, none⟩ = some (.int .i64 y.k) ∧ w.cell? ⟨b, off + i * 4 + 1, none⟩ = some (.int .i64 y.n) ∧ w.cell? ⟨b, off + i * 4 + 2, none⟩ = some (.string ⟨y.s.toArray⟩) ∧ w.cell? ⟨b, off + i * 4 + 3, none⟩ = some (.slice y.A y.len y.cap)) := by
 obtain ⟨k1, k2, k3, k4, k5, ka⟩ := h.open
 have e0 : t.args[i]? = some (t.args.getD i noTm) := by rw [List.getD_eq_getElem?_getD, List.getElem?_eq_getElem hi]; rfl
 obtain ⟨y, b, off, hA, hb, ht, hc⟩ := ka i _ e0
 exact ⟨b, off, y, hA, hb, ht, hc 0 _ rfl, hc 1 _ rfl, hc 2 _ rfl, hc 3 _ rfl⟩
theorem arg_lt {t : Tm} {i : Nat} (h : i < t.args.length) : (t.args.getD i noTm).size < t.size := by
 have h1 := mem_sizes t.args (t.args.getD i noTm) (by rw [List.getD_eq_getElem?_getD, List.getElem?_eq_getElem h]; exact List.getElem_mem h)
 have h2 := size_args t
 omega
theorem sizes_len : ∀ l : List Tm, l.length ≤ Tm.sizes l
 | [] => Nat.le_refl _
 | t :: r => by
  have h1 := sizes_len r
  have h2 := size_pos t
  rw [Tm.sizes, List.length_cons]
  omega
theorem take_getD {t : Tm} {k : Nat} (h : k < t.args.length) : t.args.take (k + 1) = t.args.take k ++ [t.args.getD k noTm] := by
 rw [List.take_succ_eq_append_getElem h, List.getD_eq_getElem?_getD, List.getElem?_eq_getElem h]
 rfl
theorem mend_leaf {u w : World} {br : Nat} {t : Tm} (k n : Int) (s : List UInt8) (hbr : u.heap.size ≤ br) (hb : Below u.heap.size u w) (hs : s.length ≤ maxLen) (ht : mendT t = .mk k n s []) :
    MendPost u t (.returned (tvV ⟨k, n, s, none, 0, 0⟩)) ((((w.setCell ⟨br, 0, none⟩ (.int .i64 k)).setCell ⟨br, 1, none⟩ (.int .i64 n)).setCell ⟨br, 2, none⟩ (.string ⟨s.toArray⟩)).setCell ⟨br, 3, none⟩ (.slice none 0 0)) :=
 ⟨_, rfl, by rw [ht]; exact TermS.leaf _ _ k n s none 0 hs, (((hb.setCell (p := ⟨br, 0, none⟩) hbr _).setCell (p := ⟨br, 1, none⟩) hbr _).setCell (p := ⟨br, 2, none⟩) hbr _).setCell (p := ⟨br, 3, none⟩) hbr _⟩
set_option maxHeartbeats 16000000 in
theorem mend_step {n : Nat} (hC : MendC n) : MendC (n + 1) := by
 intro t u x hn hsz hx
 obtain ⟨R, hR⟩ : ∃ R : Ending → World → Prop, R = fun e u' => MendPost u t e u' := ⟨_, rfl⟩
 rw [← hR]
 have HRR := Lib.hid hR
 obtain ⟨k1, k2, k3, k4, k5, -⟩ := hx.open
 have hme := mend_eq t
 rw [k1, k2, k3, k4] at hme
 obtain ⟨W, hW⟩ : ∃ W, W = ((u.alloc (.cells #[.int .i64 x.k, .int .i64 x.n, .string ⟨x.s.toArray⟩, .slice x.A x.len x.cap] 27)).alloc (.cells #[.int .i64 0, .int .i64 0, .string ⟨#[]⟩, .slice none 0 0] 27)).alloc (.cells #[.int .i64 3, .int .i64 0, .string ⟨#[97]⟩, .slice none 0 0] 27) := ⟨_, rfl⟩
 have hbW : Below u.heap.size u W := by rw [hW]; exact (((Below.refl _ _).alloc (Nat.le_refl _) _).alloc (by simp) _).alloc (by simp; omega) _
 obtain ⟨bx, hbx⟩ : ∃ b, b = u.heap.size := ⟨_, rfl⟩
 obtain ⟨br, hbr⟩ : ∃ b, b = u.heap.size + 1 := ⟨_, rfl⟩
 obtain ⟨ba, hba⟩ : ∃ b, b = u.heap.size + 1 + 1 := ⟨_, rfl⟩
 have hx0 : W.heap[bx]? = some (.cells #[.int .i64 x.k, .int .i64 x.n, .string ⟨x.s.toArray⟩, .slice x.A x.len x.cap] 27 (0, 0)) := by
  rw [hW, hbx, Below.heap_alloc _ _ _ (by simp; omega), Below.heap_alloc _ _ _ (by simp)]
  exact heap_alloc_new _ _
 have hr0 : W.heap[br]? = some (.cells #[.int .i64 0, .int .i64 0, .string ⟨#[]⟩, .slice none 0 0] 27 (0, 0)) := by
  rw [hW, hbr, Below.heap_alloc _ _ _ (by simp)]
  have := heap_alloc_new (u.alloc (.cells #[.int .i64 x.k, .int .i64 x.n, .string ⟨x.s.toArray⟩, .slice x.A x.len x.cap] 27)) (.cells #[.int .i64 0, .int .i64 0, .string ⟨#[]⟩, .slice none 0 0] 27)
  rwa [World.size_alloc] at this
 have ha0 : W.heap[ba]? = some (.cells #[.int .i64 3, .int .i64 0, .string ⟨#[97]⟩, .slice none 0 0] 27 (0, 0)) := by
  rw [hW, hba]
  have := heap_alloc_new ((u.alloc (.cells #[.int .i64 x.k, .int .i64 x.n, .string ⟨x.s.toArray⟩, .slice x.A x.len x.cap] 27)).alloc (.cells #[.int .i64 0, .int .i64 0, .string ⟨#[]⟩, .slice none 0 0] 27)) (.cells #[.int .i64 3, .int .i64 0, .string ⟨#[97]⟩, .slice none 0 0] 27)
  rwa [World.size_alloc, World.size_alloc] at this
 have hsW : W.heap.size = u.heap.size + 3 := by rw [hW]; simp
 obtain ⟨f0, f1, f2, f3, -⟩ := four_at hx0
 obtain ⟨r0, r1, r2, r3, rf⟩ := four_at hr0
 obtain ⟨a0, a1, a2, a3, -⟩ := four_at ha0
 have hsl : (⟨x.s.toArray⟩ : ByteArray).size = x.s.length := by simp [ByteArray.size]
 have HME := Lib.hid hme
 have HC := Lib.hid hC
 have HX := Lib.hid hx
 have HBW := Lib.hid hbW
 have HR0 := Lib.hid hr0
 have HX0 := Lib.hid hx0
 have HA0 := Lib.hid ha0
 have HB := Lib.hid (And.intro hbx (And.intro hbr (And.intro hba hsW)))
 have HSZ := Lib.hid (And.intro hn hsz)
 have HK := Lib.hid (And.intro k1 (And.intro k2 (And.intro k3 (And.intro k4 k5))))
 have hlr : br < W.heap.size := by omega
 clear hC hn hsz hx hR hme hbW hx0 hr0 ha0 k1 k2 k3 k4 k5 hsW
 rw [tvV_lit]
 by_cases hlen : 20 < x.s.length
 ·have g0 : decide ((20 : Int) < (x.s.length : Int)) = true := by simp; omega
  have g1 : 20 < x.s.length := hlen
  have HFIN := Lib.hid (mend_leaf (u := u) (w := W) (br := br) (t := t) 3 0 [97] (by have := HB.out; omega) HBW.out (by first | exact HK.out.2.2.2.2 | decide) (by rw [HME.out]; rw [if_pos hlen]; rfl))
  have HC4 := Lib.hid (blk_set4 HR0.out rfl (.int .i64 3) (.int .i64 0) (.string ⟨([97] : List UInt8).toArray⟩) (.slice none 0 0))
  clear hlen
  go_enter Tryz.func15, Tryz.ntmps15
  go_upto_region 2 with fail
  rw [← hW, ← hba, ← hbr, ← hbx]
  clear hW hba hbr hbx
  go_wp2_with fail
  obtain ⟨z0, z1, z2, z3, -⟩ := four_at HC4.out
  refine ⟨rfl, .agg #[.int .i64 3, .int .i64 0, .string ⟨([97] : List UInt8).toArray⟩, .slice none 0 0], by simp [results, Tryz.results15, go_sem, z0, z1, z2, z3], ?_⟩
  rw [HRR.out]
  exact HFIN.out
 have g0 : decide ((20 : Int) < (x.s.length : Int)) = false := by simp; omega
 by_cases e1 : x.k = 1
 ·have b1 : (x.k == 1) = true := by rw [e1]; rfl
  by_cases hneg : 0 < x.n
  ·have hmx : max 0 x.n = x.n := by omega
   have HFIN := Lib.hid (mend_leaf (u := u) (w := W) (br := br) (t := t) 1 x.n [] (by have := HB.out; omega) HBW.out (by first | exact HK.out.2.2.2.2 | decide) (by rw [HME.out]; rw [if_neg hlen, if_pos e1, hmx]; rfl))
   have HC4 := Lib.hid (blk_set4 HR0.out rfl (.int .i64 1) (.int .i64 x.n) (.string ⟨([] : List UInt8).toArray⟩) (.slice none 0 0))
   clear e1
   go_enter Tryz.func15, Tryz.ntmps15
   go_upto_region 2 with fail
   rw [← hW, ← hba, ← hbr, ← hbx]
   clear hW hba hbr hbx
   go_wp2_with fail
   obtain ⟨z0, z1, z2, z3, -⟩ := four_at HC4.out
   refine ⟨rfl, .agg #[.int .i64 1, .int .i64 x.n, .string ⟨([] : List UInt8).toArray⟩, .slice none 0 0], by simp [results, Tryz.results15, go_sem, z0, z1, z2, z3], ?_⟩
   rw [HRR.out]
   exact HFIN.out
  ·have hmx : max 0 x.n = 0 := by omega
   have HFIN := Lib.hid (mend_leaf (u := u) (w := W) (br := br) (t := t) 1 0 [] (by have := HB.out; omega) HBW.out (by first | exact HK.out.2.2.2.2 | decide) (by rw [HME.out]; rw [if_neg hlen, if_pos e1, hmx]; rfl))
   have HC4 := Lib.hid (blk_set4 HR0.out rfl (.int .i64 1) (.int .i64 0) (.string ⟨([] : List UInt8).toArray⟩) (.slice none 0 0))
   clear e1
   go_enter Tryz.func15, Tryz.ntmps15
   go_upto_region 2 with fail
   rw [← hW, ← hba, ← hbr, ← hbx]
   clear hW hba hbr hbx
   go_wp2_with fail
   obtain ⟨z0, z1, z2, z3, -⟩ := four_at HC4.out
   refine ⟨rfl, .agg #[.int .i64 1, .int .i64 0, .string ⟨([] : List UInt8).toArray⟩, .slice none 0 0], by simp [results, Tryz.results15, go_sem, z0, z1, z2, z3], ?_⟩
   rw [HRR.out]
   exact HFIN.out
 have b1 : (x.k == 1) = false := beq_eq_false_iff_ne.2 e1
 by_cases e2 : x.k = 2
 ·have b2 : (x.k == 2) = true := by rw [e2]; rfl
  have HFIN := Lib.hid (mend_leaf (u := u) (w := W) (br := br) (t := t) 2 x.n [] (by have := HB.out; omega) HBW.out (by first | exact HK.out.2.2.2.2 | decide) (by rw [HME.out]; rw [if_neg hlen, if_neg e1, if_pos e2]; rfl))
  have HC4 := Lib.hid (blk_set4 HR0.out rfl (.int .i64 2) (.int .i64 x.n) (.string ⟨([] : List UInt8).toArray⟩) (.slice none 0 0))
  clear e1 e2
  go_enter Tryz.func15, Tryz.ntmps15
  go_upto_region 2 with fail
  rw [← hW, ← hba, ← hbr, ← hbx]
  clear hW hba hbr hbx
  go_wp2_with fail
  obtain ⟨z0, z1, z2, z3, -⟩ := four_at HC4.out
  refine ⟨rfl, .agg #[.int .i64 2, .int .i64 x.n, .string ⟨([] : List UInt8).toArray⟩, .slice none 0 0], by simp [results, Tryz.results15, go_sem, z0, z1, z2, z3], ?_⟩
  rw [HRR.out]
  exact HFIN.out
 have b2 : (x.k == 2) = false := beq_eq_false_iff_ne.2 e2
 by_cases e3 : x.k = 3
 ·have b3 : (x.k == 3) = true := by rw [e3]; rfl
  have HFIN := Lib.hid (mend_leaf (u := u) (w := W) (br := br) (t := t) 3 0 x.s (by have := HB.out; omega) HBW.out (by first | exact HK.out.2.2.2.2 | decide) (by rw [HME.out]; rw [if_neg hlen, if_neg e1, if_neg e2, if_pos e3]; rfl))
  have HC4 := Lib.hid (blk_set4 HR0.out rfl (.int .i64 3) (.int .i64 0) (.string ⟨(x.s : List UInt8).toArray⟩) (.slice none 0 0))
  clear e1 e2 e3
  go_enter Tryz.func15, Tryz.ntmps15
  go_upto_region 2 with fail
  rw [← hW, ← hba, ← hbr, ← hbx]
  clear hW hba hbr hbx
  go_wp2_with fail
  obtain ⟨z0, z1, z2, z3, -⟩ := four_at HC4.out
  refine ⟨rfl, .agg #[.int .i64 3, .int .i64 0, .string ⟨(x.s : List UInt8).toArray⟩, .slice none 0 0], by simp [results, Tryz.results15, go_sem, z0, z1, z2, z3], ?_⟩
  rw [HRR.out]
  exact HFIN.out
 have b3 : (x.k == 3) = false := beq_eq_false_iff_ne.2 e3
 by_cases e4 : x.k = 4
 ·have b4 : (x.k == 4) = true := by rw [e4]; rfl
  by_cases hl0 : x.len = 0
  ·have b5 : ((x.len : Int) == 0) = true := by rw [hl0]; rfl
   have HFIN := Lib.hid (mend_leaf (u := u) (w := W) (br := br) (t := t) 3 0 [97] (by have := HB.out; omega) HBW.out (by first | exact HK.out.2.2.2.2 | decide) (by rw [HME.out]; rw [if_neg hlen, if_neg e1, if_neg e2, if_neg e3, if_pos e4, if_pos hl0]; rfl))
   have HC4 := Lib.hid (blk_set4 HR0.out rfl (.int .i64 3) (.int .i64 0) (.string ⟨([97] : List UInt8).toArray⟩) (.slice none 0 0))
   clear e1 e2 e3 e4 hl0
   go_enter Tryz.func15, Tryz.ntmps15
   go_upto_region 2 with fail
   rw [← hW, ← hba, ← hbr, ← hbx]
   clear hW hba hbr hbx
   go_wp2_with fail
   obtain ⟨z0, z1, z2, z3, -⟩ := four_at HC4.out
   refine ⟨rfl, .agg #[.int .i64 3, .int .i64 0, .string ⟨([97] : List UInt8).toArray⟩, .slice none 0 0], by simp [results, Tryz.results15, go_sem, z0, z1, z2, z3], ?_⟩
   rw [HRR.out]
   exact HFIN.out
  ·have b5 : ((x.len : Int) == 0) = false := beq_eq_false_iff_ne.2 (by omega)
   have HLN : Hid (t.args.length = x.len ∧ mendT t = compT x.s (mendL t.args)) := Lib.hid ⟨HK.out.2.2.2.1, by rw [HME.out, if_neg hlen, if_neg e1, if_neg e2, if_neg e3, if_pos e4, if_neg hl0]⟩
   obtain ⟨B, hB⟩ : ∃ B, B = W.heap.size + 1 := ⟨_, rfl⟩
   obtain ⟨bt, hbt⟩ : ∃ b, b = W.heap.size := ⟨_, rfl⟩
   obtain ⟨V, hV⟩ : ∃ V, V = W.alloc (.cells #[.int .i64 4, .int .i64 0, .string ⟨x.s.toArray⟩, .slice none 0 0] 27) := ⟨_, rfl⟩
   have hbV : Below W.heap.size W V := by rw [hV]; exact (Below.refl _ _).alloc (Nat.le_refl _) _
   have ht0 : V.heap[bt]? = some (.cells #[.int .i64 4, .int .i64 0, .string ⟨x.s.toArray⟩, .slice none 0 0] 27 (0, 0)) := by rw [hV, hbt]; exact heap_alloc_new _ _
   have HST := Lib.hid (BldAt.start (B := B) (by omega) HK.out.2.2.2.2 ht0)
   have HBV := Lib.hid (And.intro hbV (And.intro hB hbt))
   have HRV := Lib.hid ((hbV.block br hlr).trans HR0.out)
   have hqx : bx < W.heap.size := by have := HB.out; omega
   have HXV := Lib.hid ((hbV.block bx hqx).trans HX0.out)
   clear e1 e2 e3 e4 hl0 hlen hB hbV ht0
   go_enter Tryz.func15, Tryz.ntmps15
   go_upto_region 2 with fail
   rw [← hW, ← hba, ← hbr, ← hbx]
   clear hW hba hbr hbx
   go_upto_region 15 with fail
   rw [← hV, ← hbt]
   clear hV hbt f0 f1 f2 f3 r0 r1 r2 r3 rf a0 a1 a2 a3
   obtain ⟨f0, f1, f2, f3, -⟩ := four_at HXV.out
   go_wp2_with fail
   go_loopw [44] (fun i wr => ∃ (k : Nat) (A1 : Option Addr) (c1 : Nat) (xs : List TV), k ≤ x.len ∧ i = .int .i64 k ∧ Hid (BldAt B bt 4 0 x.s (mendL (t.args.take k)) A1 c1 xs wr ∧ Below u.heap.size u wr ∧ wr.heap[br]? = W.heap[br]? ∧ B ≤ wr.heap.size)) (fun i _ => x.len - (intOf i).toNat)
   case atStart => exact ⟨0, none, 0, [], Nat.zero_le _, rfl, Lib.hid ⟨by simpa [mendL] using HST.out, HBW.out.trans (HBV.out.1.mono HBW.out.size), HBV.out.1.block br hlr, by have := HBV.out; have h5 := (Array.getElem?_eq_some_iff.1 HST.out.box).1; omega⟩⟩
   case round =>
    obtain ⟨k, A1, c1, xs, hk, rfl, HI⟩ := hrel
    have HRR0 := Lib.hid (HI.out.2.2.1.trans HR0.out)
    clear f0 f1 f2 f3
    by_cases hkl : k < x.len
    case neg =>
     have hke : k = x.len := by omega
     have b9 : decide ((k : Int) < (x.len : Int)) = false := by simp; omega
     have HKE := Lib.hid hke
     obtain ⟨t0, t1, t2, t3, -⟩ := HI.out.1.cells
     obtain ⟨r0, r1, r2, r3, rf⟩ := four_at HRR0.out
     have htk : t.args.take k = t.args := by rw [hke, ← HLN.out.1, List.take_length]
     have HTK := Lib.hid htk
     have HFIN : Hid (MendPost u t (.returned (tvV ⟨4, 0, x.s, A1, (mendL (t.args.take k)).length, c1⟩)) ((((wr.setCell ⟨br, 0, none⟩ (.int .i64 4)).setCell ⟨br, 1, none⟩ (.int .i64 0)).setCell ⟨br, 2, none⟩ (.string ⟨x.s.toArray⟩)).setCell ⟨br, 3, none⟩ (.slice A1 (mendL (t.args.take k)).length c1))) := Lib.hid (by
      have hBB := HB.out
      have hBV := HBV.out
      refine ⟨⟨4, 0, x.s, A1, (mendL (t.args.take k)).length, c1⟩, rfl, ?_, ?_⟩
      ·rw [HLN.out.2]
       have hd := HI.out.1.done
       rw [htk] at hd ⊢
       refine hd.keep (fun q hq => ⟨by have := hq.1; omega, ?_⟩) (fun q hq => blk_set4_ne _ _ _ _ (by have := hq.1; omega))
       exact hq.2.keep (blk_set4_ne _ _ _ _ (by have := hq.1; omega))
      ·have h1 := HI.out.2.1
       exact (((h1.setCell (p := ⟨br, 0, none⟩) (by simp only; omega) _).setCell (p := ⟨br, 1, none⟩) (by simp only; omega) _).setCell (p := ⟨br, 2, none⟩) (by simp only; omega) _).setCell (p := ⟨br, 3, none⟩) (by simp only; omega) _)
     have HC4 := Lib.hid (blk_set4 HRR0.out rfl (.int .i64 4) (.int .i64 0) (.string ⟨x.s.toArray⟩) (.slice A1 (mendL (t.args.take k)).length c1))
     clear hke htk
     go_wp2_with fail
     obtain ⟨z0, z1, z2, z3, -⟩ := four_at HC4.out
     refine ⟨rfl, .agg #[.int .i64 4, .int .i64 0, .string ⟨x.s.toArray⟩, .slice A1 (mendL (t.args.take k)).length c1], by simp [results, Tryz.results15, go_sem, z0, z1, z2, z3], ?_⟩
     rw [HRR.out]
     exact HFIN.out
    have b9 : decide ((k : Int) < (x.len : Int)) = true := by simp; omega
    have hk0 : (0 : Int) ≤ (k : Int) := by omega
    have hk1 : (k : Int) < (x.len : Int) := by omega
    have hka : k < t.args.length := by rw [HLN.out.1]; exact hkl
    obtain ⟨b, off, y, hA, hbB, hy, m0, m1, m2, m3⟩ := arg_in (HX.out.blw HI.out.2.1) hka
    have hbw : b < wr.heap.size := by have := HI.out.2.1.size; omega
    obtain ⟨V1, hV1⟩ : ∃ V1, V1 = wr.alloc (.cells #[.int .i64 y.k, .int .i64 y.n, .string ⟨y.s.toArray⟩, .slice y.A y.len y.cap] 27) := ⟨_, rfl⟩
    obtain ⟨b6, hb6⟩ : ∃ b6, b6 = wr.heap.size := ⟨_, rfl⟩
    have hbV1 : Below wr.heap.size wr V1 := by rw [hV1]; exact (Below.refl _ _).alloc (Nat.le_refl _) _
    have hy0 : V1.heap[b6]? = some (.cells #[.int .i64 y.k, .int .i64 y.n, .string ⟨y.s.toArray⟩, .slice y.A y.len y.cap] 27 (0, 0)) := by rw [hV1, hb6]; exact heap_alloc_new _ _
    have HM : Hid (∀ v, Below V1.heap.size V1 v → Calls Tryz.prog 15 #[.agg #[.int .i64 y.k, .int .i64 y.n, .string ⟨y.s.toArray⟩, .slice y.A y.len y.cap]] v fun e v' => ∃ z : TV, e = .returned (.agg #[.int .i64 z.k, .int .i64 z.n, .string ⟨z.s.toArray⟩, .slice z.A z.len z.cap]) ∧ TermS v' (newB V1.heap.size v') z (mendT (t.args.getD k noTm)) ∧ Below V1.heap.size V1 v') := Lib.hid fun v hv => by
     have h1 := arg_lt hka
     have h2 : TermAt v v.heap.size y (t.args.getD k noTm) := ((hy.up (by have := HI.out.2.1.size; omega)).blw (B := wr.heap.size) hbV1 |>.blw (hv.mono hbV1.size)).up (by have := hbV1.size; have := hv.size; omega)
     have h3 := HSZ.out
     rw [← tvV_lit]
     refine (HC.out _ v y (by omega) (by omega) h2).mono ?_
     rintro e v' ⟨z, rfl, h4, h5⟩
     exact ⟨z, by rw [tvV_lit], h4.keep (fun q hq => ⟨Nat.le_trans hv.size hq.1, hq.2⟩) (fun _ _ => rfl), hv.trans (h5.mono hv.size)⟩
    have HCB : Hid (∀ v, Below V1.heap.size V1 v → BldAt B bt 4 0 x.s (mendL (t.args.take k)) A1 c1 xs v) := Lib.hid fun v hv => HI.out.1.later (hbV1.trans (hv.mono hbV1.size))
    have HBV1 := Lib.hid hbV1
    have HS1 : Hid (∀ v, Below V1.heap.size V1 v → v.cell? ⟨bt, 3, none⟩ = some (.slice A1 (mendL (t.args.take k)).length c1) ∧ v.cell? ⟨b6, 0, none⟩ = some (.int .i64 y.k) ∧ v.cell? ⟨b6, 1, none⟩ = some (.int .i64 y.n) ∧ v.cell? ⟨b6, 2, none⟩ = some (.string ⟨y.s.toArray⟩) ∧ v.cell? ⟨b6, 3, none⟩ = some (.slice y.A y.len y.cap)) := Lib.hid fun v hv => by
     obtain ⟨-, -, -, h3, -⟩ := (HCB.out v hv).cells
     obtain ⟨g0, g1, g2, g3, -⟩ := four_at ((hv.block b6 (Array.getElem?_eq_some_iff.1 hy0).1).trans hy0)
     exact ⟨h3, g0, g1, g2, g3⟩
    have hbr1 := Below.refl V1.heap.size V1
    have hbd1 : Below V1.heap.size V1 V1.drew := (Below.refl V1.heap.size V1).drew
    have hL9 : (mendL (t.args.take k)).length = k := by rw [mendL_len, List.length_take]; omega
    have hxl := HI.out.1.len
    have HXL := Lib.hid (And.intro hL9 hxl)
    have hxs9 : xs.length ≤ 1000000000 := by have := HSZ.out.2; have := size_args t; have := sizes_len t.args; omega
    have HX9 := Lib.hid hxs9
    have HBB := Lib.hid (And.intro HI.out.2.2.2 (And.intro hbV1.size HI.out.1.lt))
    obtain ⟨i0, z0, hi0, hz0, hs0, hby0, hzc0⟩ := term_info
    have hzs : z0.cells.size = 4 := by rw [hzc0]; rfl
    have HIN := Lib.hid (And.intro hi0 (And.intro hz0 (And.intro hs0 (And.intro hby0 hzs))))
    have hw2 : IntKind.i64.wrap ((k : Int) + 1) = (k : Int) + 1 := IntWalk.i64_in _ (by omega)
    rw [hA] at *
    clear hbV1 hy0 hL9 hxl hxs9 hi0 hz0 hs0 hby0 hzc0 hzs hA hbB hy hka
    go_upto_region 18 with fail
    rw [← hV1, ← hb6]
    clear hV1 hb6 m0 m1 m2 m3 hbw
    obtain ⟨t3, y0, y1, y2, y3⟩ := HS1.out V1 hbr1
    go_region_law (first | (go_simp; go_at_call 15; refine (HM.out _ (by assumption)).mono ?_; rintro e W1 ⟨z, rfl, hz, hb1⟩; obtain ⟨t3', -⟩ := HS1.out W1 hb1; have hbt1 : bt < W1.heap.size := (Array.getElem?_eq_some_iff.1 (HCB.out W1 hb1).box).1; have HZ := Lib.hid hz; have HB9 := Lib.hid hb1) | (refine step_append_lies _ (by rfl) _ _ _ (by rfl) B 27 i0 z0 4 56 Tryz.underlying25 HIN.out.1 HIN.out.2.1 HIN.out.2.2.1 HIN.out.2.2.2.1 HIN.out.2.2.2.2 (by decide) (.slice A1 (mendL (t.args.take k)).length c1) xs.length (xs.flatMap encTV) (by rfl) ((HCB.out W1 HB9.out).row.alloc _).own ⟨W1.heap.size, 0, none⟩ 1 1 (encTV z) (by rfl) (by rfl) (fun j u hu => by rw [show (⟨W1.heap.size, 0, none⟩ : Addr).add j = ⟨W1.heap.size, j, none⟩ by unfold Addr.add; split <;> simp_all]; exact fresh_four _ _ _ j u hu) (encTV_one _) (by omega) (by have := HX9.out; unfold maxLen; omega) (by have := HX9.out; omega) (by have := HBB.out; have := HB9.out.size; simp; omega) (W1.heap.size + 1) (by simp) ?_; intro g5 cap5 w5 hown5 hg5 hl5 _; obtain ⟨v3, vf⟩ := put_cell (HCB.out W1 HB9.out).box (Array.getElem?_eq_some_iff.1 (HCB.out W1 HB9.out).box).1 (HCB.out W1 HB9.out).row.lt HBB.out.2.2 hg5; have HO5 := Lib.hid hown5; have HG5 := Lib.hid hg5; have HL5 := Lib.hid hl5; clear hown5 hg5 hl5))
    all_goals
     have HNX : Hid (BldAt B bt 4 0 x.s (mendL (t.args.take (k + 1))) (some ⟨g5, 0, none⟩) cap5 (xs ++ [z]) (w5.setCell ⟨bt, 3, none⟩ (.slice (some ⟨g5, 0, none⟩) (xs.length + 1) cap5)) ∧ Below u.heap.size u (w5.setCell ⟨bt, 3, none⟩ (.slice (some ⟨g5, 0, none⟩) (xs.length + 1) cap5)) ∧ (w5.setCell ⟨bt, 3, none⟩ (.slice (some ⟨g5, 0, none⟩) (xs.length + 1) cap5)).heap[br]? = W.heap[br]? ∧ B ≤ (w5.setCell ⟨bt, 3, none⟩ (.slice (some ⟨g5, 0, none⟩) (xs.length + 1) cap5)).heap.size) := Lib.hid (by
      have hBB := HB.out
      have hBV := HBV.out
      have hB1 := HBB.out
      have hb9 := HB9.out
      have hwb : Below wr.heap.size wr W1 := HBV1.out.trans (hb9.mono HBV1.out.size)
      have hW1 := HCB.out W1 hb9
      have hbA : Below W1.heap.size W1 (W1.alloc (.cells #[.int .i64 z.k, .int .i64 z.n, .string ⟨z.s.toArray⟩, .slice z.A z.len z.cap] 27)) := (Below.refl _ _).alloc (Nat.le_refl _) _
      have hR5 : Row w5 B 27 4 encTV (.slice (some ⟨g5, 0, none⟩) (xs.length + 1) cap5) (xs ++ [z]) := ⟨by rw [List.flatMap_append, List.length_append]; simpa using HO5.out⟩
      have hown : ∀ q, (Value.slice A1 (mendL (t.args.take k)).length c1).ownBlock = some q → B ≤ q ∧ q < W1.heap.size := hW1.row.lt
      have hkeep : ∀ q, q < W1.heap.size → q < B → w5.heap[q]? = W1.heap[q]? := fun q h1 h2 => by
       rw [HG5.out.block q (by simp; omega) (fun e => by have := (hown q e.symm).1; omega)]
       exact Below.heap_alloc _ _ _ h1
      have hg5 : W1.heap.size ≤ w5.heap.size := by have := HG5.out.size; simp at this; omega
      refine ⟨?_, ?_, ?_, ?_⟩
      ·rw [take_getD (by rw [HLN.out.1]; exact hkl), mendL_snoc]
       have hx1 := HXL.out.2
       rw [hx1] at hR5 ⊢
       refine BldAt.push HI.out.1 (hwb.trans (hbA.mono hwb.size)) (HZ.out.keep (fun q hq => ⟨by have := hq.1; omega, hq.2.keep (Below.heap_alloc _ _ _ hq.2.lt)⟩) (fun q hq => Below.heap_alloc _ _ _ hq.2.lt)) hB1.1 hR5 HG5.out ?_
       rcases HL5.out with h | h
       ·exact .inl h
       ·exact .inr (by rw [h]; simp)
      ·have h1 : Below u.heap.size u W1 := HI.out.2.1.trans (hwb.mono HI.out.2.1.size)
       have h2 : Below u.heap.size u (W1.alloc (.cells #[.int .i64 z.k, .int .i64 z.n, .string ⟨z.s.toArray⟩, .slice z.A z.len z.cap] 27)) := h1.trans (hbA.mono h1.size)
       have h3 : Below u.heap.size u w5 := h2.grown HG5.out h2.size fun q hq => by have := (hown q hq).1; omega
       exact h3.setCell (p := ⟨bt, 3, none⟩) (by simp only; omega) _
      ·have h1 : br < wr.heap.size := (Array.getElem?_eq_some_iff.1 HRR0.out).1
       rw [Below.heap_setCell _ _ _ _ (by simp only; omega), hkeep br (by have := hwb.size; omega) (by omega), hwb.block br h1]
       exact HI.out.2.2.1
      ·rw [World.size_setCell]
       have := hwb.size
       omega)
     clear t3 t3' y0 y1 y2 y3 v3 vf hbr1 hbd1
     go_wp2_with fail
     go_roundw
     case rel => exact ⟨k + 1, _, _, _, by omega, rfl, HNX⟩
     all_goals (simp [intOf]; omega)
 have b4 : (x.k == 4) = false := beq_eq_false_iff_ne.2 e4
 have HFIN := Lib.hid (mend_leaf (u := u) (w := W) (br := br) (t := t) 3 0 [97] (by have := HB.out; omega) HBW.out (by first | exact HK.out.2.2.2.2 | decide) (by rw [HME.out]; rw [if_neg hlen, if_neg e1, if_neg e2, if_neg e3, if_neg e4]; rfl))
 have HC4 := Lib.hid (blk_set4 HR0.out rfl (.int .i64 3) (.int .i64 0) (.string ⟨([97] : List UInt8).toArray⟩) (.slice none 0 0))
 clear e1 e2 e3 e4
 go_enter Tryz.func15, Tryz.ntmps15
 go_upto_region 2 with fail
 rw [← hW, ← hba, ← hbr, ← hbx]
 clear hW hba hbr hbx
 go_wp2_with fail
 obtain ⟨z0, z1, z2, z3, -⟩ := four_at HC4.out
 refine ⟨rfl, .agg #[.int .i64 3, .int .i64 0, .string ⟨([97] : List UInt8).toArray⟩, .slice none 0 0], by simp [results, Tryz.results15, go_sem, z0, z1, z2, z3], ?_⟩
 rw [HRR.out]
 exact HFIN.out
theorem mend_all : ∀ n, MendC n
 | 0 => fun t _ _ h _ _ => by have := size_pos t; omega
 | n + 1 => mend_step (mend_all n)
def GoodPost (u : World) (l : List PartT) (e : Ending) (u' : World) : Prop :=
 ∃ x : TV, e = .returned (tvV x) ∧ TermS u' (newB u.heap.size u') x (goodT l) ∧ Below u.heap.size u u'
theorem of_size (l : List PartT) : (ofT l).1.size ≤ 1 + 7 * (ofT l).2 := (ofF_thin _ l).2
set_option maxHeartbeats 8000000 in
theorem good_any (l : List PartT) (u : World) (A : Option Addr) (c : Nat) (hlc : l.length ≤ c) (hp : PartsAt u A l) (hl : l.length ≤ 100000) :
    Calls Tryz.prog 6 #[.slice A l.length c] u fun e u' => GoodPost u l e u' := by
 obtain ⟨R, hR⟩ : ∃ R : Ending → World → Prop, R = fun e u' => GoodPost u l e u' := ⟨_, rfl⟩
 rw [← hR]
 have HRR := Lib.hid hR
 clear hR
 obtain ⟨W, hW⟩ : ∃ W, W = u.alloc (.cells #[.int .i64 0, .int .i64 0, .string ⟨#[]⟩, .slice none 0 0] 27) := ⟨_, rfl⟩
 have hbW : Below u.heap.size u W := by rw [hW]; exact (Below.refl _ _).alloc (Nat.le_refl _) _
 obtain ⟨br, hbr⟩ : ∃ b, b = u.heap.size := ⟨_, rfl⟩
 have hr0 : W.heap[br]? = some (.cells #[.int .i64 0, .int .i64 0, .string ⟨#[]⟩, .slice none 0 0] 27 (0, 0)) := by rw [hW, hbr]; exact heap_alloc_new _ _
 have hC := of_all l.length l W A c (Nat.le_refl _) hlc (hp.later hbW)
 have hsz : (ofT l).1.size ≤ 1000000 := by have := of_size l; have := ofT_le l; omega
 have HC := Lib.hid hC
 have HBW := Lib.hid hbW
 have HR0 := Lib.hid hr0
 have HSZ := Lib.hid hsz
 have HB := Lib.hid hbr
 clear hC hbW hr0 hsz hp hl hlc
 go_enter Tryz.func6, Tryz.ntmps6
 go_upto_region 1 with fail
 rw [← hW, ← hbr]
 clear hW hbr
 go_wp2_with fail
 refine HC.out.mono ?_
 rintro e W1 ⟨x, rfl, hx, hb1⟩
 rw [tvV_lit]
 obtain ⟨V, hV⟩ : ∃ V, V = W1.alloc (.cells #[.int .i64 x.k, .int .i64 x.n, .string ⟨x.s.toArray⟩, .slice x.A x.len x.cap] 27) := ⟨_, rfl⟩
 obtain ⟨bx, hbx⟩ : ∃ b, b = W1.heap.size := ⟨_, rfl⟩
 have hbV : Below W1.heap.size W1 V := by rw [hV]; exact (Below.refl _ _).alloc (Nat.le_refl _) _
 have hx0 : V.heap[bx]? = some (.cells #[.int .i64 x.k, .int .i64 x.n, .string ⟨x.s.toArray⟩, .slice x.A x.len x.cap] 27 (0, 0)) := by rw [hV, hbx]; exact heap_alloc_new _ _
 have hxV : TermAt V V.heap.size x (ofT l).1 := ((hx.at (B := W1.heap.size) fun q hq => hq.2.lt).blw hbV).up hbV.size
 have hM := mend_all (ofT l).1.size (ofT l).1 V x (Nat.le_refl _) (by have := HSZ.out; omega) hxV
 rw [tvV_lit] at hM
 have HM := Lib.hid hM
 have hrl : br < W.heap.size := (Array.getElem?_eq_some_iff.1 HR0.out).1
 have HBV : Hid (Below u.heap.size u V) := Lib.hid ((HBW.out.trans (hb1.mono HBW.out.size)).trans (hbV.mono (Nat.le_trans HBW.out.size hb1.size)))
 have HRV : Hid (V.heap[br]? = some (.cells #[.int .i64 0, .int .i64 0, .string ⟨#[]⟩, .slice none 0 0] 27 (0, 0))) := Lib.hid (by rw [hbV.block br (by have := hb1.size; omega), hb1.block br hrl]; exact HR0.out)
 have HX0 := Lib.hid hx0
 clear hM hx hb1 hbV hx0 hxV hrl
 go_upto_region 2 with fail
 rw [← hV, ← hbx]
 clear hV hbx
 obtain ⟨f0, f1, f2, f3, -⟩ := four_at HX0.out
 go_wp2_with fail
 refine HM.out.mono ?_
 rintro e W2 ⟨y, rfl, hy, hb2⟩
 have hrl : br < V.heap.size := (Array.getElem?_eq_some_iff.1 HRV.out).1
 have HR2 := Lib.hid ((hb2.block br hrl).trans HRV.out)
 have HFIN : Hid (GoodPost u l (.returned (tvV y)) ((((W2.setCell ⟨br, 0, none⟩ (.int .i64 y.k)).setCell ⟨br, 1, none⟩ (.int .i64 y.n)).setCell ⟨br, 2, none⟩ (.string ⟨y.s.toArray⟩)).setCell ⟨br, 3, none⟩ (.slice y.A y.len y.cap))) := Lib.hid (by
  have h0 := HB.out
  refine ⟨y, rfl, ?_, ?_⟩
  ·exact hy.keep (fun q hq => ⟨by have := hq.1; have := HBV.out.size; omega, hq.2.keep (blk_set4_ne _ _ _ _ (by have := hq.1; omega))⟩) (fun q hq => blk_set4_ne _ _ _ _ (by have := hq.1; omega))
  ·have h1 := HBV.out.trans (hb2.mono HBV.out.size)
   exact (((h1.setCell (p := ⟨br, 0, none⟩) (by simp only; omega) _).setCell (p := ⟨br, 1, none⟩) (by simp only; omega) _).setCell (p := ⟨br, 2, none⟩) (by simp only; omega) _).setCell (p := ⟨br, 3, none⟩) (by simp only; omega) _)
 have HC4 := Lib.hid (blk_set4 HR2.out rfl (.int .i64 y.k) (.int .i64 y.n) (.string ⟨y.s.toArray⟩) (.slice y.A y.len y.cap))
 rw [tvV_lit]
 clear f0 f1 f2 f3 hy hb2 hrl
 obtain ⟨r0, r1, r2, r3, rf⟩ := four_at HR2.out
 go_wp2_with fail
 obtain ⟨z0, z1, z2, z3, -⟩ := four_at HC4.out
 refine ⟨rfl, .agg #[.int .i64 y.k, .int .i64 y.n, .string ⟨y.s.toArray⟩, .slice y.A y.len y.cap], by simp [results, Tryz.results6, go_sem, z0, z1, z2, z3], ?_⟩
 rw [HRR.out]
 exact HFIN.out
theorem great_any (u : World) (A : Option Addr) (n c : Nat) : Calls Tryz.prog 5 #[.slice A n c] u fun e u' => e = .returned (.bool (decide (60 < n))) ∧ u' = u := by
 go_enter Tryz.func5, Tryz.ntmps5
 go_wp2_with fail
 go_ret
 exact ⟨by congr 2; simp; omega, rfl⟩
mutual
def Tm.fits : Tm → Bool | .mk _ n _ l => decide (-9223372036854775808 ≤ n ∧ n ≤ 9223372036854775807) && Tm.fitss l
def Tm.fitss : List Tm → Bool | [] => true | t :: r => t.fits && Tm.fitss r
end
def PNumOk (l : List PartT) : Prop := ∀ p ∈ l, -9223372036854775808 ≤ p.n ∧ p.n ≤ 9223372036854775807
theorem PNumOk.drop {l : List PartT} (h : PNumOk l) (k : Nat) : PNumOk (l.drop k) := fun p hp => h p (List.mem_of_mem_drop hp)
theorem ofLoop_fits {g : List PartT → Tm × Nat} (hg : ∀ l, PNumOk l → (g l).1.fits = true) : ∀ (i : Nat) (l : List PartT), PNumOk l → Tm.fitss (ofLoop g i l).1 = true
 | 0, _, _ => rfl
 | i + 1, l, h => by
  unfold ofLoop
  simp only
  rw [Tm.fitss, hg l h, ofLoop_fits hg i _ (h.drop _)]
  rfl
theorem ofF_fits : ∀ (f : Nat) (l : List PartT), PNumOk l → (ofF f l).1.fits = true
 | 0, _, _ => rfl
 | _ + 1, [], _ => rfl
 | f + 1, p :: r, h => by
  have h1 := h p (List.mem_cons_self ..)
  have h2 : PNumOk r := fun q hq => h q (List.mem_cons_of_mem _ hq)
  unfold ofF
  simp only
  rw [Tm.fits, ofLoop_fits (ofF_fits f) _ r h2, Bool.and_true]
  exact decide_eq_true h1
mutual
theorem mend_fits : ∀ t : Tm, t.fits = true → (mendT t).fits = true
 | .mk k n s l, h => by
  rw [Tm.fits, Bool.and_eq_true, decide_eq_true_eq] at h
  obtain ⟨h1, h2⟩ := h
  have hl := mends_fits l h2
  rw [mendT]
  repeat' split
  all_goals first | rfl | (unfold varT; rw [Tm.fits, Bool.and_eq_true, decide_eq_true_eq]; exact ⟨by omega, rfl⟩) | (unfold intT; rw [Tm.fits, Bool.and_eq_true, decide_eq_true_eq]; exact ⟨h1, rfl⟩) | (unfold compT; rw [Tm.fits, Bool.and_eq_true, decide_eq_true_eq]; exact ⟨by omega, hl⟩)
theorem mends_fits : ∀ l : List Tm, Tm.fitss l = true → Tm.fitss (mendL l) = true
 | [], _ => rfl
 | t :: r, h => by
  rw [Tm.fitss, Bool.and_eq_true] at h
  rw [mendL, Tm.fitss, mend_fits t h.1, mends_fits r h.2]
  rfl
end
def PartsIn (u : World) (A : Option Addr) (n c : Nat) : Prop := n ≤ 60 → ∃ l : List PartT, l.length = n ∧ n ≤ c ∧ PartsAt u A l ∧ PNumOk l
mutual
theorem fits_vars : ∀ t : Tm, t.fits = true → ∀ n ∈ vrT t, -9223372036854775808 ≤ n ∧ n ≤ 9223372036854775807
 | .mk k n s l, h, m, hm => by
  rw [Tm.fits, Bool.and_eq_true, decide_eq_true_eq] at h
  rw [vrT, List.mem_append] at hm
  rcases hm with hm | hm
  ·split at hm
   ·obtain rfl : m = n := by simpa using hm
    exact h.1
   ·cases hm
  ·exact fitss_vars l h.2 m hm
theorem fitss_vars : ∀ l : List Tm, Tm.fitss l = true → ∀ n ∈ vrL l, -9223372036854775808 ≤ n ∧ n ≤ 9223372036854775807
 | [], _, m, hm => by cases hm
 | t :: r, h, m, hm => by
  rw [Tm.fitss, Bool.and_eq_true] at h
  rw [vrL, List.mem_append] at hm
  exact hm.elim (fits_vars t h.1 m) (fitss_vars r h.2 m)
end
theorem good_run {l : List PartT} (h : PNumOk l) (hl : l.length ≤ 60) : (goodT l).may = true ∧ (goodT l).size ≤ 421 ∧ ∀ n ∈ vrT (goodT l), -9223372036854775808 ≤ n ∧ n ≤ 9223372036854775807 := by
 obtain ⟨h1, h2⟩ := good_ok l
 exact ⟨h1, by omega, fits_vars _ (mend_fits _ (ofF_fits _ l h))⟩
open Go.ChangeShapes Go.WideShapes Go.ChangeAt Go.RowKit
theorem gKinds : Tryz.prog.globalNamed "prolix/ops.kinds" = some 0 := by kernel_rfl
theorem gKindsType : (Tryz.prog.globals[0]?).map (·.type) = some 84 := by kernel_rfl
theorem gSpace : Tryz.prog.globalNamed "strings.asciiSpace" = some 1 := by kernel_rfl
theorem gSpaceType : (Tryz.prog.globals[1]?).map (·.type) = some 140 := by kernel_rfl
theorem kindCells : Tryz.prog.cellsOf 83 = 3 := by kernel_rfl
theorem byteCells : Tryz.prog.cellsOf 5 = 1 := by kernel_rfl
theorem spaceCells : Tryz.prog.cellsOf 140 = 256 := by kernel_rfl
theorem kindFields : ∃ f g k : Field, Tryz.prog.underlying 83 = some (.struct #[f, g, k]) ∧ f.type = 3 ∧ g.type = 3 ∧ k.type = 3 ∧ f.offset = 0 ∧ g.offset = 1 ∧ k.offset = 2 := ⟨_, _, _, Tryz.underlying83, rfl, rfl, rfl, rfl, rfl, rfl⟩
theorem space_of_laid {W : World} {rest : List (String × DataW Unit)} (h : laidMet Tryz.prog (("strings.asciiSpace", Rows.laid_strings_asciiSpace) :: rest) W) : Lib.TabIs Tryz.prog W "strings.asciiSpace" .u8 Lib.asciiSpaceTab :=
 Lib.tabIs_of_head (rest := rest) gSpace gSpaceType Tryz.underlying140 Tryz.underlying5 byteCells spaceCells h
theorem kinds_of_laid {W : World} {rest : List (String × DataW Unit)} (h : laidMet Tryz.prog (("prolix/ops.kinds", Rows.laid_prolix_ops_kinds) :: rest) W) : KindsAt W := by
 obtain ⟨ps, ⟨g', t', cs, fuel, p, q, hg', ht', hvar, hd, _, _⟩, _⟩ := h
 obtain rfl := Option.some.inj (gKinds.symm.trans hg')
 obtain rfl := Option.some.inj (gKindsType.symm.trans ht')
 obtain ⟨xs, m, _, hx, hlen, hn, hel⟩ := DataW.trod_array Tryz.underlying84 hd
 obtain ⟨f, g, k, hu, f1, g1, k1, f2, g2, k2⟩ := kindFields
 simp only [Prod.mk.injEq, Rows.laid_prolix_ops_kinds, DataW.agg.injEq] at hx
 intro t ht
 have hi := hel t (by omega)
 obtain ⟨x, hxt⟩ : ∃ x, xs[t]? = some x := ⟨_, List.getElem?_eq_getElem (by omega)⟩
 rw [hxt, kindCells] at hi
 obtain ⟨ys, _, _, hy, hl3, hyl, hf⟩ := DataW.trod_struct hu hi
 have hcs : ∀ i, i < 3 → W.cell? ⟨0, t * 3 + i, none⟩ = ((cs.toList.drop (t * 3)).take 3)[i]? := by
  intro i hi
  rw [World.var?_cell gKinds hvar (t * 3 + i), List.getElem?_take, if_pos hi, List.getElem?_drop]
  simp
 have hmap := congrArg (·[t]?) hx.1
 simp only [List.getElem?_map, hxt, Option.map_some, hy] at hmap
 rw [kindCells] at hl3
 generalize hz : (cs.toList.drop (t * 3)).take 3 = zs at *
 match zs, hl3 with
 | [c0, c1, c2], _ =>
  have e0 := hf 0 f rfl
  have e1 := hf 1 g rfl
  have e2 := hf 2 k rfl
  rw [f1, f2, intCells] at e0
  rw [g1, g2, intCells] at e1
  rw [k1, k2, intCells] at e2
  simp only [List.drop_zero, List.take_succ_cons, List.take_zero, List.drop_succ_cons] at e0 e1 e2
  have hyl' : ys.length = 3 := hyl
  match ys, hyl' with
  | [y0, y1, y2], _ =>
   simp only [List.getElem?_cons_zero, List.getElem?_cons_succ] at e0 e1 e2
   obtain ⟨n0, h0, h0', _⟩ := DataW.trod_int Tryz.underlying3 e0
   obtain ⟨n1, h1, h1', _⟩ := DataW.trod_int Tryz.underlying3 e1
   obtain ⟨n2, h2, h2', _⟩ := DataW.trod_int Tryz.underlying3 e2
   simp only [List.cons.injEq, and_true] at h0 h1 h2
   subst h0 h1 h2 h0' h1' h2'
   have a0 := hcs 0 (by omega)
   have a1 := hcs 1 (by omega)
   have a2 := hcs 2 (by omega)
   simp only [List.getElem?_cons_zero, List.getElem?_cons_succ, Nat.add_zero] at a0 a1 a2
   rw [a0, a1, a2]
   simp only [List.map_cons, List.map_nil] at hmap
   have : t = 0 ∨ t = 1 ∨ t = 2 ∨ t = 3 ∨ t = 4 ∨ t = 5 ∨ t = 6 ∨ t = 7 := by omega
   rcases this with rfl | rfl | rfl | rfl | rfl | rfl | rfl | rfl <;> simp at hmap <;> obtain ⟨rfl, rfl, rfl⟩ := hmap <;> exact ⟨rfl, rfl, rfl⟩
open Go.ChangeShapes Go.WideShapes Go.ChangeAt Go.RowKit Go.Deep
theorem partCells : Tryz.prog.cellsOf 71 = 4 := by kernel_rfl
theorem partFields : ∃ f g k h : Field, Tryz.prog.underlying 71 = some (.struct #[f, g, k, h]) ∧ f.type = 3 ∧ g.type = 2 ∧ k.type = 9 ∧ h.type = 5 ∧ f.offset = 0 ∧ g.offset = 1 ∧ k.offset = 2 ∧ h.offset = 3 := ⟨_, _, _, _, Tryz.underlying71, rfl, rfl, rfl, rfl, rfl, rfl, rfl, rfl⟩
theorem i64Cells : Tryz.prog.cellsOf 2 = 1 := by kernel_rfl
theorem u8Cells7 : Tryz.prog.cellsOf 5 = 1 := by kernel_rfl
theorem parts_of_trod {H : Type} {enc : TypeId × Value → H} {W : World} {base : Nat} {sp : Nat → Bool} {held : Bool} {n : Nat} {v : Value} {y : DataW H × List MemPlace} (h : DataW.trod enc Tryz.prog W base sp held n 22 [v] = some y) :
    ∃ (A : Option Addr) (k c : Nat), v = .slice A k c ∧ PartsIn W A k c := by
 rcases open_slice Tryz.underlying22 h with ⟨h0, _⟩ | ⟨a, len, cap, m, n', D, Pl, hcs, _, hlc, hcm, hm, _, hel⟩
 ·obtain rfl : v = .slice none 0 0 := by simpa using h0
  exact ⟨none, 0, 0, rfl, fun _ => ⟨[], rfl, Nat.le_refl _, ⟨fun i x h => (by simp at h), fun p hp => (by cases hp), Nat.zero_le _⟩, fun p hp => (by cases hp)⟩⟩
 ·obtain rfl : v = .slice (some a) len cap := by simpa using hcs
  have hlm : len ≤ m := by rw [hm]; split <;> omega
  rw [partCells] at hel
  obtain ⟨f, g, q, r, hu, f1, g1, q1, r1, f2, g2, q2, r2⟩ := partFields
  have key : ∀ i, i < len → ∃ x : PartT, (∃ b off, (some a : Option Addr) = some ⟨b, off, none⟩ ∧ b < W.heap.size ∧ ∀ (j : Nat) u, (encPart x)[j]? = some u → W.cell? ⟨b, off + i * 4 + j, none⟩ = some u) ∧ (x.s.length ≤ maxLen ∧ x.a < 256) ∧ (-9223372036854775808 ≤ x.n ∧ x.n ≤ 9223372036854775807) := by
   intro i hi
   obtain ⟨ha, hb⟩ := rows_at (w := W) (base := base) (a := a) (k := 4) (len := len) (by omega) (fun j hj => by obtain ⟨cs, h1, _⟩ := hel j (by omega); exact ⟨cs, h1⟩) (by omega)
   obtain ⟨cs, h1, h2⟩ := hel i (by omega)
   obtain ⟨_, hl3, hc⟩ := World.cells?_some h1
   obtain ⟨xs, _, _, _, _, hxl, hf⟩ := DataW.trod_struct hu h2
   match cs, hl3 with
   | [c0, c1, c2, c3], _ =>
    have e0 := hf 0 f rfl
    have e1 := hf 1 g rfl
    have e2 := hf 2 q rfl
    have e3 := hf 3 r rfl
    rw [f1, f2] at e0
    rw [g1, g2] at e1
    rw [q1, q2] at e2
    rw [r1, r2] at e3
    rw [show Tryz.prog.cellsOf 3 = 1 from intCells] at e0
    rw [i64Cells] at e1
    rw [show Tryz.prog.cellsOf 9 = 1 from stringCells] at e2
    rw [u8Cells7] at e3
    simp only [List.drop_zero, List.take_succ_cons, List.take_zero, List.drop_succ_cons] at e0 e1 e2 e3
    have hlen : xs.length = 4 := hxl
    obtain ⟨y0, hy0⟩ : ∃ y0, xs[0]? = some y0 := ⟨_, List.getElem?_eq_getElem (by omega)⟩
    obtain ⟨y1, hy1⟩ : ∃ y1, xs[1]? = some y1 := ⟨_, List.getElem?_eq_getElem (by omega)⟩
    obtain ⟨y2, hy2⟩ : ∃ y2, xs[2]? = some y2 := ⟨_, List.getElem?_eq_getElem (by omega)⟩
    obtain ⟨y3, hy3⟩ : ∃ y3, xs[3]? = some y3 := ⟨_, List.getElem?_eq_getElem (by omega)⟩
    rw [hy0] at e0
    rw [hy1] at e1
    rw [hy2] at e2
    rw [hy3] at e3
    obtain ⟨p, hp, _, _⟩ := DataW.trod_int Tryz.underlying3 e0
    obtain ⟨t, ht, _, wt⟩ := DataW.trod_int Tryz.underlying2 e1
    obtain ⟨s, hs, _, hsz⟩ := DataW.trod_string Tryz.underlying9 e2
    obtain ⟨o, ho, _, wo⟩ := DataW.trod_int Tryz.underlying5 e3
    simp only [List.cons.injEq, and_true] at hp ht hs ho
    subst hp ht hs ho
    have bo := bounds_u8 wo
    have bt := bounds_i64 wt
    have a0 := hc 0 (by omega)
    have a1 := hc 1 (by omega)
    have a2 := hc 2 (by omega)
    have a3 := hc 3 (by omega)
    rw [ha, add_lit', add_lit'] at a0 a1 a2 a3
    refine ⟨⟨p, t, s.data.toList, o.toNat⟩, ⟨a.block, a.off, by rw [← ha], hb, ?_⟩, ⟨?_, by show o.toNat < 256; omega⟩, bt⟩
    ·intro j u hu
     have ho : ((o.toNat : Nat) : Int) = o := by omega
     unfold encPart at hu
     rw [ho] at hu
     match j, hu with
     | 0, hu =>
      have hu : Value.int .i64 p = u := by simpa using hu
      rw [← hu]; simpa using a0
     | 1, hu =>
      have hu : Value.int .i64 t = u := by simpa using hu
      rw [← hu]; simpa using a1
     | 2, hu =>
      have hu : Value.string s = u := by simpa using hu
      rw [← hu]; simpa using a2
     | 3, hu =>
      have hu : Value.int .u8 o = u := by simpa using hu
      rw [← hu]; simpa using a3
     | j + 4, hu => simp at hu
    ·show s.data.toList.length ≤ maxLen
     rw [Array.length_toList]
     exact hsz
  obtain ⟨l, hl, hq⟩ := exists_list len key
  refine ⟨some a, len, cap, rfl, fun hn => ⟨l, hl, hlc, ⟨fun i p hp => (hq i p hp).1, fun p hp => ?_, by omega⟩, fun p hp => ?_⟩⟩
  ·obtain ⟨i, hi, rfl⟩ := List.getElem_of_mem hp
   exact (hq i _ (List.getElem?_eq_getElem hi)).2.1
  ·obtain ⟨i, hi, rfl⟩ := List.getElem_of_mem hp
   exact (hq i _ (List.getElem?_eq_getElem hi)).2.2
end Go.Proofs.YtjdnigepnfeboaaGreatDoor
