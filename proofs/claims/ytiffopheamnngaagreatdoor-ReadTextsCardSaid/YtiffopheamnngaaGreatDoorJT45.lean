import Derived.Test.YtiffopheamnngaaGreatDoorJT44
import Derived.Laws.Cover1
namespace Go.Proofs.YtiffopheamnngaaGreatDoor
open Go.RowKit Go.Maps
set_option maxRecDepth 100000
theorem bind_info2 : ∃ i z, Tryz.prog.info? 83 = some i ∧ i.zero = some z ∧ i.size = 2 ∧ i.bytes = 24 ∧ z.cells.size = 2 := by
 refine ⟨_, _, rfl, rfl, ?_, ?_, ?_⟩ <;> kernel_rfl
theorem encB_len2 (x : List UInt8 × Int) : (encB x).length = 2 := rfl
theorem cell_allocF (w : World) (o : Obj) (cs : Array Value) (t : TypeId) (i : Nat) (u : Value) (h : cs[i]? = some u) : ((w.alloc o).alloc (.cells cs t)).cell? ⟨w.heap.size + 1, i, none⟩ = some u := by
 rw [cell_of_row _ (w.heap.size + 1) i _ t (0, 0) (by have := heap_alloc_new (w.alloc o) (.cells cs t); rwa [World.size_alloc] at this)]
 exact h
structure NmAt (w : World) (B : Nat) (A : Option Addr) (n : Nat) (l : List (List UInt8 × Int)) : Prop where
 len : l.length = n
 at' : ∀ (i : Nat) e, l[i]? = some e → ∃ b, A = some ⟨b, 0, none⟩ ∧ b < B ∧ w.cell? ⟨b, i * 2, none⟩ = some (.string ⟨e.1.toArray⟩) ∧ w.cell? ⟨b, i * 2 + 1, none⟩ = some (.int .i64 e.2)
theorem NmAt.of {w : World} {B : Nat} {t : TypeId} {A : Option Addr} {n c : Nat} {l : List (List UInt8 × Int)} (h : Row w B t 2 encB (.slice A n c) l) : NmAt w w.heap.size A n l := by
 refine ⟨h.len.symm, fun i e hi => ?_⟩
 obtain ⟨g, cap, hv, h1, h2, h3, h4⟩ := h.cells encB_len2 (by rintro rfl; simp at hi)
 injection hv with hA _ _
 exact ⟨g, hA, h2, (h4 i e hi 0 _ rfl).1, (h4 i e hi 1 _ rfl).1⟩
theorem NmAt.keep {w w' : World} {B B' : Nat} {A : Option Addr} {n : Nat} {l : List (List UInt8 × Int)} (h : NmAt w B A n l) (hB : B ≤ B') (hb : ∀ k, k < B → w'.heap[k]? = w.heap[k]?) : NmAt w' B' A n l := by
 refine ⟨h.len, fun i e hi => ?_⟩
 obtain ⟨b, e1, e2, e3, e4⟩ := h.at' i e hi
 exact ⟨b, e1, by omega, (World.cell?_of_block (a := ⟨b, i * 2, none⟩) (hb b e2)).trans e3, (World.cell?_of_block (a := ⟨b, i * 2 + 1, none⟩) (hb b e2)).trans e4⟩
theorem NmAt.later {w w' : World} {A : Option Addr} {n : Nat} {l : List (List UInt8 × Int)} (h : NmAt w w.heap.size A n l) (hb : Below w.heap.size w w') : NmAt w' w'.heap.size A n l := h.keep hb.size hb.block
structure FromInv (w : World) (x : TV) (fl fx : Int) (l : List (List UInt8 × Int)) (k : Nat) (wr : World) : Prop where
 below : Below w.heap.size w wr
 out : ∃ A c, Row wr (w.heap.size + 1 + 1 + 1) 83 2 encB (.slice A k c) (l.take k) ∧ wr.heap[w.heap.size + 1 + 1]? = some (.cells #[.int .i64 x.k, .int .i64 x.n, .string ⟨x.s.toArray⟩, .slice x.A x.len x.cap, .slice A k c, .int .i64 fl, .int .i64 fx] 42 (0, 0))
 res : wr.heap[w.heap.size + 1]? = some (.cells #[.int .i64 0, .int .i64 0, .string ⟨#[]⟩, .slice none 0 0, .slice none 0 0, .int .i64 0, .int .i64 0] 42 (0, 0))
 size : w.heap.size + 1 + 1 + 1 ≤ wr.heap.size
theorem blk_set_at {w : World} {b i : Nat} {cs : Array Value} {t : TypeId} {fr : Nat × Nat} (h : w.heap[b]? = some (.cells cs t fr)) (v : Value) : (w.setCell ⟨b, i, none⟩ v).heap[b]? = some (.cells (cs.setIfInBounds i v) t fr) := by
 simp [World.setCell, Array.getElem?_modify, h]
theorem FromInv.step {w wr w5 : World} {x : TV} {fl fx : Int} {l : List (List UInt8 × Int)} {k : Nat} (h : FromInv w x fl fx l k wr) {A A5 : Option Addr} {c c5 : Nat} {o1 o2 : Obj} {e : List UInt8 × Int}
    (hrow : Row wr (w.heap.size + 1 + 1 + 1) 83 2 encB (.slice A k c) (l.take k)) (hblk : wr.heap[w.heap.size + 1 + 1]? = some (.cells #[.int .i64 x.k, .int .i64 x.n, .string ⟨x.s.toArray⟩, .slice x.A x.len x.cap, .slice A k c, .int .i64 fl, .int .i64 fx] 42 (0, 0)))
    (hsn : l.take (k + 1) = l.take k ++ [e])
    (hrow5 : Row w5 (w.heap.size + 1 + 1 + 1) 83 2 encB (.slice A5 (k + 1) c5) (l.take k ++ [e])) (hg : ((wr.alloc o1).alloc o2).grownBy w5 (Value.slice A k c).ownBlock) :
    FromInv w x fl fx l (k + 1) (w5.setCell ⟨w.heap.size + 1 + 1, 4, none⟩ (.slice A5 (k + 1) c5)) ∧ w5.heap[w.heap.size + 1 + 1]? = some (.cells #[.int .i64 x.k, .int .i64 x.n, .string ⟨x.s.toArray⟩, .slice x.A x.len x.cap, .slice A k c, .int .i64 fl, .int .i64 fx] 42 (0, 0)) := by
 have hs := h.size
 have hF : Fr (fun k => w.heap.size + 1 + 1 + 1 ≤ k) wr w5 := ((((Fr.of_below (fun k => w.heap.size + 1 + 1 + 1 ≤ k) (Below.refl _ _)).alloc _).alloc _).grown hg fun g e => .inl (hrow.lt g e).1)
 have h2 : w5.heap[w.heap.size + 1 + 1]? = _ := (hF.block (w.heap.size + 1 + 1) (by omega) (by omega)).trans hblk
 have h1 : w5.heap[w.heap.size + 1]? = _ := (hF.block (w.heap.size + 1) (by omega) (by omega)).trans h.res
 have hb : Below w.heap.size w w5 := h.below.trans (hF.below (by omega) fun k hk => by omega)
 have hsz : wr.heap.size ≤ w5.heap.size := hF.size
 refine ⟨⟨hb.setCell (p := ⟨w.heap.size + 1 + 1, 4, none⟩) (by simp only; omega) _, ⟨A5, c5, ?_, ?_⟩, ?_, ?_⟩, h2⟩
 ·rw [hsn]
  exact hrow5.away _ fun k hk => by have := (hrow5.lt k hk).1; simp only; omega
 ·exact blk_set_at h2 _
 ·rw [Go.Deep.blk_setCell_other _ _ _ _ (by simp)]
  exact h1
 ·rw [World.size_setCell]
  omega
theorem FromInv.start (w : World) (x : TV) (sv : Value) (fl fx : Int) (l : List (List UInt8 × Int)) : FromInv w x fl fx l 0 (((w.alloc (.cells #[.int .i64 x.k, .int .i64 x.n, .string ⟨x.s.toArray⟩, .slice x.A x.len x.cap, sv, .int .i64 fl, .int .i64 fx] 37)).alloc
    (.cells #[.int .i64 0, .int .i64 0, .string ⟨#[]⟩, .slice none 0 0, .slice none 0 0, .int .i64 0, .int .i64 0] 42)).alloc (.cells #[.int .i64 x.k, .int .i64 x.n, .string ⟨x.s.toArray⟩, .slice x.A x.len x.cap, .slice none 0 0, .int .i64 fl, .int .i64 fx] 42)) := by
 refine ⟨(((Below.refl _ _).alloc (Nat.le_refl _) _).alloc (by simp) _).alloc (by simp; omega) _, ⟨none, 0, Row.nil _ _ _ _ _, ?_⟩, ?_, by simp⟩
 ·have := heap_alloc_new ((w.alloc (.cells #[.int .i64 x.k, .int .i64 x.n, .string ⟨x.s.toArray⟩, .slice x.A x.len x.cap, sv, .int .i64 fl, .int .i64 fx] 37)).alloc (.cells #[.int .i64 0, .int .i64 0, .string ⟨#[]⟩, .slice none 0 0, .slice none 0 0, .int .i64 0, .int .i64 0] 42)) (.cells #[.int .i64 x.k, .int .i64 x.n, .string ⟨x.s.toArray⟩, .slice x.A x.len x.cap, .slice none 0 0, .int .i64 fl, .int .i64 fx] 42)
  rw [World.size_alloc, World.size_alloc] at this
  exact this
 ·rw [Below.heap_alloc _ _ _ (by simp)]
  have := heap_alloc_new (w.alloc (.cells #[.int .i64 x.k, .int .i64 x.n, .string ⟨x.s.toArray⟩, .slice x.A x.len x.cap, sv, .int .i64 fl, .int .i64 fx] 37)) (.cells #[.int .i64 0, .int .i64 0, .string ⟨#[]⟩, .slice none 0 0, .slice none 0 0, .int .i64 0, .int .i64 0] 42)
  rw [World.size_alloc] at this
  exact this
set_option maxHeartbeats 8000000 in
theorem from06_any (w : World) (x : TV) (A : Option Addr) (n c : Nat) (fl fx : Int) (l : List (List UInt8 × Int)) (hl : NmAt w w.heap.size A n l) (hn : n ≤ 100000) :
    Calls Tryz.prog 11 #[clV x (.slice A n c) fl fx] w fun e w' => ∃ A' c', e = .returned (clV x (.slice A' n c') fl fx) ∧ NmAt w' w'.heap.size A' n l ∧ Below w.heap.size w w' := by
 have HL := Lib.hid hl
 have HLN := Lib.hid hl.len
 clear hl
 obtain ⟨i0, z0, hi0, hz0, hz1, hz2, hz3⟩ := bind_info2
 unfold clV
 go_enter Tryz.func11, Tryz.ntmps11
 go_wp2_with fail
 go_loopw [16] (fun i wr => ∃ k : Nat, k ≤ n ∧ i = .int .i64 k ∧ Hid (FromInv w x fl fx l k wr)) (fun i _ => n - (intOf i).toNat)
 case atStart =>
  exact ⟨0, Nat.zero_le _, rfl, Lib.hid (FromInv.start w x _ fl fx l)⟩
 case round =>
  obtain ⟨k, hk, rfl, HI⟩ := hrel
  have hwr := HI.out.size
  have hlt2 : w.heap.size + 1 + 1 < wr.heap.size := Nat.lt_of_succ_le hwr
  by_cases hlt : k < n
  ·have hkl : k < l.length := by rw [HLN.out]; exact hlt
   have hx := List.getElem?_eq_getElem hkl
   have htk : (l.take k).length = k := by rw [List.length_take]; omega
   have hsn := List.take_succ_eq_append_getElem hkl
   generalize l[k] = e at hx hsn
   obtain ⟨b, hA, hb, c0, c1⟩ := HL.out.at' k e hx
   rw [← HI.out.below.cell (p := ⟨b, k * 2, none⟩) hb] at c0
   rw [← HI.out.below.cell (p := ⟨b, k * 2 + 1, none⟩) hb] at c1
   have hlt' : (k : Int) < (n : Int) := by omega
   obtain ⟨Ar, cr, hrow, hblk⟩ := HI.out.out
   obtain ⟨y0, y1, y2, y3, y4, y5, y6, yf⟩ := seven_at hblk
   have HROW := Lib.hid hrow
   have HBLK := Lib.hid hblk
   have HSN := Lib.hid hsn
   have HTK := Lib.hid htk
   clear hx hsn hrow hblk htk
   subst hA
   have HSZ := Lib.hid hwr
   go_wp2_with (at_builtin; refine wpList_row rfl _ _ 40 rfl _ (w.heap.size + 1 + 1 + 1) 83 i0 z0 2 24 encB Tryz.underlying40 hi0 hz0 hz1 hz2 hz3 (by decide) encB_len2 encB_one _ (l.take k) e rfl ((HROW.out.alloc _).alloc _) _ _ rfl (fun j u hu => cell_allocF _ _ _ _ j u (by rw [← Array.getElem?_toList]; exact hu)) (by rw [HTK.out]; unfold maxLen; omega) (by rw [HTK.out]; omega) (Nat.le_trans HSZ.out (by simp; omega)) ?_)
   intro v' w5 hrow5 hg5
   obtain ⟨A5, c5, rfl⟩ := hrow5.shape
   rw [show (l.take k ++ [e]).length = k + 1 by rw [List.length_append, HTK.out]; rfl] at hrow5 ⊢
   obtain ⟨hI5, hblk5⟩ := HI.out.step HROW.out HBLK.out HSN.out hrow5 hg5
   have HI5 := Lib.hid hI5
   clear hI5 hrow5 hg5 y0 y1 y2 y3 y4 y5 y6 yf
   obtain ⟨y0, y1, y2, y3, y4, y5, y6, yf⟩ := seven_at hblk5
   clear hblk5
   go_wp2_with fail
   go_roundw
   case rel => exact ⟨k + 1, hlt, by go_num, HI5⟩
   case measure => simp [intOf]; omega
  ·have hkn : k = n := by omega
   subst hkn
   obtain ⟨Ar, cr, hrow, hblk⟩ := HI.out.out
   have e1 : l.take k = l := List.take_of_length_le (by rw [HLN.out]; exact Nat.le_refl _)
   rw [e1] at hrow
   clear e1
   obtain ⟨y0, y1, y2, y3, y4, y5, y6, yf⟩ := seven_at hblk
   obtain ⟨z0, z1, z2, z3, z4, z5, z6, zf⟩ := seven_at HI.out.res
   have HROW := Lib.hid hrow
   clear hrow hblk yf
   go_wp2_with fail
   have hC7 := blk_set7 HI.out.res (.int .i64 x.k) (.int .i64 x.n) (.string ⟨x.s.toArray⟩) (.slice x.A x.len x.cap) (.slice Ar k cr) (.int .i64 fl) (.int .i64 fx)
   have hb7 := cl_below HI.out.below (w.heap.size + 1) (by omega) (.int .i64 x.k) (.int .i64 x.n) (.string ⟨x.s.toArray⟩) (.slice x.A x.len x.cap) (.slice Ar k cr) (.int .i64 fl) (.int .i64 fx)
   have hr7 : Row _ _ _ _ _ _ _ := HROW.out.keep fun g hg => blk_set7_ne (w := wr) (b := w.heap.size + 1) (.int .i64 x.k) (.int .i64 x.n) (.string ⟨x.s.toArray⟩) (.slice x.A x.len x.cap) (.slice Ar k cr) (.int .i64 fl) (.int .i64 fx) (by have := (HROW.out.lt g hg).1; omega)
   clear z0 z1 z2 z3 z4 z5 z6 zf
   obtain ⟨z0, z1, z2, z3, z4, z5, z6, zf⟩ := seven_at hC7
   exact ⟨rfl, _, by simp [results, Tryz.results11, go_sem, z0, z1, z2, z3, z4, z5, z6], Ar, cr, rfl, NmAt.of hr7, hb7⟩
set_option maxHeartbeats 8000000 in
theorem same06_any (w : World) (x y : TV) (t : Tm) (A1 A2 : Option Addr) (n c1 c2 : Nat) (fl fx : Int) (l : List (List UInt8 × Int)) (hx : TermAt w w.heap.size x t) (hy : TermAt w w.heap.size y t) (hs : t.size ≤ 10000000)
    (h1 : NmAt w w.heap.size A1 n l) (h2 : NmAt w w.heap.size A2 n l) (hn : n ≤ 100000) :
    Calls Tryz.prog 10 #[clV x (.slice A1 n c1) fl fx, clV y (.slice A2 n c2) fl fx] w fun e w' => e = .returned (.bool true) ∧ Below w.heap.size w w' := by
 have HX := Lib.hid hx
 have HY := Lib.hid hy
 have HL1 := Lib.hid h1
 have HL2 := Lib.hid h2
 have HLN := Lib.hid h1.len
 have HS := Lib.hid hs
 clear hx hy h1 h2 hs
 have e1 : (fl != fl) = false := by simp
 have e2 : (fx != fx) = false := by simp
 have e3 : ((n : Int) != (n : Int)) = false := by simp
 unfold clV
 go_enter Tryz.func10, Tryz.ntmps10
 go_wp2_with fail
 have hb2 := ((Below.refl w.heap.size w).alloc (Nat.le_refl _) (.cells #[.int .i64 x.k, .int .i64 x.n, .string ⟨x.s.toArray⟩, .slice x.A x.len x.cap, .slice A1 n c1, .int .i64 fl, .int .i64 fx] 42)).alloc (by simp) (.cells #[.int .i64 y.k, .int .i64 y.n, .string ⟨y.s.toArray⟩, .slice y.A y.len y.cap, .slice A2 n c2, .int .i64 fl, .int .i64 fx] 42)
 have hk1 := (Below.heap_alloc (w.alloc (.cells #[.int .i64 x.k, .int .i64 x.n, .string ⟨x.s.toArray⟩, .slice x.A x.len x.cap, .slice A1 n c1, .int .i64 fl, .int .i64 fx] 42)) (.cells #[.int .i64 y.k, .int .i64 y.n, .string ⟨y.s.toArray⟩, .slice y.A y.len y.cap, .slice A2 n c2, .int .i64 fl, .int .i64 fx] 42) w.heap.size (by simp)).trans (heap_alloc_new w _)
 have hk2 := heap_alloc_new (w.alloc (.cells #[.int .i64 x.k, .int .i64 x.n, .string ⟨x.s.toArray⟩, .slice x.A x.len x.cap, .slice A1 n c1, .int .i64 fl, .int .i64 fx] 42)) (.cells #[.int .i64 y.k, .int .i64 y.n, .string ⟨y.s.toArray⟩, .slice y.A y.len y.cap, .slice A2 n c2, .int .i64 fl, .int .i64 fx] 42)
 rw [World.size_alloc] at hk2
 have hsz2 : ((w.alloc (.cells #[.int .i64 x.k, .int .i64 x.n, .string ⟨x.s.toArray⟩, .slice x.A x.len x.cap, .slice A1 n c1, .int .i64 fl, .int .i64 fx] 42)).alloc (.cells #[.int .i64 y.k, .int .i64 y.n, .string ⟨y.s.toArray⟩, .slice y.A y.len y.cap, .slice A2 n c2, .int .i64 fl, .int .i64 fx] 42)).heap.size = w.heap.size + 1 + 1 := by simp
 generalize ((w.alloc (.cells #[.int .i64 x.k, .int .i64 x.n, .string ⟨x.s.toArray⟩, .slice x.A x.len x.cap, .slice A1 n c1, .int .i64 fl, .int .i64 fx] 42)).alloc (.cells #[.int .i64 y.k, .int .i64 y.n, .string ⟨y.s.toArray⟩, .slice y.A y.len y.cap, .slice A2 n c2, .int .i64 fl, .int .i64 fx] 42)) = W at hb2 hk1 hk2 hsz2 ⊢
 refine (same_any t.size t t x y W (Nat.le_refl _) HS.out HS.out (HX.out.later hb2) (HY.out.later hb2)).mono ?_
 rintro e w1 ⟨rfl, hb1⟩
 rw [sameTm_self]
 have hq1 := (hb1.block w.heap.size (by omega)).trans hk1
 have hq2 := (hb1.block (w.heap.size + 1) (by omega)).trans hk2
 have HB := Lib.hid (hb2.trans (hb1.mono hb2.size))
 obtain ⟨y0, y1, y2, y3, y4, y5, y6, -⟩ := seven_at hq1
 obtain ⟨z0, z1, z2, z3, z4, z5, z6, -⟩ := seven_at hq2
 clear hb2 hk1 hk2 hsz2 hb1 hq1 hq2
 go_wp2_with fail
 go_loopw [38] (fun i wr => ∃ k nq : Nat, k ≤ n ∧ i = .int .i64 k ∧ wr = w1.drewN nq) (fun i _ => n - (intOf i).toNat)
 case atStart => exact ⟨0, 0, Nat.zero_le _, rfl, rfl⟩
 case round =>
  obtain ⟨k, nq, hk, rfl, rfl⟩ := hrel
  by_cases hlt : k < n
  ·have hkl : k < l.length := by rw [HLN.out]; exact hlt
   have hx := List.getElem?_eq_getElem hkl
   generalize l[k] = e at hx
   obtain ⟨b, hA1, hb, c0, c1⟩ := HL1.out.at' k e hx
   obtain ⟨b', hA2, hb', d0, d1⟩ := HL2.out.at' k e hx
   rw [← HB.out.cell (p := ⟨b, k * 2, none⟩) hb] at c0
   rw [← HB.out.cell (p := ⟨b, k * 2 + 1, none⟩) hb] at c1
   rw [← HB.out.cell (p := ⟨b', k * 2, none⟩) hb'] at d0
   rw [← HB.out.cell (p := ⟨b', k * 2 + 1, none⟩) hb'] at d1
   have hlt' : (k : Int) < (n : Int) := by omega
   clear hx e1 e2 e3
   subst hA1 hA2
   go_wp2_with fail
   go_quiet (fail)
   go_wp2
   go_roundw
   case rel => exact ⟨k + 1, _, hlt, by go_num, rfl⟩
   case measure => simp [intOf]; omega
  ·have hkn : k = n := by omega
   subst hkn
   clear e1 e2 e3
   go_wp2
   go_ret
   exact ⟨rfl, below_drewN' HB.out nq⟩
theorem cell_one (w : World) (cs : Array Value) (t : TypeId) (i : Nat) (u : Value) (h : cs[i]? = some u) : (w.alloc (.cells cs t)).cell? ⟨w.heap.size, i, none⟩ = some u := by
 rw [cell_of_row _ _ i cs t (0, 0) (heap_alloc_new w _)]
 exact h
theorem RTab.stored {w : World} {B rt : Nat} {L L' : List DefT} {v : Value} (h : RTab w rt L) (hr : Row w B 56 3 encDef v L') (hB : rt < B) : RTab (w.setCell ⟨rt, 0, none⟩ v) rt L' := by
 obtain ⟨v0, hc, hf, _⟩ := h.ex
 exact ⟨v, World.cell?_setCell_same _ _ _ hc, by rw [World.frozen?_setCell]; exact hf, (hr.down hB).away _ fun k hk => by have := (hr.lt k hk).1; simp only; omega⟩
set_option maxHeartbeats 400000 in
theorem rOp_arg (w : World) (rt : Nat) (p t : Int) (n : List UInt8) (hn : n.length ≤ 9223372036854775807) (h : p < 0 ∨ 1200 < p ∨ t < 1 ∨ 7 < t ∨ 1000 < n.length) :
    Calls Tryz.prog 17 #[.pointer (some ⟨rt, 0, none⟩), .int .i64 p, .int .i64 t, .string ⟨n.toArray⟩] w fun e w' => e = .returned (.int .i64 2) ∧ w = w' := by
 have H := Lib.hid h
 clear h
 by_cases h1 : p < 0
 ·go_enter Tryz.func17, Tryz.ntmps17
  go_wp2
  go_ret
  exact ⟨rfl, rfl⟩
 by_cases h2 : 1200 < p
 ·have h1' : 0 ≤ p := by omega
  clear h1
  go_enter Tryz.func17, Tryz.ntmps17
  go_wp2
  go_ret
  exact ⟨rfl, rfl⟩
 have h1' : 0 ≤ p := by omega
 have h2' : p ≤ 1200 := by omega
 clear h1 h2
 by_cases h3 : t < 1
 ·go_enter Tryz.func17, Tryz.ntmps17
  go_wp2
  go_ret
  exact ⟨rfl, rfl⟩
 by_cases h4 : 7 < t
 ·have h3' : 1 ≤ t := by omega
  clear h3
  go_enter Tryz.func17, Tryz.ntmps17
  go_wp2
  go_ret
  exact ⟨rfl, rfl⟩
 have h3' : 1 ≤ t := by omega
 have h4' : t ≤ 7 := by omega
 clear h3 h4
 have h5 : 1000 < n.length := by have := H.out; omega
 clear H
 go_enter Tryz.func17, Tryz.ntmps17
 go_wp2
 go_ret
 exact ⟨rfl, rfl⟩
set_option maxHeartbeats 400000 in
theorem rOp_perm (w : World) (rt : Nat) (p t : Int) (n : List UInt8) (hn : n.length ≤ 1000) (h1 : 0 ≤ p) (h2 : p ≤ 1200) (h3 : 1 ≤ t) (h4 : t ≤ 7) (h : n = [44] ∨ n = [124] ∨ n = [91, 93] ∨ n = [123, 125]) :
    Calls Tryz.prog 17 #[.pointer (some ⟨rt, 0, none⟩), .int .i64 p, .int .i64 t, .string ⟨n.toArray⟩] w fun e w' => e = .returned (.int .i64 15) ∧ w = w' := by
 rcases h with rfl | rfl | rfl | rfl
 all_goals
  go_enter Tryz.func17, Tryz.ntmps17
  go_wp2
  go_ret
  exact ⟨rfl, rfl⟩
def confB (L : List DefT) (p s : Int) (n : List UInt8) : Bool := decide (0 < p ∧ ((s = 2 ∧ 0 < (rfind L n 3).1) ∨ (s = 3 ∧ 0 < (rfind L n 2).1)))
def fullB (L : List DefT) (p s : Int) (n : List UInt8) : Bool := decide (0 < p ∧ 256 ≤ L.length ∧ (rfind L n s).1 = 0)
def routS (L : List DefT) (s : Int) (n : List UInt8) : List DefT := L.filter fun d => !rHit n s d
theorem routS_snoc (L : List DefT) (s : Int) (n : List UInt8) (k : Nat) (h : k < L.length) : routS (L.take (k + 1)) s n = if rHit n s L[k] = true then routS (L.take k) s n else routS (L.take k) s n ++ [L[k]] := by
 unfold routS
 rw [List.take_succ_eq_append_getElem h, List.filter_append]
 generalize L[k] = x
 cases hx : rHit n s x <;> simp [hx]
set_option maxHeartbeats 8000000 in
theorem rOp_main (w : World) (rt : Nat) (L : List DefT) (h : RTab w rt L) (hpo : PriOk L) (hL : L.length ≤ 1000) (p t s : Int) (n : List UInt8) (hn : n.length ≤ 1000) (hp0 : 0 ≤ p) (hp1 : p ≤ 1200) (ht0 : 1 ≤ t) (ht1 : t ≤ 7)
    (h1 : n ≠ [44]) (h2 : n ≠ [124]) (h3 : n ≠ [91, 93]) (h4 : n ≠ [123, 125]) (hs : refSort t = s) (hs3 : s = 1 ∨ s = 2 ∨ s = 3) (E : Int) (O : List DefT)
    (hE : E = if confB L p s n = true then 15 else if fullB L p s n = true then 9 else 0) (hO : O = if confB L p s n = true ∨ fullB L p s n = true then L else if 0 < p then routS L s n ++ [(p, t, n)] else routS L s n) :
    Calls Tryz.prog 17 #[.pointer (some ⟨rt, 0, none⟩), .int .i64 p, .int .i64 t, .string ⟨n.toArray⟩] w fun e w' =>
     e = .returned (.int .i64 E) ∧ RTab w' rt O ∧ Fr (· = rt) w w' := by
 have e1 := beq_str n _ h1
 have e2 := beq_str n _ h2
 have e3 := beq_str n _ h3
 have e4 := beq_str n _ h4
 have H := Lib.hid h
 have HP := Lib.hid hpo
 have HS := Lib.hid hs
 have HS3 := Lib.hid hs3
 have hrt := h.lt
 have hfd := def_pri
 have hL1 : L.length ≤ 100000 := by omega
 have HE := Lib.hid hE
 have HO := Lib.hid hO
 clear h hpo hs hs3 h1 h2 h3 h4 hE hO
 go_enter Tryz.func17, Tryz.ntmps17
 go_upto_region 6 with (first | (go_at_call 41; refine (refSort_any _ _).mono ?_; rintro e w' ⟨rfl, rfl⟩; rw [HS.out]))
 clear e1 e2 e3 e4
 go_cut [71] from 10 (fun v wx => v = .bool (confB L p s n) ∧ Below w.heap.size w wx)
 case first =>
  obtain ⟨q1, q2⟩ := HP.out n 2
  obtain ⟨q3, q4⟩ := HP.out n 3
  by_cases hp : p = 0
  ·have hB : Hid (confB L p s n = false) := Lib.hid (by unfold confB; exact decide_eq_false (by omega))
   have hp' : ¬ 0 < p := by omega
   clear hp
   go_wp2_with fail
   go_meet
   exact ⟨by rw [hB.out], Below.refl _ _⟩
  ·have hp' : 0 < p := by omega
   clear hp
   rcases HS3.out with rfl | rfl | rfl
   ·have hB : Hid (confB L p 1 n = false) := Lib.hid (by unfold confB; exact decide_eq_false (by omega))
    go_wp2_with fail
    go_meet
    exact ⟨by rw [hB.out], Below.refl _ _⟩
   ·have HF := Lib.hid (find_any w rt L H.out n 3 hL1)
    by_cases hc : 0 < (rfind L n 3).1
    ·have hB : Hid (confB L p 2 n = true) := Lib.hid (by unfold confB; exact decide_eq_true ⟨hp', .inl ⟨rfl, hc⟩⟩)
     go_wp2_with fail
     refine HF.out.mono ?_
     rintro e w1 ⟨rfl, hb1⟩
     rw [enc_lit]
     go_wp2_with fail
     go_meet
     exact ⟨by rw [hB.out], hb1⟩
    ·have hB : Hid (confB L p 2 n = false) := Lib.hid (by unfold confB; exact decide_eq_false (by omega))
     go_wp2_with fail
     refine HF.out.mono ?_
     rintro e w1 ⟨rfl, hb1⟩
     rw [enc_lit]
     go_wp2_with fail
     go_meet
     exact ⟨by rw [hB.out, decide_eq_false (by omega)], hb1⟩
   ·have HF := Lib.hid (find_any w rt L H.out n 2 hL1)
    by_cases hc : 0 < (rfind L n 2).1
    ·have hB : Hid (confB L p 3 n = true) := Lib.hid (by unfold confB; exact decide_eq_true ⟨hp', .inr ⟨rfl, hc⟩⟩)
     go_wp2_with fail
     refine HF.out.mono ?_
     rintro e w1 ⟨rfl, hb1⟩
     rw [enc_lit]
     go_wp2_with fail
     go_meet
     exact ⟨by rw [hB.out], hb1⟩
    ·have hB : Hid (confB L p 3 n = false) := Lib.hid (by unfold confB; exact decide_eq_false (by omega))
     go_wp2_with fail
     refine HF.out.mono ?_
     rintro e w1 ⟨rfl, hb1⟩
     rw [enc_lit]
     go_wp2_with fail
     go_meet
     exact ⟨by rw [hB.out, decide_eq_false (by omega)], hb1⟩
 case rest =>
  obtain ⟨rfl, hb⟩ := hcut
  have HB1 := Lib.hid hb
  have H1 := Lib.hid (H.out.later hb)
  have hw1 := hb.size
  clear hb
  cases hC : confB L p s n
  case true =>
   have HC := Lib.hid hC
   clear hC
   go_wp2_with fail
   go_ret
   exact ⟨by rw [HE.out, HC.out]; rfl, by rw [HO.out, HC.out, if_pos (.inl rfl)]; exact H1.out, Fr.of_below _ HB1.out⟩
  case false =>
   have HC := Lib.hid hC
   clear hC
   obtain ⟨A, cap, hc, hf, hA⟩ := H1.out.open
   have HA := Lib.hid hA
   clear hA
   go_upto_region 8 with fail
   go_cut [89] from 10 (fun v wx => v = .bool (fullB L p s n) ∧ Below w.heap.size w wx)
   case first =>
    obtain ⟨q1, q2⟩ := HP.out n s
    by_cases hp : p = 0
    ·have hB : Hid (fullB L p s n = false) := Lib.hid (by unfold fullB; exact decide_eq_false (by omega))
     have hp' : ¬ 0 < p := by omega
     clear hp
     go_wp2_with fail
     go_meet
     exact ⟨by rw [hB.out], HB1.out⟩
    ·have hp' : 0 < p := by omega
     clear hp
     by_cases hq : 256 ≤ L.length
     ·have HF := Lib.hid (find_any wc rt L H1.out n s hL1)
      have hq' : 256 ≤ (L.length : Int) := by omega
      by_cases hcz : (rfind L n s).1 = 0
      ·have hB : Hid (fullB L p s n = true) := Lib.hid (by unfold fullB; exact decide_eq_true ⟨hp', hq, hcz⟩)
       go_wp2_with fail
       refine HF.out.mono ?_
       rintro e w1 ⟨rfl, hb1⟩
       rw [enc_lit]
       go_wp2_with fail
       go_meet
       exact ⟨by rw [hB.out], HB1.out.trans (hb1.mono HB1.out.size)⟩
      ·have hB : Hid (fullB L p s n = false) := Lib.hid (by unfold fullB; exact decide_eq_false (fun h => hcz h.2.2))
       go_wp2_with fail
       refine HF.out.mono ?_
       rintro e w1 ⟨rfl, hb1⟩
       rw [enc_lit]
       go_wp2_with fail
       go_meet
       exact ⟨by rw [hB.out, beq_eq_false_iff_ne.2 hcz], HB1.out.trans (hb1.mono HB1.out.size)⟩
     ·have hB : Hid (fullB L p s n = false) := Lib.hid (by unfold fullB; exact decide_eq_false (by omega))
      have hq' : ¬ 256 ≤ (L.length : Int) := by omega
      go_wp2_with fail
      go_meet
      exact ⟨by rw [hB.out], HB1.out⟩
   case rest =>
    obtain ⟨rfl, hb⟩ := hcut
    obtain ⟨w2, rfl⟩ : ∃ w2 : World, w2 = wc := ⟨_, rfl⟩
    have HB2 := Lib.hid hb
    have H2 := Lib.hid (H.out.later hb)
    have hw2 := hb.size
    clear hb hc hf HA HB1 H1 hw1
    cases hF : fullB L p s n
    case true =>
     have HFL := Lib.hid hF
     clear hF
     go_wp2_with fail
     go_ret
     exact ⟨by rw [HE.out, HC.out, HFL.out]; rfl, by rw [HO.out, HFL.out, if_pos (.inr rfl)]; exact H2.out, Fr.of_below _ HB2.out⟩
    case false =>
     have HFL := Lib.hid hF
     clear hF
     obtain ⟨A2, cap2, hc, hf, hA⟩ := H2.out.open
     have HA := Lib.hid hA
     clear hA
     obtain ⟨i, z, hi, hz, hsi, hby, hzs⟩ := refDef_info
     go_wp2_with fail
     go_loopw [10, 95] (fun v i wr => ∃ k : Nat, k ≤ L.length ∧ i = .int .i64 k ∧ Row wr w2.heap.size 56 3 encDef v (routS (L.take k) s n) ∧ Below w2.heap.size w2 wr) (fun _ i _ => L.length - (intOf i).toNat)
     case atStart => exact ⟨0, Nat.zero_le _, rfl, by simpa [routS] using Row.nil _ _ _ _ _, Below.refl _ _⟩
     case round =>
      obtain ⟨k, hk, rfl, hR, hb⟩ := hrel
      have hrl : (routS (L.take k) s n).length ≤ 1000 := by unfold routS; exact Nat.le_trans (List.length_filter_le _ _) (by rw [List.length_take]; omega)
      by_cases hlt : k < L.length
      ·have hne : L ≠ [] := by rintro rfl; simp at hlt
       obtain ⟨g, hA', hg, -, hcs⟩ := HA.out hne
       have hx := List.getElem?_eq_getElem hlt
       have htk : routS (L.take (k + 1)) s n = if rHit n s L[k] = true then routS (L.take k) s n else routS (L.take k) s n ++ [L[k]] := routS_snoc L s n k hlt
       generalize L[k] = x at hx htk
       have d0 := hcs k x hx 0 _ rfl
       have d1 := hcs k x hx 1 _ rfl
       have d2 := hcs k x hx 2 _ rfl
       rw [← hb.cell (p := ⟨g, k * 3 + 0, none⟩) hg] at d0
       rw [← hb.cell (p := ⟨g, k * 3 + 1, none⟩) hg] at d1
       rw [← hb.cell (p := ⟨g, k * 3 + 2, none⟩) hg] at d2
       simp only [Nat.add_zero] at d0
       have hlt' : (k : Int) < (L.length : Int) := by omega
       have HR := Lib.hid hR
       have HBB := Lib.hid hb
       have hwr : w2.heap.size ≤ wr.heap.size := hb.size
       have HBX := Lib.hid (hb.alloc hb.size (.cells #[.int .i64 x.1, .int .i64 x.2.1, .string ⟨x.2.2.toArray⟩] 56))
       have HRX := Lib.hid (hR.alloc (.cells #[.int .i64 x.1, .int .i64 x.2.1, .string ⟨x.2.2.toArray⟩] 56))
       clear hcs hb hx hR
       subst hA'
       by_cases hhit : rHit n s x = true
       ·rw [if_pos hhit] at htk
        have HT := Lib.hid htk
        obtain ⟨g3, g2⟩ : x.2.2 = n ∧ refSort x.2.1 = s := by simpa [rHit] using hhit
        clear hhit htk
        obtain ⟨x1, x2, x3⟩ := x
        simp only at d0 d1 d2 g3 g2 HBX HRX
        subst g3
        have HG2 := Lib.hid g2
        clear g2
        go_wp2_with (first | (go_at_call 41; refine (refSort_any _ _).mono ?_; rintro e w' ⟨rfl, rfl⟩; rw [HG2.out]))
        go_roundw
        case rel => exact ⟨k + 1, hlt, by go_num, by rw [HT.out]; exact HRX.out, HBX.out⟩
        case measure => simp [intOf]; omega
       ·rw [if_neg hhit] at htk
        have HT := Lib.hid htk
        have hsplit : x.2.2 ≠ n ∨ (x.2.2 = n ∧ refSort x.2.1 ≠ s) := by
         by_cases h3 : x.2.2 = n
         ·exact .inr ⟨h3, fun h2 => hhit (by simp [rHit, h3, h2])⟩
         ·exact .inl h3
        clear hhit htk
        rcases hsplit with g3 | ⟨g3, g2⟩
        case' inr =>
         have g2b : (refSort x.2.1 == s) = false := beq_eq_false_iff_ne.2 g2
         have g2c : (refSort x.2.1 != s) = true := by simp [g2]
         obtain ⟨x1, x2, x3⟩ := x
         simp only at d0 d1 d2 g3 g2b g2c HBX HRX HT
         subst g3
         clear g2
         go_wp2_with (first | (go_at_call 41; refine (refSort_any _ _).mono ?_; rintro e w' ⟨rfl, rfl⟩) | (at_builtin; refine wpList_row rfl _ _ 22 rfl _ w2.heap.size 56 i z 3 32 encDef Tryz.underlying22 hi hz hsi hby hzs (by decide) encDef_len encDef_one _ (routS (L.take k) s x3) (x1, x2, x3) rfl ((HR.out.alloc _).alloc _) _ _ rfl (fun j u hu => cell_alloc2 _ _ _ _ j u (by simpa [encDef] using hu)) (by unfold maxLen; omega) (by omega) (Nat.le_trans hwr (by simp; omega)) ?_))
        case' inl =>
         have g3b : (x.2.2 == n) = false := by simpa using g3
         have g3c : (x.2.2 != n) = true := by simp [g3]
         obtain ⟨x1, x2, x3⟩ := x
         simp only at d0 d1 d2 g3b g3c HBX HRX HT
         clear g3
         go_wp2_with (first | (at_builtin; refine wpList_row rfl _ _ 22 rfl _ w2.heap.size 56 i z 3 32 encDef Tryz.underlying22 hi hz hsi hby hzs (by decide) encDef_len encDef_one _ (routS (L.take k) s n) (x1, x2, x3) rfl ((HR.out.alloc _).alloc _) _ _ rfl (fun j u hu => cell_alloc2 _ _ _ _ j u (by simpa [encDef] using hu)) (by unfold maxLen; omega) (by omega) (Nat.le_trans hwr (by simp; omega)) ?_))
        all_goals
         intro v' w5 hrow5 hg5
         have hb5 : Below w2.heap.size w2 w5 := below_grown ((HBB.out.alloc hwr _).alloc (by simp; omega) _) hg5 (fun g e => (HR.out.lt g e).1) (by simp; omega)
         have HB5 := Lib.hid hb5
         rw [← HT.out] at hrow5
         have HR6 := Lib.hid hrow5
         clear hb5 hrow5 hg5
         go_wp2_with fail
         go_roundw
         case rel => exact ⟨k + 1, hlt, by go_num, HR6.out, HB5.out⟩
         case measure => simp [intOf]; omega
      ·have hkn : k = L.length := by omega
       subst hkn
       rw [List.take_length] at hR hrl
       have HR := Lib.hid hR
       have HBB := Lib.hid hb
       have hwr : w2.heap.size ≤ wr.heap.size := hb.size
       clear hc hf hR hb
       by_cases hp : 0 < p
       ·go_wp2_with (first | (at_builtin; refine wpList_row rfl _ _ 22 rfl _ w2.heap.size 56 i z 3 32 encDef Tryz.underlying22 hi hz hsi hby hzs (by decide) encDef_len encDef_one _ (routS L s n) (p, t, n) rfl (HR.out.alloc _) _ _ rfl (fun j u hu => cell_one _ _ _ j u (by simpa [encDef] using hu)) (by unfold maxLen; omega) (by omega) (Nat.le_trans hwr (by simp)) ?_))
        intro v' w5 hrow5 hg5
        have hb5 : Below w2.heap.size w2 w5 := below_grown (HBB.out.alloc hwr _) hg5 (fun g e => (HR.out.lt g e).1) (by simp; omega)
        obtain ⟨A5, cap5, hc, hf, -⟩ := (H2.out.later hb5).open
        have HB5 := Lib.hid hb5
        obtain ⟨A6, cap6, rfl⟩ := hrow5.shape
        rw [List.length_append, List.length_cons, List.length_nil] at hrow5
        have HR5 := Lib.hid hrow5
        clear hb5 hrow5 hg5
        go_wp2_with fail
        go_ret
        refine ⟨by rw [HE.out, HC.out, HFL.out]; rfl, ?_, ?_⟩
        ·rw [HO.out, HC.out, HFL.out, if_neg (by simp), if_pos hp]
         exact (H2.out.later HB5.out).stored (B := w2.heap.size) HR5.out (by omega)
        ·exact (Fr.of_below (· = rt) (HB2.out.trans (HB5.out.mono hw2))).setCell (p := ⟨rt, 0, none⟩) (.inl rfl) _
       ·obtain ⟨A5, cap5, hc, hf, -⟩ := (H2.out.later HBB.out).open
        obtain ⟨A6, cap6, rfl⟩ := HR.out.shape
        go_wp2_with fail
        go_ret
        refine ⟨by rw [HE.out, HC.out, HFL.out]; rfl, ?_, ?_⟩
        ·rw [HO.out, HC.out, HFL.out, if_neg (by simp), if_neg (by omega)]
         exact (H2.out.later HBB.out).stored (B := w2.heap.size) HR.out (by omega)
        ·exact (Fr.of_below (· = rt) (HB2.out.trans (HBB.out.mono hw2))).setCell (p := ⟨rt, 0, none⟩) (.inl rfl) _
theorem rOp_any (w : World) (rt : Nat) (L : List DefT) (h : RTab w rt L) (hpo : PriOk L) (hL : L.length ≤ 1000) (p t : Int) (n : List UInt8) (hn : n.length ≤ 9223372036854775807) :
    Calls Tryz.prog 17 #[.pointer (some ⟨rt, 0, none⟩), .int .i64 p, .int .i64 t, .string ⟨n.toArray⟩] w fun e w' =>
     e = .returned (.int .i64 (rerr L p t n)) ∧ RTab w' rt (rop L p t n) ∧ Fr (· = rt) w w' := by
 unfold rop
 by_cases c1 : p < 0 ∨ 1200 < p ∨ t < 1 ∨ 7 < t ∨ 1000 < n.length
 ·have e1 : rerr L p t n = 2 := by unfold rerr; rw [if_pos c1]
  rw [e1]
  refine (rOp_arg w rt p t n hn c1).mono ?_
  rintro e w' ⟨rfl, rfl⟩
  exact ⟨rfl, by simpa using h, Fr.refl _ _⟩
 by_cases c2 : n = [44] ∨ n = [124] ∨ n = [91, 93] ∨ n = [123, 125]
 ·have e1 : rerr L p t n = 15 := by unfold rerr; rw [if_neg c1, if_pos c2]
  rw [e1]
  refine (rOp_perm w rt p t n (by omega) (by omega) (by omega) (by omega) (by omega) c2).mono ?_
  rintro e w' ⟨rfl, rfl⟩
  exact ⟨rfl, by simpa using h, Fr.refl _ _⟩
 have e1 : rerr L p t n = if confB L p (refSort t) n = true then 15 else if fullB L p (refSort t) n = true then 9 else 0 := by
  unfold rerr confB fullB
  rw [if_neg c1, if_neg c2]
  simp only [decide_eq_true_eq]
 simp only [not_or] at c2
 refine (rOp_main w rt L h hpo hL p t (refSort t) n (by omega) (by omega) (by omega) (by omega) (by omega) c2.1 c2.2.1 c2.2.2.1 c2.2.2.2 rfl (by unfold refSort; split <;> (try split) <;> simp) _ _ rfl rfl).mono ?_
 rintro e w' ⟨rfl, hR, hF⟩
 refine ⟨by rw [e1], ?_, hF⟩
 rw [e1]
 cases hC : confB L p (refSort t) n with
 | true => rw [hC] at hR; simpa using hR
 | false =>
  cases hF2 : fullB L p (refSort t) n with
  | true => rw [hC, hF2] at hR; simpa using hR
  | false => rw [hC, hF2] at hR; simpa [rout, routS] using hR
structure SlDefs (w : World) (A : Option Addr) (n c : Nat) (l : List DefT) : Prop where
 len : l.length = n
 nil : A = none → n = 0 ∧ c = 0
 at' : ∀ i y, l[i]? = some y → ∃ b off, A = some ⟨b, off, none⟩ ∧ b < w.heap.size ∧ ∀ j u, (encDef y)[j]? = some u → w.cell? ⟨b, off + i * 3 + j, none⟩ = some u
theorem run_defs (w : World) (B : Nat) (v : Value) (l ys : List DefT) (A : Option Addr) (n c : Nat) (t' : TypeId) (h : Row w B 56 3 encDef v l) (hy : SlDefs w A n c ys) (hn : l.length + n ≤ 100000) (hB : B ≤ w.heap.size) :
    ∃ v' w', (Builtin.append_ #[22, 22] t' #[v, .slice A n c]).run Tryz.prog w = .ok v' w' ∧ Row w' B 56 3 encDef v' (l ++ ys) ∧ w.grownBy w' v.ownBlock := by
 obtain ⟨i, z, hi, hz, hsi, hby, hzs⟩ := refDef_info
 cases A with
 | none =>
  obtain ⟨rfl, rfl⟩ := hy.nil rfl
  have hys : ys = [] := List.eq_nil_of_length_eq_zero hy.len
  exact ⟨v, w, run_append_owned_none (P := Tryz.prog) (w := w) B 22 t' 56 i 3 Tryz.underlying22 hi v l.length (l.flatMap encDef) h.own, by rw [hys, List.append_nil]; exact h, ⟨rfl, rfl, rfl, Nat.le_refl _, fun _ _ _ => rfl⟩⟩
 | some ad =>
  obtain ⟨v', w', h1, h2, h3, _⟩ := run_append_own (P := Tryz.prog) w B 22 t' 56 i z 3 32 Tryz.underlying22 hi hz hsi hby hzs (by decide) v l.length (l.flatMap encDef) h.own ad n c (ys.flatMap encDef)
   (by rw [length_flatMap_enc encDef_len, hy.len]) (fun j u hu => by
     have hj : j < ys.length * 3 := by
      have := (List.getElem?_eq_some_iff.1 hu).1
      rwa [length_flatMap_enc encDef_len] at this
     have hdiv : j / 3 < ys.length := by omega
     have hxk := List.getElem?_eq_getElem hdiv
     generalize ys[j / 3] = y at hxk
     obtain ⟨b, off, hA, _, h5⟩ := hy.at' (j / 3) y hxk
     injection hA with hA
     subst hA
     have hadd : (⟨b, off, none⟩ : Addr).add j = ⟨b, off + j, none⟩ := by unfold Addr.add; split <;> simp_all
     rw [hadd]
     have hm : j % 3 < (encDef y).length := by rw [encDef_len]; omega
     have e1 := flatMap_get encDef_len ys (j / 3) (j % 3) y _ hxk (List.getElem?_eq_getElem hm)
     rw [show j / 3 * 3 + j % 3 = j by omega, hu] at e1
     have e2 := h5 (j % 3) _ (List.getElem?_eq_getElem hm)
     rw [show off + j / 3 * 3 + j % 3 = off + j by omega] at e2
     rw [e2, e1])
   (fun u hu => by
     rw [List.mem_flatMap] at hu
     obtain ⟨y, -, hy⟩ := hu
     exact encDef_one y u hy) (by unfold maxLen; omega) (by omega) hB
  refine ⟨v', w', h1, ⟨?_⟩, h3⟩
  rw [List.flatMap_append, List.length_append, hy.len]
  exact h2
end Go.Proofs.YtiffopheamnngaaGreatDoor
