import Derived.Test.YtcallkljcjimiaaGreatDoorJW36
namespace Go.Proofs.YtcallkljcjimiaaGreatDoor
open Go.RowKit Go.Maps
set_option maxRecDepth 100000
def MendPost (u : World) (t : Tm) (e : Ending) (u' : World) : Prop :=
 ∃ x : TV, e = .returned (tvV x) ∧ TermS u' (newB u.heap.size u') x (mendT t) ∧ Below u.heap.size u u'
def MendC (n : Nat) : Prop := ∀ (t : Tm) (u : World) (x : TV), t.size ≤ n → t.size ≤ 1000000000 → TermAt u u.heap.size x t → Calls Tryz.prog 17 #[tvV x] u fun e u' => MendPost u t e u'
theorem mend_eq (t : Tm) : mendT t = if 20 < t.s.length then atomT [97] else if t.k = 1 then varT (max 0 t.n) else if t.k = 2 then intT t.n else if t.k = 3 then atomT t.s else if t.k = 4 then (if t.args.length = 0 then atomT [97] else compT t.s (mendL t.args)) else atomT [97] := by
 obtain ⟨k, n, s, l⟩ := t
 rw [mendT]
 rfl
theorem mendL_snoc : ∀ (l : List Tm) (t : Tm), mendL (l ++ [t]) = mendL l ++ [mendT t]
 | [], t => by simp [mendL]
 | a :: r, t => by rw [List.cons_append, mendL, mendL_snoc r t, mendL]; rfl
theorem arg_in {w : World} {B : Nat} {x : TV} {t : Tm} (h : TermAt w B x t) {i : Nat} (hi : i < t.args.length) :
    ∃ b off y, x.A = some ⟨b, off, none⟩ ∧ b < B ∧ TermAt w B y (t.args.getD i noTm) ∧
     (w.cell? ⟨b, off + i * 4, none⟩ = some (.int .i64 y.k) ∧ w.cell? ⟨b, off + i * 4 + 1, none⟩ = some (.int .i64 y.n) ∧ w.cell? ⟨b, off + i * 4 + 2, none⟩ = some (.string ⟨y.s.toArray⟩) ∧ w.cell? ⟨b, off + i * 4 + 3, none⟩ = some (.slice y.A y.len y.cap)) := by
 obtain ⟨k1, k2, k3, k4, k5, ka⟩ := h.open
 have e0 : t.args[i]? = some (t.args.getD i noTm) := by rw [List.getD_eq_getElem?_getD, List.getElem?_eq_getElem hi]; rfl
 obtain ⟨y, b, off, hA, hb, ht, hc⟩ := ka i _ e0
 exact ⟨b, off, y, hA, hb, ht, hc 0 _ rfl, hc 1 _ rfl, hc 2 _ rfl, hc 3 _ rfl⟩
theorem arg_lt {t : Tm} {i : Nat} (h : i < t.args.length) : (t.args.getD i noTm).size < t.size := by
 have h1 := mem_sizes t.args (t.args.getD i noTm) (by rw [List.getD_eq_getElem?_getD, List.getElem?_eq_getElem h]; exact List.getElem_mem h)
 have h2 := size_args t
 omega
theorem sizes_len : ∀ l : List Tm, l.length ≤ Tm.sizes l
 | [] => Nat.le_refl _
 | t :: r => by
  have h1 := sizes_len r
  have h2 := size_pos t
  rw [Tm.sizes, List.length_cons]
  omega
theorem take_getD {t : Tm} {k : Nat} (h : k < t.args.length) : t.args.take (k + 1) = t.args.take k ++ [t.args.getD k noTm] := by
 rw [List.take_succ_eq_append_getElem h, List.getD_eq_getElem?_getD, List.getElem?_eq_getElem h]
 rfl
theorem mend_leaf {u w : World} {br : Nat} {t : Tm} (k n : Int) (s : List UInt8) (hbr : u.heap.size ≤ br) (hb : Below u.heap.size u w) (hs : s.length ≤ maxLen) (ht : mendT t = .mk k n s []) :
    MendPost u t (.returned (tvV ⟨k, n, s, none, 0, 0⟩)) ((((w.setCell ⟨br, 0, none⟩ (.int .i64 k)).setCell ⟨br, 1, none⟩ (.int .i64 n)).setCell ⟨br, 2, none⟩ (.string ⟨s.toArray⟩)).setCell ⟨br, 3, none⟩ (.slice none 0 0)) :=
 ⟨_, rfl, by rw [ht]; exact TermS.leaf _ _ k n s none 0 hs, (((hb.setCell (p := ⟨br, 0, none⟩) hbr _).setCell (p := ⟨br, 1, none⟩) hbr _).setCell (p := ⟨br, 2, none⟩) hbr _).setCell (p := ⟨br, 3, none⟩) hbr _⟩
set_option maxHeartbeats 16000000 in
theorem mend_step {n : Nat} (hC : MendC n) : MendC (n + 1) := by
 intro t u x hn hsz hx
 obtain ⟨R, hR⟩ : ∃ R : Ending → World → Prop, R = fun e u' => MendPost u t e u' := ⟨_, rfl⟩
 rw [← hR]
 have HRR := Lib.hid hR
 obtain ⟨k1, k2, k3, k4, k5, -⟩ := hx.open
 have hme := mend_eq t
 rw [k1, k2, k3, k4] at hme
 obtain ⟨W, hW⟩ : ∃ W, W = ((u.alloc (.cells #[.int .i64 x.k, .int .i64 x.n, .string ⟨x.s.toArray⟩, .slice x.A x.len x.cap] 28)).alloc (.cells #[.int .i64 0, .int .i64 0, .string ⟨#[]⟩, .slice none 0 0] 28)).alloc (.cells #[.int .i64 3, .int .i64 0, .string ⟨#[97]⟩, .slice none 0 0] 28) := ⟨_, rfl⟩
 have hbW : Below u.heap.size u W := by rw [hW]; exact (((Below.refl _ _).alloc (Nat.le_refl _) _).alloc (by simp) _).alloc (by simp; omega) _
 obtain ⟨bx, hbx⟩ : ∃ b, b = u.heap.size := ⟨_, rfl⟩
 obtain ⟨br, hbr⟩ : ∃ b, b = u.heap.size + 1 := ⟨_, rfl⟩
 obtain ⟨ba, hba⟩ : ∃ b, b = u.heap.size + 1 + 1 := ⟨_, rfl⟩
 have hx0 : W.heap[bx]? = some (.cells #[.int .i64 x.k, .int .i64 x.n, .string ⟨x.s.toArray⟩, .slice x.A x.len x.cap] 28 (0, 0)) := by
  rw [hW, hbx, Below.heap_alloc _ _ _ (by simp; omega), Below.heap_alloc _ _ _ (by simp)]
  exact heap_alloc_new _ _
 have hr0 : W.heap[br]? = some (.cells #[.int .i64 0, .int .i64 0, .string ⟨#[]⟩, .slice none 0 0] 28 (0, 0)) := by
  rw [hW, hbr, Below.heap_alloc _ _ _ (by simp)]
  have := heap_alloc_new (u.alloc (.cells #[.int .i64 x.k, .int .i64 x.n, .string ⟨x.s.toArray⟩, .slice x.A x.len x.cap] 28)) (.cells #[.int .i64 0, .int .i64 0, .string ⟨#[]⟩, .slice none 0 0] 28)
  rwa [World.size_alloc] at this
 have ha0 : W.heap[ba]? = some (.cells #[.int .i64 3, .int .i64 0, .string ⟨#[97]⟩, .slice none 0 0] 28 (0, 0)) := by
  rw [hW, hba]
  have := heap_alloc_new ((u.alloc (.cells #[.int .i64 x.k, .int .i64 x.n, .string ⟨x.s.toArray⟩, .slice x.A x.len x.cap] 28)).alloc (.cells #[.int .i64 0, .int .i64 0, .string ⟨#[]⟩, .slice none 0 0] 28)) (.cells #[.int .i64 3, .int .i64 0, .string ⟨#[97]⟩, .slice none 0 0] 28)
  rwa [World.size_alloc, World.size_alloc] at this
 have hsW : W.heap.size = u.heap.size + 3 := by rw [hW]; simp
 obtain ⟨f0, f1, f2, f3, -⟩ := four_at hx0
 obtain ⟨r0, r1, r2, r3, rf⟩ := four_at hr0
 obtain ⟨a0, a1, a2, a3, -⟩ := four_at ha0
 have hsl : (⟨x.s.toArray⟩ : ByteArray).size = x.s.length := by simp [ByteArray.size]
 have HME := Lib.hid hme
 have HC := Lib.hid hC
 have HX := Lib.hid hx
 have HBW := Lib.hid hbW
 have HR0 := Lib.hid hr0
 have HX0 := Lib.hid hx0
 have HA0 := Lib.hid ha0
 have HB := Lib.hid (And.intro hbx (And.intro hbr (And.intro hba hsW)))
 have HSZ := Lib.hid (And.intro hn hsz)
 have HK := Lib.hid (And.intro k1 (And.intro k2 (And.intro k3 (And.intro k4 k5))))
 have hlr : br < W.heap.size := by omega
 clear hC hn hsz hx hR hme hbW hx0 hr0 ha0 k1 k2 k3 k4 k5 hsW
 rw [tvV_lit]
 by_cases hlen : 20 < x.s.length
 ·have g0 : decide ((20 : Int) < (x.s.length : Int)) = true := by simp; omega
  have g1 : 20 < x.s.length := hlen
  have HFIN : Hid (MendPost u t (.returned (tvV ⟨3, 0, [97], none, 0, 0⟩)) ((((W.setCell ⟨br, 0, none⟩ (.int .i64 3)).setCell ⟨br, 1, none⟩ (.int .i64 0)).setCell ⟨br, 2, none⟩ (.string ⟨([97] : List UInt8).toArray⟩)).setCell ⟨br, 3, none⟩ (.slice none 0 0))) := Lib.hid (mend_leaf 3 0 [97] (by have := HB.out; omega) HBW.out (by first | exact HK.out.2.2.2.2 | decide) (by rw [HME.out]; rw [if_pos hlen]; rfl))
  have HC4 := Lib.hid (blk_set4 HR0.out rfl (.int .i64 3) (.int .i64 0) (.string ⟨([97] : List UInt8).toArray⟩) (.slice none 0 0))
  clear hlen
  go_enter Tryz.func17, Tryz.ntmps17
  go_upto_region 2 with fail
  rw [← hW, ← hba, ← hbr, ← hbx]
  clear hW hba hbr hbx
  go_wp2_with fail
  obtain ⟨z0, z1, z2, z3, -⟩ := four_at HC4.out
  refine ⟨rfl, .agg #[.int .i64 3, .int .i64 0, .string ⟨([97] : List UInt8).toArray⟩, .slice none 0 0], by simp [results, Tryz.results17, go_sem, z0, z1, z2, z3], ?_⟩
  rw [HRR.out]
  exact HFIN.out
 have g0 : decide ((20 : Int) < (x.s.length : Int)) = false := by simp; omega
 by_cases e1 : x.k = 1
 ·have b1 : (x.k == 1) = true := by rw [e1]; rfl
  by_cases hneg : 0 < x.n
  ·have hmx : max 0 x.n = x.n := by omega
   have HFIN : Hid (MendPost u t (.returned (tvV ⟨1, x.n, [], none, 0, 0⟩)) ((((W.setCell ⟨br, 0, none⟩ (.int .i64 1)).setCell ⟨br, 1, none⟩ (.int .i64 x.n)).setCell ⟨br, 2, none⟩ (.string ⟨([] : List UInt8).toArray⟩)).setCell ⟨br, 3, none⟩ (.slice none 0 0))) := Lib.hid (mend_leaf 1 x.n [] (by have := HB.out; omega) HBW.out (by first | exact HK.out.2.2.2.2 | decide) (by rw [HME.out]; rw [if_neg hlen, if_pos e1, hmx]; rfl))
   have HC4 := Lib.hid (blk_set4 HR0.out rfl (.int .i64 1) (.int .i64 x.n) (.string ⟨([] : List UInt8).toArray⟩) (.slice none 0 0))
   clear e1
   go_enter Tryz.func17, Tryz.ntmps17
   go_upto_region 2 with fail
   rw [← hW, ← hba, ← hbr, ← hbx]
   clear hW hba hbr hbx
   go_wp2_with fail
   obtain ⟨z0, z1, z2, z3, -⟩ := four_at HC4.out
   refine ⟨rfl, .agg #[.int .i64 1, .int .i64 x.n, .string ⟨([] : List UInt8).toArray⟩, .slice none 0 0], by simp [results, Tryz.results17, go_sem, z0, z1, z2, z3], ?_⟩
   rw [HRR.out]
   exact HFIN.out
  ·have hmx : max 0 x.n = 0 := by omega
   have HFIN : Hid (MendPost u t (.returned (tvV ⟨1, 0, [], none, 0, 0⟩)) ((((W.setCell ⟨br, 0, none⟩ (.int .i64 1)).setCell ⟨br, 1, none⟩ (.int .i64 0)).setCell ⟨br, 2, none⟩ (.string ⟨([] : List UInt8).toArray⟩)).setCell ⟨br, 3, none⟩ (.slice none 0 0))) := Lib.hid (mend_leaf 1 0 [] (by have := HB.out; omega) HBW.out (by first | exact HK.out.2.2.2.2 | decide) (by rw [HME.out]; rw [if_neg hlen, if_pos e1, hmx]; rfl))
   have HC4 := Lib.hid (blk_set4 HR0.out rfl (.int .i64 1) (.int .i64 0) (.string ⟨([] : List UInt8).toArray⟩) (.slice none 0 0))
   clear e1
   go_enter Tryz.func17, Tryz.ntmps17
   go_upto_region 2 with fail
   rw [← hW, ← hba, ← hbr, ← hbx]
   clear hW hba hbr hbx
   go_wp2_with fail
   obtain ⟨z0, z1, z2, z3, -⟩ := four_at HC4.out
   refine ⟨rfl, .agg #[.int .i64 1, .int .i64 0, .string ⟨([] : List UInt8).toArray⟩, .slice none 0 0], by simp [results, Tryz.results17, go_sem, z0, z1, z2, z3], ?_⟩
   rw [HRR.out]
   exact HFIN.out
 have b1 : (x.k == 1) = false := beq_eq_false_iff_ne.2 e1
 by_cases e2 : x.k = 2
 ·have b2 : (x.k == 2) = true := by rw [e2]; rfl
  have HFIN : Hid (MendPost u t (.returned (tvV ⟨2, x.n, [], none, 0, 0⟩)) ((((W.setCell ⟨br, 0, none⟩ (.int .i64 2)).setCell ⟨br, 1, none⟩ (.int .i64 x.n)).setCell ⟨br, 2, none⟩ (.string ⟨([] : List UInt8).toArray⟩)).setCell ⟨br, 3, none⟩ (.slice none 0 0))) := Lib.hid (mend_leaf 2 x.n [] (by have := HB.out; omega) HBW.out (by first | exact HK.out.2.2.2.2 | decide) (by rw [HME.out]; rw [if_neg hlen, if_neg e1, if_pos e2]; rfl))
  have HC4 := Lib.hid (blk_set4 HR0.out rfl (.int .i64 2) (.int .i64 x.n) (.string ⟨([] : List UInt8).toArray⟩) (.slice none 0 0))
  clear e1 e2
  go_enter Tryz.func17, Tryz.ntmps17
  go_upto_region 2 with fail
  rw [← hW, ← hba, ← hbr, ← hbx]
  clear hW hba hbr hbx
  go_wp2_with fail
  obtain ⟨z0, z1, z2, z3, -⟩ := four_at HC4.out
  refine ⟨rfl, .agg #[.int .i64 2, .int .i64 x.n, .string ⟨([] : List UInt8).toArray⟩, .slice none 0 0], by simp [results, Tryz.results17, go_sem, z0, z1, z2, z3], ?_⟩
  rw [HRR.out]
  exact HFIN.out
 have b2 : (x.k == 2) = false := beq_eq_false_iff_ne.2 e2
 by_cases e3 : x.k = 3
 ·have b3 : (x.k == 3) = true := by rw [e3]; rfl
  have HFIN : Hid (MendPost u t (.returned (tvV ⟨3, 0, x.s, none, 0, 0⟩)) ((((W.setCell ⟨br, 0, none⟩ (.int .i64 3)).setCell ⟨br, 1, none⟩ (.int .i64 0)).setCell ⟨br, 2, none⟩ (.string ⟨(x.s : List UInt8).toArray⟩)).setCell ⟨br, 3, none⟩ (.slice none 0 0))) := Lib.hid (mend_leaf 3 0 x.s (by have := HB.out; omega) HBW.out (by first | exact HK.out.2.2.2.2 | decide) (by rw [HME.out]; rw [if_neg hlen, if_neg e1, if_neg e2, if_pos e3]; rfl))
  have HC4 := Lib.hid (blk_set4 HR0.out rfl (.int .i64 3) (.int .i64 0) (.string ⟨(x.s : List UInt8).toArray⟩) (.slice none 0 0))
  clear e1 e2 e3
  go_enter Tryz.func17, Tryz.ntmps17
  go_upto_region 2 with fail
  rw [← hW, ← hba, ← hbr, ← hbx]
  clear hW hba hbr hbx
  go_wp2_with fail
  obtain ⟨z0, z1, z2, z3, -⟩ := four_at HC4.out
  refine ⟨rfl, .agg #[.int .i64 3, .int .i64 0, .string ⟨(x.s : List UInt8).toArray⟩, .slice none 0 0], by simp [results, Tryz.results17, go_sem, z0, z1, z2, z3], ?_⟩
  rw [HRR.out]
  exact HFIN.out
 have b3 : (x.k == 3) = false := beq_eq_false_iff_ne.2 e3
 by_cases e4 : x.k = 4
 ·have b4 : (x.k == 4) = true := by rw [e4]; rfl
  by_cases hl0 : x.len = 0
  ·have b5 : ((x.len : Int) == 0) = true := by rw [hl0]; rfl
   have HFIN : Hid (MendPost u t (.returned (tvV ⟨3, 0, [97], none, 0, 0⟩)) ((((W.setCell ⟨br, 0, none⟩ (.int .i64 3)).setCell ⟨br, 1, none⟩ (.int .i64 0)).setCell ⟨br, 2, none⟩ (.string ⟨([97] : List UInt8).toArray⟩)).setCell ⟨br, 3, none⟩ (.slice none 0 0))) := Lib.hid (mend_leaf 3 0 [97] (by have := HB.out; omega) HBW.out (by first | exact HK.out.2.2.2.2 | decide) (by rw [HME.out]; rw [if_neg hlen, if_neg e1, if_neg e2, if_neg e3, if_pos e4, if_pos hl0]; rfl))
   have HC4 := Lib.hid (blk_set4 HR0.out rfl (.int .i64 3) (.int .i64 0) (.string ⟨([97] : List UInt8).toArray⟩) (.slice none 0 0))
   clear e1 e2 e3 e4 hl0
   go_enter Tryz.func17, Tryz.ntmps17
   go_upto_region 2 with fail
   rw [← hW, ← hba, ← hbr, ← hbx]
   clear hW hba hbr hbx
   go_wp2_with fail
   obtain ⟨z0, z1, z2, z3, -⟩ := four_at HC4.out
   refine ⟨rfl, .agg #[.int .i64 3, .int .i64 0, .string ⟨([97] : List UInt8).toArray⟩, .slice none 0 0], by simp [results, Tryz.results17, go_sem, z0, z1, z2, z3], ?_⟩
   rw [HRR.out]
   exact HFIN.out
  ·have b5 : ((x.len : Int) == 0) = false := beq_eq_false_iff_ne.2 (by omega)
   have HLN : Hid (t.args.length = x.len ∧ mendT t = compT x.s (mendL t.args)) := Lib.hid ⟨HK.out.2.2.2.1, by rw [HME.out, if_neg hlen, if_neg e1, if_neg e2, if_neg e3, if_pos e4, if_neg hl0]⟩
   obtain ⟨B, hB⟩ : ∃ B, B = W.heap.size + 1 := ⟨_, rfl⟩
   obtain ⟨bt, hbt⟩ : ∃ b, b = W.heap.size := ⟨_, rfl⟩
   obtain ⟨V, hV⟩ : ∃ V, V = W.alloc (.cells #[.int .i64 4, .int .i64 0, .string ⟨x.s.toArray⟩, .slice none 0 0] 28) := ⟨_, rfl⟩
   have hbV : Below W.heap.size W V := by rw [hV]; exact (Below.refl _ _).alloc (Nat.le_refl _) _
   have ht0 : V.heap[bt]? = some (.cells #[.int .i64 4, .int .i64 0, .string ⟨x.s.toArray⟩, .slice none 0 0] 28 (0, 0)) := by rw [hV, hbt]; exact heap_alloc_new _ _
   have HST := Lib.hid (BldAt.start (B := B) (by omega) HK.out.2.2.2.2 ht0)
   have HBV := Lib.hid (And.intro hbV (And.intro hB hbt))
   have HRV := Lib.hid ((hbV.block br hlr).trans HR0.out)
   have hqx : bx < W.heap.size := by have := HB.out; omega
   have HXV := Lib.hid ((hbV.block bx hqx).trans HX0.out)
   clear e1 e2 e3 e4 hl0 hlen hB hbV ht0
   go_enter Tryz.func17, Tryz.ntmps17
   go_upto_region 2 with fail
   rw [← hW, ← hba, ← hbr, ← hbx]
   clear hW hba hbr hbx
   go_upto_region 15 with fail
   rw [← hV, ← hbt]
   clear hV hbt f0 f1 f2 f3 r0 r1 r2 r3 rf a0 a1 a2 a3
   obtain ⟨f0, f1, f2, f3, -⟩ := four_at HXV.out
   go_wp2_with fail
   go_loopw [44] (fun i wr => ∃ (k : Nat) (A1 : Option Addr) (c1 : Nat) (xs : List TV), k ≤ x.len ∧ i = .int .i64 k ∧ Hid (BldAt B bt 4 0 x.s (mendL (t.args.take k)) A1 c1 xs wr ∧ Below u.heap.size u wr ∧ wr.heap[br]? = W.heap[br]? ∧ B ≤ wr.heap.size)) (fun i _ => x.len - (intOf i).toNat)
   case atStart => exact ⟨0, none, 0, [], Nat.zero_le _, rfl, Lib.hid ⟨by simpa [mendL] using HST.out, HBW.out.trans (HBV.out.1.mono HBW.out.size), HBV.out.1.block br hlr, by have := HBV.out; have h5 := (Array.getElem?_eq_some_iff.1 HST.out.box).1; omega⟩⟩
   case round =>
    obtain ⟨k, A1, c1, xs, hk, rfl, HI⟩ := hrel
    have HRR0 := Lib.hid (HI.out.2.2.1.trans HR0.out)
    clear f0 f1 f2 f3
    by_cases hkl : k < x.len
    case neg =>
     have hke : k = x.len := by omega
     have b9 : decide ((k : Int) < (x.len : Int)) = false := by simp; omega
     have HKE := Lib.hid hke
     obtain ⟨t0, t1, t2, t3, -⟩ := HI.out.1.cells
     obtain ⟨r0, r1, r2, r3, rf⟩ := four_at HRR0.out
     have htk : t.args.take k = t.args := by rw [hke, ← HLN.out.1, List.take_length]
     have HTK := Lib.hid htk
     have HFIN : Hid (MendPost u t (.returned (tvV ⟨4, 0, x.s, A1, (mendL (t.args.take k)).length, c1⟩)) ((((wr.setCell ⟨br, 0, none⟩ (.int .i64 4)).setCell ⟨br, 1, none⟩ (.int .i64 0)).setCell ⟨br, 2, none⟩ (.string ⟨x.s.toArray⟩)).setCell ⟨br, 3, none⟩ (.slice A1 (mendL (t.args.take k)).length c1))) := Lib.hid (by
      have hBB := HB.out
      have hBV := HBV.out
      refine ⟨⟨4, 0, x.s, A1, (mendL (t.args.take k)).length, c1⟩, rfl, ?_, ?_⟩
      ·rw [HLN.out.2]
       have hd := HI.out.1.done
       rw [htk] at hd ⊢
       refine hd.keep (fun q hq => ⟨by have := hq.1; omega, ?_⟩) (fun q hq => blk_set4_ne _ _ _ _ (by have := hq.1; omega))
       have := hq.2
       simpa using this
      ·have h1 := HI.out.2.1
       exact (((h1.setCell (p := ⟨br, 0, none⟩) (by simp only; omega) _).setCell (p := ⟨br, 1, none⟩) (by simp only; omega) _).setCell (p := ⟨br, 2, none⟩) (by simp only; omega) _).setCell (p := ⟨br, 3, none⟩) (by simp only; omega) _)
     have HC4 := Lib.hid (blk_set4 HRR0.out rfl (.int .i64 4) (.int .i64 0) (.string ⟨x.s.toArray⟩) (.slice A1 (mendL (t.args.take k)).length c1))
     clear hke htk
     go_wp2_with fail
     obtain ⟨z0, z1, z2, z3, -⟩ := four_at HC4.out
     refine ⟨rfl, .agg #[.int .i64 4, .int .i64 0, .string ⟨x.s.toArray⟩, .slice A1 (mendL (t.args.take k)).length c1], by simp [results, Tryz.results17, go_sem, z0, z1, z2, z3], ?_⟩
     rw [HRR.out]
     exact HFIN.out
    have b9 : decide ((k : Int) < (x.len : Int)) = true := by simp; omega
    have hk0 : (0 : Int) ≤ (k : Int) := by omega
    have hk1 : (k : Int) < (x.len : Int) := by omega
    have hka : k < t.args.length := by rw [HLN.out.1]; exact hkl
    obtain ⟨b, off, y, hA, hbB, hy, m0, m1, m2, m3⟩ := arg_in (HX.out.blw HI.out.2.1) hka
    have hbw : b < wr.heap.size := by have := HI.out.2.1.size; omega
    obtain ⟨V1, hV1⟩ : ∃ V1, V1 = wr.alloc (.cells #[.int .i64 y.k, .int .i64 y.n, .string ⟨y.s.toArray⟩, .slice y.A y.len y.cap] 28) := ⟨_, rfl⟩
    obtain ⟨b6, hb6⟩ : ∃ b6, b6 = wr.heap.size := ⟨_, rfl⟩
    have hbV1 : Below wr.heap.size wr V1 := by rw [hV1]; exact (Below.refl _ _).alloc (Nat.le_refl _) _
    have hy0 : V1.heap[b6]? = some (.cells #[.int .i64 y.k, .int .i64 y.n, .string ⟨y.s.toArray⟩, .slice y.A y.len y.cap] 28 (0, 0)) := by rw [hV1, hb6]; exact heap_alloc_new _ _
    have HM : Hid (∀ v, Below V1.heap.size V1 v → Calls Tryz.prog 17 #[.agg #[.int .i64 y.k, .int .i64 y.n, .string ⟨y.s.toArray⟩, .slice y.A y.len y.cap]] v fun e v' => ∃ z : TV, e = .returned (.agg #[.int .i64 z.k, .int .i64 z.n, .string ⟨z.s.toArray⟩, .slice z.A z.len z.cap]) ∧ TermS v' (newB V1.heap.size v') z (mendT (t.args.getD k noTm)) ∧ Below V1.heap.size V1 v') := Lib.hid fun v hv => by
     have h1 := arg_lt hka
     have h2 : TermAt v v.heap.size y (t.args.getD k noTm) := ((hy.up (by have := HI.out.2.1.size; omega)).blw (B := wr.heap.size) hbV1 |>.blw (hv.mono hbV1.size)).up (by have := hbV1.size; have := hv.size; omega)
     have h3 := HSZ.out
     rw [← tvV_lit]
     refine (HC.out _ v y (by omega) (by omega) h2).mono ?_
     rintro e v' ⟨z, rfl, h4, h5⟩
     exact ⟨z, by rw [tvV_lit], h4.keep (fun q hq => ⟨Nat.le_trans hv.size hq.1, hq.2⟩) (fun _ _ => rfl), hv.trans (h5.mono hv.size)⟩
    have HCB : Hid (∀ v, Below V1.heap.size V1 v → BldAt B bt 4 0 x.s (mendL (t.args.take k)) A1 c1 xs v) := Lib.hid fun v hv => HI.out.1.later (hbV1.trans (hv.mono hbV1.size))
    have HBV1 := Lib.hid hbV1
    have HS1 : Hid (∀ v, Below V1.heap.size V1 v → v.cell? ⟨bt, 3, none⟩ = some (.slice A1 (mendL (t.args.take k)).length c1) ∧ v.cell? ⟨b6, 0, none⟩ = some (.int .i64 y.k) ∧ v.cell? ⟨b6, 1, none⟩ = some (.int .i64 y.n) ∧ v.cell? ⟨b6, 2, none⟩ = some (.string ⟨y.s.toArray⟩) ∧ v.cell? ⟨b6, 3, none⟩ = some (.slice y.A y.len y.cap)) := Lib.hid fun v hv => by
     obtain ⟨-, -, -, h3, -⟩ := (HCB.out v hv).cells
     obtain ⟨g0, g1, g2, g3, -⟩ := four_at ((hv.block b6 (Array.getElem?_eq_some_iff.1 hy0).1).trans hy0)
     exact ⟨h3, g0, g1, g2, g3⟩
    have hbr1 := Below.refl V1.heap.size V1
    have hbd1 : Below V1.heap.size V1 V1.drew := (Below.refl V1.heap.size V1).drew
    have hL9 : (mendL (t.args.take k)).length = k := by rw [mendL_len, List.length_take]; omega
    have hxl := HI.out.1.len
    have HXL := Lib.hid (And.intro hL9 hxl)
    have hxs9 : xs.length ≤ 1000000000 := by have := HSZ.out.2; have := size_args t; have := sizes_len t.args; omega
    have HX9 := Lib.hid hxs9
    have HBB := Lib.hid (And.intro HI.out.2.2.2 (And.intro hbV1.size HI.out.1.lt))
    obtain ⟨i0, z0, hi0, hz0, hs0, hby0, hzc0⟩ := term_info
    have hzs : z0.cells.size = 4 := by rw [hzc0]; rfl
    have HIN := Lib.hid (And.intro hi0 (And.intro hz0 (And.intro hs0 (And.intro hby0 hzs))))
    have hw2 : IntKind.i64.wrap ((k : Int) + 1) = (k : Int) + 1 := IntWalk.i64_in _ (by omega)
    rw [hA] at *
    clear hbV1 hy0 hL9 hxl hxs9 hi0 hz0 hs0 hby0 hzc0 hzs hA hbB hy hka
    go_upto_region 18 with fail
    rw [← hV1, ← hb6]
    clear hV1 hb6 m0 m1 m2 m3 hbw
    obtain ⟨t3, y0, y1, y2, y3⟩ := HS1.out V1 hbr1
    go_region_law (first | (go_simp; go_at_call 17; refine (HM.out _ (by assumption)).mono ?_; rintro e W1 ⟨z, rfl, hz, hb1⟩; obtain ⟨t3', -⟩ := HS1.out W1 hb1; have hbt1 : bt < W1.heap.size := (Array.getElem?_eq_some_iff.1 (HCB.out W1 hb1).box).1; have HZ := Lib.hid hz; have HB9 := Lib.hid hb1) | (refine step_append_lies _ (by rfl) _ _ _ (by rfl) B 28 i0 z0 4 56 Tryz.underlying26 HIN.out.1 HIN.out.2.1 HIN.out.2.2.1 HIN.out.2.2.2.1 HIN.out.2.2.2.2 (by decide) (.slice A1 (mendL (t.args.take k)).length c1) xs.length (xs.flatMap encTV) (by rfl) ((HCB.out W1 HB9.out).row.alloc _).own ⟨W1.heap.size, 0, none⟩ 1 1 (encTV z) (by rfl) (by rfl) (fun j u hu => by rw [show (⟨W1.heap.size, 0, none⟩ : Addr).add j = ⟨W1.heap.size, j, none⟩ by unfold Addr.add; split <;> simp_all]; exact fresh_four _ _ _ j u hu) (encTV_one _) (by omega) (by have := HX9.out; unfold maxLen; omega) (by have := HX9.out; omega) (by have := HBB.out; have := HB9.out.size; simp; omega) (W1.heap.size + 1) (by simp) ?_; intro g5 cap5 w5 hown5 hg5 hl5 _; obtain ⟨v3, vf⟩ := put_cell (HCB.out W1 HB9.out).box (Array.getElem?_eq_some_iff.1 (HCB.out W1 HB9.out).box).1 (HCB.out W1 HB9.out).row.lt HBB.out.2.2 hg5; have HO5 := Lib.hid hown5; have HG5 := Lib.hid hg5; have HL5 := Lib.hid hl5; clear hown5 hg5 hl5))
    all_goals
     have HNX : Hid (BldAt B bt 4 0 x.s (mendL (t.args.take (k + 1))) (some ⟨g5, 0, none⟩) cap5 (xs ++ [z]) (w5.setCell ⟨bt, 3, none⟩ (.slice (some ⟨g5, 0, none⟩) (xs.length + 1) cap5)) ∧ Below u.heap.size u (w5.setCell ⟨bt, 3, none⟩ (.slice (some ⟨g5, 0, none⟩) (xs.length + 1) cap5)) ∧ (w5.setCell ⟨bt, 3, none⟩ (.slice (some ⟨g5, 0, none⟩) (xs.length + 1) cap5)).heap[br]? = W.heap[br]? ∧ B ≤ (w5.setCell ⟨bt, 3, none⟩ (.slice (some ⟨g5, 0, none⟩) (xs.length + 1) cap5)).heap.size) := Lib.hid (by
      have hBB := HB.out
      have hBV := HBV.out
      have hB1 := HBB.out
      have hb9 := HB9.out
      have hwb : Below wr.heap.size wr W1 := HBV1.out.trans (hb9.mono HBV1.out.size)
      have hW1 := HCB.out W1 hb9
      have hbA : Below W1.heap.size W1 (W1.alloc (.cells #[.int .i64 z.k, .int .i64 z.n, .string ⟨z.s.toArray⟩, .slice z.A z.len z.cap] 28)) := (Below.refl _ _).alloc (Nat.le_refl _) _
      have hR5 : Row w5 B 28 4 encTV (.slice (some ⟨g5, 0, none⟩) (xs.length + 1) cap5) (xs ++ [z]) := ⟨by rw [List.flatMap_append, List.length_append]; simpa using HO5.out⟩
      have hown : ∀ q, (Value.slice A1 (mendL (t.args.take k)).length c1).ownBlock = some q → B ≤ q ∧ q < W1.heap.size := hW1.row.lt
      have hkeep : ∀ q, q < W1.heap.size → q < B → w5.heap[q]? = W1.heap[q]? := fun q h1 h2 => by
       rw [HG5.out.block q (by simp; omega) (fun e => by have := (hown q e.symm).1; omega)]
       exact Below.heap_alloc _ _ _ h1
      have hg5 : W1.heap.size ≤ w5.heap.size := by have := HG5.out.size; simp at this; omega
      refine ⟨?_, ?_, ?_, ?_⟩
      ·rw [take_getD (by rw [HLN.out.1]; exact hkl), mendL_snoc]
       have hx1 := HXL.out.2
       rw [hx1] at hR5 ⊢
       refine BldAt.push HI.out.1 (hwb.trans (hbA.mono hwb.size)) (HZ.out.keep (fun q hq => ⟨by have := hq.1; omega, by have := hq.2; simp; omega⟩) (fun q hq => Below.heap_alloc _ _ _ hq.2)) hB1.1 hR5 HG5.out ?_
       rcases HL5.out with h | h
       ·exact .inl h
       ·exact .inr (by rw [h]; simp)
      ·have h1 : Below u.heap.size u W1 := HI.out.2.1.trans (hwb.mono HI.out.2.1.size)
       have h2 : Below u.heap.size u (W1.alloc (.cells #[.int .i64 z.k, .int .i64 z.n, .string ⟨z.s.toArray⟩, .slice z.A z.len z.cap] 28)) := h1.trans (hbA.mono h1.size)
       have h3 : Below u.heap.size u w5 := h2.grown HG5.out h2.size fun q hq => by have := (hown q hq).1; omega
       exact h3.setCell (p := ⟨bt, 3, none⟩) (by simp only; omega) _
      ·have h1 : br < wr.heap.size := (Array.getElem?_eq_some_iff.1 HRR0.out).1
       rw [Below.heap_setCell _ _ _ _ (by simp only; omega), hkeep br (by have := hwb.size; omega) (by omega), hwb.block br h1]
       exact HI.out.2.2.1
      ·rw [World.size_setCell]
       have := hwb.size
       omega)
     clear t3 t3' y0 y1 y2 y3 v3 vf hbr1 hbd1
     go_wp2_with fail
     go_roundw
     case rel => exact ⟨k + 1, _, _, _, by omega, rfl, HNX⟩
     all_goals (simp [intOf]; omega)
 have b4 : (x.k == 4) = false := beq_eq_false_iff_ne.2 e4
 have HFIN : Hid (MendPost u t (.returned (tvV ⟨3, 0, [97], none, 0, 0⟩)) ((((W.setCell ⟨br, 0, none⟩ (.int .i64 3)).setCell ⟨br, 1, none⟩ (.int .i64 0)).setCell ⟨br, 2, none⟩ (.string ⟨([97] : List UInt8).toArray⟩)).setCell ⟨br, 3, none⟩ (.slice none 0 0))) := Lib.hid (mend_leaf 3 0 [97] (by have := HB.out; omega) HBW.out (by first | exact HK.out.2.2.2.2 | decide) (by rw [HME.out]; rw [if_neg hlen, if_neg e1, if_neg e2, if_neg e3, if_neg e4]; rfl))
 have HC4 := Lib.hid (blk_set4 HR0.out rfl (.int .i64 3) (.int .i64 0) (.string ⟨([97] : List UInt8).toArray⟩) (.slice none 0 0))
 clear e1 e2 e3 e4
 go_enter Tryz.func17, Tryz.ntmps17
 go_upto_region 2 with fail
 rw [← hW, ← hba, ← hbr, ← hbx]
 clear hW hba hbr hbx
 go_wp2_with fail
 obtain ⟨z0, z1, z2, z3, -⟩ := four_at HC4.out
 refine ⟨rfl, .agg #[.int .i64 3, .int .i64 0, .string ⟨([97] : List UInt8).toArray⟩, .slice none 0 0], by simp [results, Tryz.results17, go_sem, z0, z1, z2, z3], ?_⟩
 rw [HRR.out]
 exact HFIN.out
theorem mend_all : ∀ n, MendC n
 | 0 => fun t _ _ h _ _ => by have := size_pos t; omega
 | n + 1 => mend_step (mend_all n)
mutual
def Tm.brief (m : Nat) : Tm → Bool | .mk _ _ s l => decide (s.length ≤ m) && Tm.briefs m l
def Tm.briefs (m : Nat) : List Tm → Bool | [] => true | t :: r => t.brief m && Tm.briefs m r
end
def NumOk (l : List PartT) : Prop := ∀ p ∈ l, -9223372036854775808 ≤ p.n ∧ p.n ≤ 9223372036854775807
theorem NumOk.drop {l : List PartT} (h : NumOk l) (k : Nat) : NumOk (l.drop k) := fun p hp => h p (List.mem_of_mem_drop hp)
theorem ofLoop_fits {g : List PartT → Tm × Nat} (hg : ∀ l, NumOk l → (g l).1.fits = true) : ∀ (i : Nat) (l : List PartT), NumOk l → Tm.fitss (ofLoop g i l).1 = true
 | 0, _, _ => rfl
 | i + 1, l, h => by
  unfold ofLoop
  simp only
  rw [Tm.fitss, hg l h, ofLoop_fits hg i _ (h.drop _)]
  rfl
theorem ofF_fits : ∀ (f : Nat) (l : List PartT), NumOk l → (ofF f l).1.fits = true
 | 0, _, _ => rfl
 | _ + 1, [], _ => rfl
 | f + 1, p :: r, h => by
  have h1 := h p (List.mem_cons_self ..)
  have h2 : NumOk r := fun q hq => h q (List.mem_cons_of_mem _ hq)
  unfold ofF
  simp only
  rw [Tm.fits, ofLoop_fits (ofF_fits f) _ r h2, Bool.and_true]
  exact decide_eq_true h1
mutual
theorem mend_fits : ∀ t : Tm, t.fits = true → (mendT t).fits = true
 | .mk k n s l, h => by
  rw [Tm.fits, Bool.and_eq_true, decide_eq_true_eq] at h
  obtain ⟨h1, h2⟩ := h
  have hl := mends_fits l h2
  rw [mendT]
  repeat' split
  all_goals first | rfl | (unfold varT; rw [Tm.fits, Bool.and_eq_true, decide_eq_true_eq]; exact ⟨by omega, rfl⟩) | (unfold intT; rw [Tm.fits, Bool.and_eq_true, decide_eq_true_eq]; exact ⟨h1, rfl⟩) | (unfold compT; rw [Tm.fits, Bool.and_eq_true, decide_eq_true_eq]; exact ⟨by omega, hl⟩)
theorem mends_fits : ∀ l : List Tm, Tm.fitss l = true → Tm.fitss (mendL l) = true
 | [], _ => rfl
 | t :: r, h => by
  rw [Tm.fitss, Bool.and_eq_true] at h
  rw [mendL, Tm.fitss, mend_fits t h.1, mends_fits r h.2]
  rfl
end
mutual
theorem mend_brief : ∀ t : Tm, (mendT t).brief 20 = true
 | .mk k n s l => by
  have hl := mends_brief l
  rw [mendT]
  repeat' split
  all_goals first | rfl | (unfold atomT; rw [Tm.brief, Bool.and_eq_true, decide_eq_true_eq]; exact ⟨by omega, rfl⟩) | (unfold compT; rw [Tm.brief, Bool.and_eq_true, decide_eq_true_eq]; exact ⟨by omega, hl⟩)
theorem mends_brief : ∀ l : List Tm, Tm.briefs 20 (mendL l) = true
 | [] => rfl
 | t :: r => by
  rw [mendL, Tm.briefs, mend_brief t, mends_brief r]
  rfl
end
mutual
theorem deep_le : ∀ t : Tm, t.deep ≤ t.size
 | .mk k n s l => by
  rw [Tm.deep, Tm.size]
  have := deeps_le l
  omega
theorem deeps_le : ∀ l : List Tm, Tm.deeps l ≤ Tm.sizes l
 | [] => Nat.le_refl _
 | t :: r => by
  rw [Tm.deeps, Tm.sizes]
  have h1 := deep_le t
  have h2 := deeps_le r
  omega
end
theorem good_all {l : List PartT} (h : NumOk l) (hl : l.length ≤ 60) : WfT (goodT l) ∧ (goodT l).size ≤ 421 ∧ (goodT l).deep ≤ 421 ∧ (goodT l).brief 20 = true ∧ checkT (goodT l) = 0 := by
 obtain ⟨h1, h2⟩ := good_ok l
 have h3 : (goodT l).size ≤ 421 := by omega
 have h4 : (goodT l).deep ≤ 421 := Nat.le_trans (deep_le _) h3
 refine ⟨⟨h1, mend_fits _ (ofF_fits _ l h)⟩, h3, h4, mend_brief _, ?_⟩
 unfold checkT
 rw [if_neg (by rw [h1]; decide), if_neg (by omega), if_neg (by omega)]
end Go.Proofs.YtcallkljcjimiaaGreatDoor
