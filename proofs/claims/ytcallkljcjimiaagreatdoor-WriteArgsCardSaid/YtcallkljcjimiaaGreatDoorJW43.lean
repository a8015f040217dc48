import Derived.Test.YtcallkljcjimiaaGreatDoorJW42
import Derived.Deep.LoopGhost
namespace Go.Proofs.YtcallkljcjimiaaGreatDoor
open Go.RowKit Go.Maps
set_option maxRecDepth 100000
theorem encPt_len (x : Loc) : (encPt x).length = 1 := rfl
theorem encPt_one (x : Loc) : ∀ u ∈ encPt x, u.oneCell' = true := by
 intro u hu
 simp only [encPt, List.mem_cons, List.mem_nil_iff, or_false] at hu
 subst hu
 rfl
theorem ptr_info : ∃ i z, Tryz.prog.info? 163 = some i ∧ i.zero = some z ∧ i.size = 1 ∧ i.bytes = 8 ∧ z.cells.size = 1 := by
 refine ⟨_, _, rfl, rfl, ?_, ?_, ?_⟩ <;> kernel_rfl
section
variable {w w' w'' : World} {B0 : Nat} {p : Loc} {k n : Int} {s : List UInt8} {sl : Value}
theorem StepW.of_fr {S : Nat → Prop} (h : Fr S w w') (hB : B0 ≤ w.heap.size) (h1 : ∀ k, S k → B0 ≤ k) (h2 : ∀ k, S k → ¬ TyB w 28 k) (p : Loc) : StepW w w' B0 p :=
 ⟨fun q _ _ _ _ _ _ e3 hc => hc.keep (h.block _ e3.lt fun e => h2 _ e e3), fun k hk => hk.keep (h.block _ hk.lt fun e => h2 _ e hk), fun k hk => h.block k (by omega) fun e => by have := h1 k e; omega⟩
theorem Cells4.set1 (h : Cells4 w p k n s sl) (m : Int) : Cells4 (w.setCell ⟨p.1, p.2 + 1, none⟩ (.int .i64 m)) p k m s sl :=
 ⟨(World.cell?_setCell_other _ _ _ _ (by simp)).trans h.c0, World.cell?_setCell_same _ _ _ h.c1, (World.cell?_setCell_other _ _ _ _ (by simp)).trans h.c2, (World.cell?_setCell_other _ _ _ _ (by simp)).trans h.c3⟩
theorem Cells4.set3 (h : Cells4 w p k n s sl) (v : Value) : Cells4 (w.setCell ⟨p.1, p.2 + 3, none⟩ v) p k n s v :=
 ⟨(World.cell?_setCell_other _ _ _ _ (by simp)).trans h.c0, (World.cell?_setCell_other _ _ _ _ (by simp)).trans h.c1, (World.cell?_setCell_other _ _ _ _ (by simp)).trans h.c2, World.cell?_setCell_same _ _ _ h.c3⟩
end
theorem sizes_len2 : ∀ l : List Tm, l.length ≤ Tm.sizes l
 | [] => Nat.le_refl _
 | t :: r => by
  have h1 := sizes_len2 r
  have h2 := size_pos t
  rw [Tm.sizes, List.length_cons]
  omega
theorem may_var {t : Tm} (h : t.may = true) (hk : t.k = 1) : t.s = [] ∧ t.args = [] := by
 obtain ⟨k, n, s, l⟩ := t
 rw [Tm.may, Bool.and_eq_true] at h
 have h1 := h.1
 have hk : k = 1 := hk
 subst hk
 unfold mayP at h1
 rw [if_pos rfl] at h1
 obtain ⟨_, h2, h3⟩ := of_decide_eq_true h1
 exact ⟨h2, List.eq_nil_of_length_eq_zero h3⟩
def psh (g n j : Nat) : List Loc := ((List.range (n - j)).map (fun i => ((g, (j + i) * 4) : Loc))).reverse
theorem psh_all (g n : Nat) : psh g n 0 = ((List.range n).map (fun i => ((g, i * 4) : Loc))).reverse := by
 unfold psh
 simp
theorem psh_none (g n : Nat) : psh g n n = [] := by
 unfold psh
 simp
theorem psh_len (g n j : Nat) : (psh g n j).length = n - j := by
 unfold psh
 simp
theorem psh_step (g n j : Nat) (h : j < n) : psh g n j = psh g n (j + 1) ++ [(g, j * 4)] := by
 unfold psh
 rw [show n - j = (n - (j + 1)) + 1 by omega, List.range_succ_eq_map, List.map_cons, List.reverse_cons, List.map_map]
 congr 2
 refine List.map_congr_left fun i _ => ?_
 show ((g, (j + (i + 1)) * 4) : Loc) = (g, (j + 1 + i) * 4)
 congr 1
 omega
section
variable {u wr w2 : World} {B0 : Nat} {Q : World → List Int → Prop} {nu : List Int → Int → Int × List Int} {fin : List Int} {T0 : Tm} {S : Nat → Prop} {Dn : List (Loc × Tm)} {Pd : List (Loc × Tm × Tm)} {seen : List Int} {v : Value} {p : Loc} {t T : Tm}
theorem RnI.top (h : RnI u B0 Q nu fin T0 S Dn ((p, t, T) :: Pd) seen v wr) :
    T = (renT nu seen t).1 ∧ renTs nu (renT nu seen t).2 (Pd.map (·.2.1)) = (Pd.map (·.2.2), fin) := by
 have h1 := h.eq
 rw [List.map_cons, List.map_cons, renTs] at h1
 have h2 := congrArg Prod.fst h1
 have h3 := congrArg Prod.snd h1
 simp only at h2 h3
 injection h2 with h2 h4
 exact ⟨h2.symm, Prod.ext h4 h3⟩
end
end Go.Proofs.YtcallkljcjimiaaGreatDoor
namespace Go.Proofs.YtcallkljcjimiaaGreatDoor
open Go.RowKit Go.Maps
set_option maxRecDepth 100000
theorem fresh_pt (w : World) (x : Loc) (t : TypeId) : ∀ j u, (encPt x)[j]? = some u → (w.alloc (.cells #[.pointer (some ⟨x.1, x.2, none⟩)] t)).cell? ⟨w.heap.size, j, none⟩ = some u := fun j u hu => by
 rw [cell_of_row _ w.heap.size j _ _ (0, 0) (heap_alloc_new w _)]
 simpa [encPt] using hu
def RenNPost (u : World) (Bs b mb : Nat) (t : Tm) (e : Ending) (u' : World) : Prop :=
 ∃ y : TV, e = .returned (tvV y) ∧ TermS u' (newB u.heap.size u') y (renT numI [] t).1 ∧ Fr (SnS u Bs b mb) u u'
theorem seen_off {w : World} {Bs b mb : Nat} {l : List Int} (h : SeenAt w Bs b mb l) {t : TypeId} {k : Nat} (hk : TyB w t k) (h1 : t ≠ 168) (h2 : t ≠ 2) (e : SnS w Bs b mb k) : False := by
 obtain ⟨A, c, k1, k2⟩ := h.blk
 rcases e with rfl | rfl | ⟨-, e⟩
 ·exact TyB.ne hk ⟨_, k1⟩ h1 rfl
 ·obtain ⟨cs, e⟩ := hk
  obtain ⟨es, clock, ho, -⟩ := h.map.blk
  rw [ho] at e
  cases e
 ·exact TyB.ne hk e h2 rfl
theorem seen_low {w : World} {B0 U Bs b mb k : Nat} (h : B0 ≤ U ∧ B0 ≤ b ∧ B0 ≤ mb ∧ B0 ≤ Bs ∧ Bs ≤ U) (e : SnS w Bs b mb k) : B0 ≤ k := by
 rcases e with rfl | rfl | ⟨e, -⟩ <;> omega
theorem seen_trans {u w w' : World} {Bs b mb : Nat} (h : Fr (SnS u Bs b mb) u w) (k : Fr (SnS w Bs b mb) w w') : Fr (SnS u Bs b mb) u w' :=
 ⟨k.os.trans h.os, k.tape.trans h.tape, k.output.trans h.output, Nat.le_trans h.size k.size, fun i hi hn => by
  refine (k.block i (Nat.lt_of_lt_of_le hi h.size) fun e => hn ?_).trans (h.block i hi hn)
  rcases e with e | e | ⟨e1, cs, e2⟩
  ·exact .inl e
  ·exact .inr (.inl e)
  ·rw [h.block i hi hn] at e2
   exact .inr (.inr ⟨e1, cs, e2⟩)⟩
theorem seen_apart (Bs b mb : Nat) {w w' : World} {l : List Int} (h : SeenAt w Bs b mb l) (hk : ∀ k, k < w.heap.size → ¬ TyB w 28 k → ¬ TyB w 163 k → w'.heap[k]? = w.heap[k]?) : SeenAt w' Bs b mb l := by
 obtain ⟨A, c, k1, k2⟩ := h.blk
 have hn : ∀ t : TypeId, t ≠ 168 → ¬ TyB w t b := fun t ht e => TyB.ne e ⟨_, k1⟩ ht rfl
 have hm : ∀ t, ¬ TyB w t mb := fun t e => by
  obtain ⟨cs, e⟩ := e
  obtain ⟨es, clock, ho, -⟩ := h.map.blk
  rw [ho] at e
  cases e
 refine h.keep (hk _ h.lt (hn _ (by decide)) (hn _ (by decide))) (hk _ h.map.lt (hm _) (hm _)) fun k _ hi => hk k hi.lt (fun e => TyB.ne e hi (by decide) rfl) (fun e => TyB.ne e hi (by decide) rfl)
set_option maxHeartbeats 32000000 in
theorem rename_num (u : World) (B0 : Nat) (Bs b mb : Nat) (x : TV) (t : Tm) (hx : TermAt u B0 x t) (hm : t.may = true) (hf : t.fits = true) (hsz : t.size ≤ 1000000) (hs : SeenAt u Bs b mb []) (hB : B0 ≤ u.heap.size ∧ B0 ≤ b ∧ B0 ≤ mb ∧ B0 ≤ Bs ∧ Bs ≤ u.heap.size) :
    Calls Tryz.prog 57 #[tvV x, .func (Fn.func 102) #[.pointer (some ⟨b, 0, none⟩)] #[]] u fun e u' => RenNPost u Bs b mb t e u' := by
 obtain ⟨R, hR⟩ : ∃ R : Ending → World → Prop, R = fun e u' => RenNPost u Bs b mb t e u' := ⟨_, rfl⟩
 rw [← hR]
 have HRR := Lib.hid hR
 obtain ⟨fin, hfin⟩ : ∃ f, f = (renT numI [] t).2 := ⟨_, rfl⟩
 obtain ⟨T0, hT0⟩ : ∃ T, T = (renT numI [] t).1 := ⟨_, rfl⟩
 obtain ⟨W, hW⟩ : ∃ W, W = (((u.alloc (.cells #[.int .i64 x.k, .int .i64 x.n, .string ⟨x.s.toArray⟩, .slice x.A x.len x.cap] 28)).alloc (.cells #[.int .i64 0, .int .i64 0, .string ⟨#[]⟩, .slice none 0 0] 28)).alloc (.cells #[.pointer (some ⟨u.heap.size, 0, none⟩)] 163)) := ⟨_, rfl⟩
 have hbW : Below u.heap.size u W := by rw [hW]; exact (((Below.refl _ _).alloc (Nat.le_refl _) _).alloc (by simp) _).alloc (by simp; omega) _
 have hsW : W.heap.size = u.heap.size + 3 := by rw [hW]; simp
 have hx0 : W.heap[u.heap.size]? = some (.cells #[.int .i64 x.k, .int .i64 x.n, .string ⟨x.s.toArray⟩, .slice x.A x.len x.cap] 28 (0, 0)) := by
  rw [hW, Below.heap_alloc _ _ _ (by simp; omega), Below.heap_alloc _ _ _ (by simp)]
  exact heap_alloc_new _ _
 have hr0 : W.heap[u.heap.size + 1]? = some (.cells #[.int .i64 0, .int .i64 0, .string ⟨#[]⟩, .slice none 0 0] 28 (0, 0)) := by
  rw [hW, Below.heap_alloc _ _ _ (by simp)]
  have := heap_alloc_new (u.alloc (.cells #[.int .i64 x.k, .int .i64 x.n, .string ⟨x.s.toArray⟩, .slice x.A x.len x.cap] 28)) (.cells #[.int .i64 0, .int .i64 0, .string ⟨#[]⟩, .slice none 0 0] 28)
  rwa [World.size_alloc] at this
 have hrow0 : Row W u.heap.size 163 1 encPt (.slice (some ⟨u.heap.size + 1 + 1, 0, none⟩) 1 1) [(u.heap.size, 0)] := by
  have := Row.one (B := u.heap.size) (e := 163) encPt_len ((u.alloc (.cells #[.int .i64 x.k, .int .i64 x.n, .string ⟨x.s.toArray⟩, .slice x.A x.len x.cap] 28)).alloc (.cells #[.int .i64 0, .int .i64 0, .string ⟨#[]⟩, .slice none 0 0] 28)) (u.heap.size, 0) (by simp; omega)
  rw [hW]
  simpa [encPt] using this
 have hI : RnI u B0 (fun w l => SeenAt w Bs b mb l) numI fin T0 (SnS u Bs b mb) [] [((u.heap.size, 0), t, T0)] [] (.slice (some ⟨u.heap.size + 1 + 1, 0, none⟩) 1 1) W := by
  obtain ⟨g0, g1, g2, g3, -⟩ := four_at hx0
  refine ⟨⟨by simp, fun p hp => ?_, fun p T hp => (by cases hp), fun p t' T hp => ?_, hB.1⟩, hrow0, hs.later hbW, Fr.of_below _ hbW, ?_, fun y hy => ?_, ?_, .inr ⟨t, by simp⟩, hr0, by omega⟩
  ·have hp : p = (u.heap.size, 0) := by simpa using hp
   subst hp
   exact ⟨⟨Nat.le_refl _, by simp⟩, ⟨_, hx0⟩, rfl⟩
  ·have hp : p = (u.heap.size, 0) ∧ t' = t ∧ T = T0 := by simpa using hp
   obtain ⟨rfl, rfl, rfl⟩ := hp
   exact ⟨x, ⟨g0, g1, g2, g3⟩, hx.keep (Nat.le_refl _) fun k hk => hbW.block k (by have := hB.1; omega)⟩
  ·rw [hT0, hfin]
   simp only [List.map_cons, List.map_nil]
   rw [renTs, renTs]
  ·have hy : y = ((u.heap.size, 0), t, T0) := by simpa using hy
   subst hy
   exact ⟨hm, hf⟩
  ·simp only [List.map_cons, List.map_nil, Tm.sizes, List.length_nil]
   omega
 have HI := Lib.hid hI
 have HT0 := Lib.hid hT0
 have HB := Lib.hid hB
 clear hI hx hm hf hsz hB hs hR hbW hsW hx0 hr0 hrow0 hfin hT0
 rw [tvV_lit]
 go_enter Tryz.func57, Tryz.ntmps57
 go_upto_region 2 with fail
 rw [← hW]
 clear hW
 go_loopg [5] (t.size) (fun gk v wr => ∃ (Dn : List (Loc × Tm)) (Pd : List (Loc × Tm × Tm)) (seen : List Int), Hid (RnI u B0 (fun w l => SeenAt w Bs b mb l) numI fin T0 (SnS u Bs b mb) Dn Pd seen v wr ∧ Tm.sizes (Pd.map (·.2.1)) ≤ gk))
 case atStart => exact ⟨_, _, _, Lib.hid ⟨HI.out, by simp only [List.map_cons, List.map_nil, Tm.sizes]; omega⟩⟩
 case round =>
  obtain ⟨Dn, Pd, seen, HH⟩ := hrel
  clear HI
  obtain _ | ⟨⟨p, t1, T1⟩, Pd⟩ := Pd
  ·obtain ⟨A1, c1, hv⟩ := HH.out.1.row.shape
   simp only [List.reverse_nil, List.map_nil, List.length_nil] at hv
   subst hv
   have hres := HH.out.1.res
   obtain ⟨y, hy1, hy2⟩ : ∃ y : TV, Cells4 wr (u.heap.size, 0) y.k y.n y.s (.slice y.A y.len y.cap) ∧ TermS wr (fun k => okB u.heap.size k ∧ k < wr.heap.size) y T0 := by
    rcases HH.out.1.root with e | ⟨t', e⟩
    ·exact HH.out.1.ren.read T0.size T0 _ (Nat.le_refl _) e
    ·cases e
   have y0 : wr.cell? ⟨u.heap.size, 0, none⟩ = some (.int .i64 y.k) := hy1.c0
   have y1 : wr.cell? ⟨u.heap.size, 1, none⟩ = some (.int .i64 y.n) := hy1.c1
   have y2 : wr.cell? ⟨u.heap.size, 2, none⟩ = some (.string ⟨y.s.toArray⟩) := hy1.c2
   have y3 : wr.cell? ⟨u.heap.size, 3, none⟩ = some (.slice y.A y.len y.cap) := hy1.c3
   obtain ⟨br, hbr⟩ : ∃ br, br = u.heap.size + 1 := ⟨_, rfl⟩
   rw [← hbr] at hres ⊢
   have HC4 := Lib.hid (blk_set4 hres rfl (.int .i64 y.k) (.int .i64 y.n) (.string ⟨y.s.toArray⟩) (.slice y.A y.len y.cap))
   have HFIN : Hid (RenNPost u Bs b mb t (.returned (tvV y)) ((((wr.setCell ⟨br, 0, none⟩ (.int .i64 y.k)).setCell ⟨br, 1, none⟩ (.int .i64 y.n)).setCell ⟨br, 2, none⟩ (.string ⟨y.s.toArray⟩)).setCell ⟨br, 3, none⟩ (.slice y.A y.len y.cap))) := Lib.hid (by
    refine ⟨y, rfl, ?_, ?_⟩
    ·have h2 := hy2
     rw [HT0.out] at h2
     refine h2.keep (fun k hk => ⟨hk.1.1, ?_⟩) (fun k hk => blk_set4_ne _ _ _ _ (by have := hk.1.2; omega))
     have := hk.2
     simpa using this
    ·have h1 := HH.out.1.fr
     exact (((h1.setCell (p := ⟨br, 0, none⟩) (.inr (by simp only; omega)) _).setCell (p := ⟨br, 1, none⟩) (.inr (by simp only; omega)) _).setCell (p := ⟨br, 2, none⟩) (.inr (by simp only; omega)) _).setCell (p := ⟨br, 3, none⟩) (.inr (by simp only; omega)) _)
   obtain ⟨r0, r1, r2, r3, rf⟩ := four_at hres
   clear hres hy1 hy2 hbr
   go_wp2_with fail
   obtain ⟨z0, z1, z2, z3, -⟩ := four_at HC4.out
   refine ⟨rfl, .agg #[.int .i64 y.k, .int .i64 y.n, .string ⟨y.s.toArray⟩, .slice y.A y.len y.cap], by simp [results, Tryz.results57, go_sem, z0, z1, z2, z3], ?_⟩
   rw [HRR.out]
   exact HFIN.out
  ·have hR := HH.out.1
   obtain ⟨pb, po⟩ := p
   have hloc := hR.ren.loc (pb, po) (List.mem_append_right _ (by simp))
   obtain ⟨x1, hx1, ht1⟩ := hR.ren.pd (pb, po) t1 T1 (List.mem_cons_self ..)
   obtain ⟨hT1, heq1⟩ := hR.top
   obtain ⟨hm1, hf1⟩ := hR.ok _ (List.mem_cons_self ..)
   obtain ⟨k1, k2, k3, k4, k5, -⟩ := ht1.open
   have hlist : (((pb, po), t1, T1) :: Pd).reverse.map (·.1) = Pd.reverse.map (·.1) ++ [(pb, po)] := by simp
   obtain ⟨L, hL⟩ : ∃ L, L = Pd.reverse.map (·.1) := ⟨_, rfl⟩
   have hrow := hR.row
   rw [hlist, ← hL] at hrow
   obtain ⟨gw, cap, rfl, hg0, hg1, hcap, hcs⟩ := hrow.cells encPt_len (by simp)
   have e0 : wr.cell? ⟨gw, L.length, none⟩ = some (.pointer (some ⟨pb, po, none⟩)) := by
    have := (hcs L.length (pb, po) (by simp) 0 _ rfl).1
    simpa using this
   rw [List.length_append, List.length_cons, List.length_nil] at hrow hcap ⊢
   have hfront := Row.front encPt_len hrow
   have hL9 : L.length ≤ 1000000 := by
    have h1 := hR.sz
    rw [List.map_cons, Tm.sizes] at h1
    have h2 := sizes_len2 (Pd.map (·.2.1))
    rw [hL, List.length_map, List.length_reverse]
    rw [List.length_map] at h2
    omega
   obtain ⟨cs0, hcs0⟩ := hloc.2.1
   have hfz : ∀ o, wr.frozen? ⟨pb, o, none⟩ = false := fun o => by simp [World.frozen?, hcs0]
   have q0 : wr.cell? ⟨pb, po, none⟩ = some (.int .i64 x1.k) := hx1.c0
   have q1 : wr.cell? ⟨pb, po + 1, none⟩ = some (.int .i64 x1.n) := hx1.c1
   have q3 : wr.cell? ⟨pb, po + 3, none⟩ = some (.slice x1.A x1.len x1.cap) := hx1.c3
   have hrl : L.length < L.length + 1 := Nat.lt_succ_self _
   have HLOC := Lib.hid hloc
   have HX1 := Lib.hid (And.intro hx1 ht1)
   have HT1 := Lib.hid (And.intro hT1 heq1)
   have HM1 := Lib.hid (And.intro hm1 hf1)
   have HK1 := Lib.hid (And.intro k1 (And.intro k2 (And.intro k3 (And.intro k4 k5))))
   have HFR := Lib.hid hfront
   have HLL := Lib.hid hL
   have HROW := Lib.hid hrow
   clear hR hloc hx1 ht1 hT1 heq1 hm1 hf1 k1 k2 k3 k4 k5 hlist hL hrow hcs hfront hcs0 hg0 hg1
   by_cases hkv : x1.k = 1
   ·have b1 : (x1.k == 1) = true := by rw [hkv]; rfl
    have hvar := may_var HM1.out.1 (HK1.out.1.trans hkv)
    have hl0 : x1.len = 0 := by rw [← HK1.out.2.2.2.1, hvar.2]; rfl
    have b2 : ((x1.len : Int) == 0) = true := by rw [hl0]; rfl
    have hs0 : x1.s = [] := by rw [← HK1.out.2.2.1, hvar.1]
    have hn64 : okI x1.n := by
     have := (WfT.mk HM1.out.1 HM1.out.2).n
     rw [HK1.out.2.1] at this
     exact this
    have hsl9 : seen.length ≤ 100000000 := by have := HH.out.1.sz; omega
    obtain ⟨idx, hidx⟩ : ∃ i, i = (numI seen x1.n).1 := ⟨_, rfl⟩
    obtain ⟨seen2, hseen2⟩ : ∃ i, i = (numI seen x1.n).2 := ⟨_, rfl⟩
    have hren : renT numI seen t1 = (.mk 1 idx [] [], seen2) := by
     obtain ⟨kk, nn, ss, ll⟩ := t1
     obtain ⟨r1, r2, r3, r4, -⟩ := HK1.out
     have r1 : kk = x1.k := r1
     have r2 : nn = x1.n := r2
     obtain ⟨r5, r6⟩ := hvar
     have r5 : ss = [] := r5
     have r6 : ll = [] := r6
     subst r1 r2 r5 r6
     rw [renT, if_pos hkv, hidx, hseen2]
    have HNUM : Hid (Calls Tryz.prog 102 #[.pointer (some ⟨b, 0, none⟩), .int .i64 x1.n] wr fun e W1 => e = .returned (.int .i64 idx) ∧ SeenAt W1 Bs b mb seen2 ∧ Fr (SnS wr Bs b mb) wr W1) := Lib.hid (by
     rw [hidx, hseen2]
     exact nseen_any wr Bs b mb seen HH.out.1.q x1.n hn64 hsl9 (by have := HH.out.1.fr.size; have := HB.out; omega))
    have HREN := Lib.hid hren
    have HV := Lib.hid (And.intro hkv (And.intro hvar (And.intro hl0 hs0)))
    have HS2 : Hid (seen2.length ≤ seen.length + 1) := Lib.hid (by rw [hseen2]; exact addN_len _ _)
    clear hvar hs0 hn64 hsl9 hidx hseen2 hren hkv hl0
    go_wp2_with fail
    refine HNUM.out.mono ?_
    rintro e W1 ⟨rfl, hq1, hf1⟩
    have hnS : ∀ k, TyB wr 28 k → ¬ (SnS wr Bs b mb) k := fun k hk e => seen_off HH.out.1.q hk (by decide) (by decide) e
    have hnP : ∀ k, TyB wr 163 k → ¬ (SnS wr Bs b mb) k := fun k hk e => seen_off HH.out.1.q hk (by decide) (by decide) e
    have hpb := hf1.block pb HLOC.out.2.1.lt (hnS _ HLOC.out.2.1)
    have hx2 := HX1.out.1.keep hpb
    have hfz1 : ∀ o, W1.frozen? ⟨pb, o, none⟩ = false := fun o => (World.frozen?_of_block (w := wr) (a := ⟨pb, o, none⟩) hpb).trans (hfz o)
    have HFZ := Lib.hid hfz1
    have q1' : W1.cell? ⟨pb, po + 1, none⟩ = some (.int .i64 x1.n) := hx2.c1
    have q3' : W1.cell? ⟨pb, po + 3, none⟩ = some (.slice x1.A x1.len x1.cap) := hx2.c3
    have HNX : Hid (RnI u B0 (fun w l => SeenAt w Bs b mb l) numI fin T0 (SnS u Bs b mb) (((pb, po), T1) :: Dn) Pd seen2 (.slice (some ⟨gw, 0, none⟩) L.length cap) ((W1.setCell ⟨pb, po + 1, none⟩ (.int .i64 idx)).setCell ⟨pb, po + 3, none⟩ (.slice none 0 0)) ∧ Tm.sizes (Pd.map (·.2.1)) ≤ gk - 1 ∧ 0 < gk) := Lib.hid (by
     have hBB := HB.out
     have hT := HT1.out.1
     rw [HREN.out] at hT
     have hrest := HT1.out.2
     rw [HREN.out] at hrest
     have hB0u : B0 ≤ u.heap.size := HH.out.1.ren.low
     have hpB : B0 ≤ pb := Nat.le_trans hB0u HLOC.out.1.1
     have huw : u.heap.size ≤ wr.heap.size := HH.out.1.fr.size
     have hown : ∀ k, (Value.slice (some ⟨gw, 0, none⟩) L.length cap).ownBlock = some k → TyB wr 163 k ∧ k ≠ pb := fun k hk => by
      have h1 := HFR.out.ty hk
      exact ⟨h1, fun e => by rw [e] at h1; exact TyB.ne h1 HLOC.out.2.1 (by decide) rfl⟩
     have hset : ∀ k, k ≠ pb → ((W1.setCell ⟨pb, po + 1, none⟩ (.int .i64 idx)).setCell ⟨pb, po + 3, none⟩ (.slice none 0 0)).heap[k]? = W1.heap[k]? := fun k hk => by rw [Below.heap_setCell _ _ _ _ hk, Below.heap_setCell _ _ _ _ hk]
     have h0 := HH.out.1.next (w2 := (W1.setCell ⟨pb, po + 1, none⟩ (.int .i64 idx)).setCell ⟨pb, po + 3, none⟩ (.slice none 0 0)) (((StepW.of_fr hf1 (by omega) (fun k hk => seen_low hBB hk) (fun k hk e => hnS k e hk) (pb, po)).trans (StepW.set W1 (p := (pb, po)) hpB HLOC.out.2.2 1 (by omega) _)).trans (StepW.set _ (p := (pb, po)) hpB HLOC.out.2.2 3 (by omega) _)) 0 0 (.slice none 0 0) (.slice (some ⟨gw, 0, none⟩) L.length cap) seen2 HS2.out
      (by rw [hT]; exact Nat.zero_le _) (by rw [hT]; have := (hx2.set1 idx).set3 (.slice none 0 0); rw [HV.out.1, HV.out.2.2.2] at this; exact this) (by rw [hT, HV.out.2.1.2]; rfl) (.inl ⟨by rw [hT]; rfl, rfl⟩) (fun e => absurd (by rw [hT]; rfl) e) (fun i hi => by rw [hT] at hi; exact absurd hi (Nat.not_lt_zero _))
      (by
        have : T1.args.length = 0 := by rw [hT]; rfl
        rw [this, ← HLL.out]
        simp only [List.range_zero, List.map_nil, List.reverse_nil, List.append_nil]
        exact HFR.out.keep fun k hk => (hset k (hown k hk).2).trans (hf1.block k (HFR.out.lt k hk).2 (hnP _ (hown k hk).1)))
      (seen_apart Bs b mb hq1 fun k hk e1 e2 => hset k fun e => e1 (by rw [e]; exact HLOC.out.2.1.keep hpb))
      (((seen_trans HH.out.1.fr hf1).setCell (p := ⟨pb, po + 1, none⟩) (.inr HLOC.out.1.1) _).setCell (p := ⟨pb, po + 3, none⟩) (.inr HLOC.out.1.1) _)
      (by rw [HV.out.2.1.2, hT]; exact hrest)
      (by
        have hbrB : u.heap.size + 1 ≠ pb := fun e => HLOC.out.1.2 e.symm
        rw [hset _ hbrB, hf1.block _ (by have := HH.out.1.big; omega) (hnS _ ⟨_, HH.out.1.res⟩)])
      (by rw [World.size_setCell, World.size_setCell]; exact hf1.size)
     have h1 : T1.args.length = 0 := by rw [hT]; rfl
     rw [h1] at h0
     have h2 := HH.out.2
     rw [List.map_cons, Tm.sizes] at h2
     have h2 : t1.size + Tm.sizes (Pd.map (·.2.1)) ≤ gk := h2
     have h3 := size_pos t1
     exact ⟨h0, by omega, by omega⟩)
    have hgk := HNX.out.2.2
    clear hq1 hf1 hnS hnP hpb hx2 hfz1 q0 q1 q3 hfz e0
    have hfz1 := HFZ.out
    go_wp2_with fail
    go_roundg (gk - 1)
    case rel => exact ⟨_, _, _, Lib.hid ⟨HNX.out.1, HNX.out.2.1⟩⟩
    all_goals omega
   have b1 : (x1.k == 1) = false := beq_eq_false_iff_ne.2 hkv
   by_cases hl0 : x1.len = 0
   ·have b2 : ((x1.len : Int) == 0) = true := by rw [hl0]; rfl
    have hargs : t1.args = [] := List.eq_nil_of_length_eq_zero (by rw [HK1.out.2.2.2.1, hl0])
    have hren : renT numI seen t1 = (t1, seen) := by
     have hk : t1.k ≠ 1 := by rw [HK1.out.1]; exact hkv
     obtain ⟨kk, nn, ss, ll⟩ := t1
     have r6 : ll = [] := hargs
     subst r6
     rw [renT, if_neg (show ¬ kk = 1 from hk), renTs]
    have HREN := Lib.hid hren
    have HARG := Lib.hid (And.intro hargs hl0)
    have HNX : Hid (RnI u B0 (fun w l => SeenAt w Bs b mb l) numI fin T0 (SnS u Bs b mb) (((pb, po), T1) :: Dn) Pd seen (.slice (some ⟨gw, 0, none⟩) L.length cap) (wr.setCell ⟨pb, po + 3, none⟩ (.slice none 0 0)) ∧ Tm.sizes (Pd.map (·.2.1)) ≤ gk - 1 ∧ 0 < gk) := Lib.hid (by
     have hT := HT1.out.1
     rw [hren] at hT
     have hT : T1 = t1 := hT
     have hrest := HT1.out.2
     rw [hren] at hrest
     obtain ⟨r1, r2, r3, r4, r5⟩ := HK1.out
     have hB0u : B0 ≤ u.heap.size := HH.out.1.ren.low
     have hpB : B0 ≤ pb := Nat.le_trans hB0u HLOC.out.1.1
     have hown : ∀ k, (Value.slice (some ⟨gw, 0, none⟩) L.length cap).ownBlock = some k → k ≠ pb := fun k hk e => by
      have h1 := HFR.out.ty hk
      rw [e] at h1
      exact TyB.ne h1 HLOC.out.2.1 (by decide) rfl
     have hset : ∀ k, k ≠ pb → (wr.setCell ⟨pb, po + 3, none⟩ (.slice none 0 0)).heap[k]? = wr.heap[k]? := fun k hk => Below.heap_setCell _ _ _ _ hk
     have hc := HX1.out.1.set3 (.slice none 0 0)
     rw [← r1, ← r2, ← r3, ← hT] at hc
     have h0 := HH.out.1.next (w2 := wr.setCell ⟨pb, po + 3, none⟩ (.slice none 0 0)) (StepW.set wr (p := (pb, po)) hpB HLOC.out.2.2 3 (by omega) _) 0 0 (.slice none 0 0) (.slice (some ⟨gw, 0, none⟩) L.length cap) seen (Nat.le_succ _)
      (by rw [hT, r3]; exact r5) hc (by rw [hT]) (.inl ⟨by rw [hT]; exact hargs, rfl⟩) (fun e => absurd (by rw [hT]; exact hargs) e) (fun i hi => by rw [hT, hargs] at hi; exact absurd hi (Nat.not_lt_zero _))
      (by
        have : T1.args.length = 0 := by rw [hT, hargs]; rfl
        rw [this, ← HLL.out]
        simp only [List.range_zero, List.map_nil, List.reverse_nil, List.append_nil]
        exact HFR.out.keep fun k hk => hset k (hown k hk))
      (seen_apart Bs b mb HH.out.1.q fun k hk e1 e2 => hset k fun e => e1 (by rw [e]; exact HLOC.out.2.1))
      (HH.out.1.fr.setCell (p := ⟨pb, po + 3, none⟩) (.inr HLOC.out.1.1) _)
      (by rw [hT, hargs]; exact hrest)
      (hset _ fun e => HLOC.out.1.2 e.symm)
      (by rw [World.size_setCell]; exact Nat.le_refl _)
     have h1 : T1.args.length = 0 := by rw [hT, hargs]; rfl
     rw [h1] at h0
     have h2 := HH.out.2
     rw [List.map_cons, Tm.sizes] at h2
     have h2 : t1.size + Tm.sizes (Pd.map (·.2.1)) ≤ gk := h2
     have h3 := size_pos t1
     exact ⟨h0, by omega, by omega⟩)
    have hgk := HNX.out.2.2
    have hfz3 := hfz (po + 3)
    clear hargs hren hl0 hkv
    go_wp2_with fail
    go_roundg (gk - 1)
    case rel => exact ⟨_, _, _, Lib.hid ⟨HNX.out.1, HNX.out.2.1⟩⟩
    all_goals omega
   have b2 : ((x1.len : Int) == 0) = false := beq_eq_false_iff_ne.2 (by omega)
   obtain ⟨nA, hnA⟩ : ∃ n, n = x1.len := ⟨_, rfl⟩
   have hn0 : 0 < nA := by omega
   obtain ⟨xs, ab, ao, hxs, hAe, hab, hsrc, htms⟩ := args_of HX1.out.2 (by omega)
   rw [← hnA] at hxs
   have hn255 : nA ≤ 1000000 := by
    have h1 := HH.out.1.sz
    rw [List.map_cons, Tm.sizes] at h1
    have h1 : seen.length + (t1.size + Tm.sizes (Pd.map (·.2.1))) ≤ 1000000 := h1
    have h2 := size_args t1
    have h3 := sizes_len2 t1.args
    have h4 := HK1.out.2.2.2.1
    omega
   obtain ⟨g, hg⟩ : ∃ g, g = wr.heap.size := ⟨_, rfl⟩
   have hmk := run_terms wr nA hn255
   obtain ⟨V0, hV0⟩ : ∃ V, V = wr.alloc (.cells ((List.replicate nA zTV).flatMap encTV).toArray 28) := ⟨_, rfl⟩
   obtain ⟨V1, hV1⟩ : ∃ V, V = wr.alloc (.cells (xs.flatMap encTV).toArray 28) := ⟨_, rfl⟩
   rw [← hV0, ← hg] at hmk
   have hcp : (Builtin.copy_ #[26, 26] 3 #[.slice (some ⟨g, 0, none⟩) nA nA, .slice (some ⟨ab, ao, none⟩) nA x1.cap]).run Tryz.prog V0 = .ok (.int .i64 (nA : Int)) V1 := by
    obtain ⟨i0, z0, t1', t2', t3', t4', t5'⟩ := term_info
    have hcl : (xs.flatMap encTV).length = nA * 4 := by rw [flat_len4, hxs]
    have hzl : (((List.replicate nA zTV).flatMap encTV).toArray).size = nA * 4 := by rw [List.size_toArray, flat_len4, List.length_replicate]
    have := run_copy_rows (P := Tryz.prog) V0 26 26 3 28 4 g nA nA ⟨ab, ao, none⟩ nA x1.cap ((List.replicate nA zTV).flatMap encTV).toArray 28 (xs.flatMap encTV) Tryz.underlying26 (by rw [t1', Option.map_some, t3'])
     (by rw [hV0, hg]; exact heap_alloc_new _ _) (by rw [hcl, show Nat.min nA nA = nA from Nat.min_self nA]) (fun j v hv => ?_) (by rw [hcl, hzl]; exact Nat.le_refl _) (fun v hv => by
       rw [List.mem_flatMap] at hv
       obtain ⟨y, -, hy⟩ := hv
       exact encTV_one y v hy)
    ·rw [this, show Nat.min nA nA = nA from Nat.min_self nA]
     congr 1
     rw [hV0, hV1, hg, hcl, List.drop_of_length_le (by rw [Array.length_toList, hzl]; exact Nat.le_refl _), List.append_nil]
     exact setRow_new wr _ _ _
    ·obtain ⟨y, y1, y2⟩ := flat4 xs j v hv
     have := hsrc (j / 4) y y1 (j % 4) v y2
     rw [addr_add, hV0, World.cell?_of_block (w := wr) (a := ⟨ab, ao + j, none⟩) (Below.heap_alloc _ _ _ (by have := HH.out.1.fr.size; have := HH.out.1.ren.low; simp only; omega))]
     rwa [show ao + j / 4 * 4 + j % 4 = ao + j by omega] at this
   obtain ⟨V2, hV2⟩ : ∃ V, V = V1.setCell ⟨pb, po + 3, none⟩ (.slice (some ⟨g, 0, none⟩) nA nA) := ⟨_, rfl⟩
   have hpbl : pb < wr.heap.size := HLOC.out.2.1.lt
   have hV0s : pb < V0.heap.size := by rw [hV0]; simp; omega
   have hV1s : V1.heap.size = wr.heap.size + 1 := by rw [hV1]; simp
   have hV1o : ∀ k, k < wr.heap.size → V1.heap[k]? = wr.heap[k]? := fun k hk => by rw [hV1]; exact Below.heap_alloc _ _ _ hk
   have hV0o : ∀ k, k < wr.heap.size → V0.heap[k]? = wr.heap[k]? := fun k hk => by rw [hV0]; exact Below.heap_alloc _ _ _ hk
   have hg1 : V1.heap[g]? = some (.cells (xs.flatMap encTV).toArray 28 (0, 0)) := by rw [hV1, hg]; exact heap_alloc_new _ _
   have q3' : V0.cell? ⟨pb, po + 3, none⟩ = some (.slice x1.A x1.len x1.cap) := (World.cell?_of_block (w := wr) (a := ⟨pb, po + 3, none⟩) (hV0o pb hpbl)).trans q3
   have q3'' : V1.cell? ⟨pb, po + 3, none⟩ = some (.slice x1.A x1.len x1.cap) := (World.cell?_of_block (w := wr) (a := ⟨pb, po + 3, none⟩) (hV1o pb hpbl)).trans q3
   have hfz1 : V1.frozen? ⟨pb, po + 3, none⟩ = false := (World.frozen?_of_block (w := wr) (a := ⟨pb, po + 3, none⟩) (hV1o pb hpbl)).trans (hfz _)
   have hw1 : IntKind.i64.wrap ((nA : Int) - 1) = (nA : Int) - 1 := IntWalk.i64_in _ (by omega)
   rw [hAe, ← hnA] at q3 q3' q3''
   rw [← hnA] at b2
   have hgw := HFR.out.ty (g := gw) rfl
   have hgwB := (HFR.out.lt gw rfl).1
   have hgne : gw ≠ pb := fun e => by have h1 := hgw; rw [e] at h1; exact TyB.ne h1 HLOC.out.2.1 (by decide) rfl
   have hgw2 : TyB V2 163 gw := by rw [hV2]; exact (hgw.keep (hV1o gw hgw.lt)).set _ _ _
   have hrow2 : Row V2 u.heap.size 163 1 encPt (.slice (some ⟨gw, 0, none⟩) L.length cap) L := HFR.out.keep fun k hk => by
    have hk : gw = k := by simpa [Value.ownBlock] using hk
    subst hk
    rw [hV2, Below.heap_setCell _ _ _ _ hgne]
    exact hV1o _ hgw.lt
   have HROW2 := Lib.hid hrow2
   have HCP := Lib.hid hcp
   have HN := Lib.hid (And.intro hnA (And.intro hxs (And.intro hn255 (And.intro hg hAe))))
   have HSRC := Lib.hid htms
   have HVV := Lib.hid (And.intro hV1o (And.intro hg1 (And.intro hV1s hV2)))
   have HGW := Lib.hid (And.intro hgw (And.intro hgwB (And.intro hgne hgw2)))
   have HV1 := Lib.hid hV1
   have HKV := Lib.hid (And.intro hkv hl0)
   have hn1 : nA ≤ 1000000 := hn255
   clear hnA hxs hAe hab hsrc htms hn255 hcp hV1o hV0o hg1 hV1s hrow2 hgw hgwB hgne hgw2 hkv hl0 hpbl
   go_upto_region 10 with fail
   rw [← HN.out.2.2.2.1, ← hV0]
   clear hV0 hmk hg hV1 hV2
   have hcp := HCP.out
   go_wp2_with fail
   clear hcp
   rw [← HVV.out.2.2.2]
   clear q0 q1 q3 q3' q3'' hfz hfz1 hV0s e0
   go_loopw [5, 8] (fun v i wi => ∃ (j gq cq : Nat), j ≤ nA ∧ i = .int .i64 ((j : Int) - 1) ∧ v = .slice (some ⟨gq, 0, none⟩) (L.length + (nA - j)) cq ∧ Hid (Row wi u.heap.size 163 1 encPt v (L ++ psh g nA j) ∧ Fr (fun k => k = gw) V2 wi ∧ (gq = gw ∨ V2.heap.size ≤ gq))) (fun _ i _ => (intOf i + 1).toNat)
   case atStart => exact ⟨nA, gw, cap, Nat.le_refl _, rfl, by rw [Nat.sub_self, Nat.add_zero], Lib.hid ⟨by rw [psh_none, List.append_nil]; exact HROW2.out, Fr.refl _ _, .inl rfl⟩⟩
   case round =>
    obtain ⟨wl, rfl⟩ : ∃ wl : World, wl = wr := ⟨_, rfl⟩
    obtain ⟨j, gq, cq, hj, rfl, rfl, HJ⟩ := hrel
    obtain _ | j := j
    ·have HNX : Hid (RnI u B0 (fun w l => SeenAt w Bs b mb l) numI fin T0 (SnS u Bs b mb) (((pb, po), T1) :: Dn) ((List.range T1.args.length).map (fun i => ((g, i * 4), t1.args.getD i noTm, T1.args.getD i noTm)) ++ Pd) seen (.slice (some ⟨gq, 0, none⟩) (L.length + (nA - 0)) cq) wl ∧ Tm.sizes (((List.range T1.args.length).map (fun i => (((g, i * 4), t1.args.getD i noTm, T1.args.getD i noTm) : Loc × Tm × Tm)) ++ Pd).map (·.2.1)) ≤ gk - 1 ∧ 0 < gk) := Lib.hid (by
      obtain ⟨r1, r2, r3, r4, r5⟩ := HK1.out
      obtain ⟨hnA, hxs, -, hg, hAe⟩ := HN.out
      obtain ⟨hV1o, hg1, hV1s, hV2⟩ := HVV.out
      obtain ⟨hgw, hgwB, hgne, hgw2⟩ := HGW.out
      obtain ⟨hrowJ, hfrJ, -⟩ := HJ.out
      have hk : t1.k ≠ 1 := by rw [r1]; exact HKV.out.1
      have hren : renT numI seen t1 = (.mk t1.k t1.n t1.s (renTs numI seen t1.args).1, (renTs numI seen t1.args).2) := by
       obtain ⟨kk, nn, ss, ll⟩ := t1
       rw [renT, if_neg (show ¬ kk = 1 from hk)]
       rfl
      have hT := HT1.out.1
      rw [hren] at hT
      have hT : T1 = .mk t1.k t1.n t1.s (renTs numI seen t1.args).1 := hT
      have hrest := HT1.out.2
      rw [hren] at hrest
      have hTa : T1.args = (renTs numI seen t1.args).1 := by rw [hT]; rfl
      have hTl : T1.args.length = t1.args.length := by rw [hTa, renTs_len]
      have hTn : T1.args.length = nA := by rw [hTl, r4, hnA]
      have hpbl : pb < wr.heap.size := HLOC.out.2.1.lt
      have hB0u : B0 ≤ u.heap.size := HH.out.1.ren.low
      have hpB : B0 ≤ pb := Nat.le_trans hB0u HLOC.out.1.1
      have huw : u.heap.size ≤ wr.heap.size := HH.out.1.fr.size
      have hV2o : ∀ k, k ≠ pb → V2.heap[k]? = V1.heap[k]? := fun k hk => by rw [hV2]; exact Below.heap_setCell _ _ _ _ hk
      have hV2s : V2.heap.size = V1.heap.size := by rw [hV2, World.size_setCell]
      have hJo : ∀ k, k < V2.heap.size → k ≠ gw → wl.heap[k]? = V2.heap[k]? := fun k h1 h2 => hfrJ.block k h1 h2
      have hst : StepW wr wl B0 (pb, po) := by
       refine StepW.trans (w' := V1) ?_ (StepW.trans (w' := V2) ?_ ?_)
       ·exact ⟨fun q _ _ _ _ _ _ e3 hc => hc.keep (hV1o _ e3.lt), fun k hk => hk.keep (hV1o _ hk.lt), fun k hk => hV1o k (by omega)⟩
       ·rw [hV2]
        exact StepW.set V1 (p := (pb, po)) hpB HLOC.out.2.2 3 (by omega) _
       ·exact StepW.of_fr hfrJ (by omega) (fun k e => by omega) (fun k e h => by rw [e] at h; exact TyB.ne hgw2 h (by decide) rfl) _
      have V1os : V1.os = wr.os ∧ V1.tape = wr.tape ∧ V1.output = wr.output := by rw [HV1.out]; exact ⟨rfl, rfl, rfl⟩
      have hgl : wl.heap[g]? = some (.cells (xs.flatMap encTV).toArray 28 (0, 0)) := by
       rw [hJo g (by omega) (fun e => by have := hgw.lt; omega), hV2o g (by omega)]
       exact hg1
      have hc0 : Cells4 V1 (pb, po) x1.k x1.n x1.s (.slice x1.A x1.len x1.cap) := HX1.out.1.keep (hV1o pb hpbl)
      have hc := hc0.set3 (.slice (some ⟨g, 0, none⟩) nA nA)
      have hc' : Cells4 V2 (pb, po) x1.k x1.n x1.s (.slice (some ⟨g, 0, none⟩) nA nA) := by rw [hV2]; exact hc
      have hcl := hc'.keep (hJo pb (by rw [hV2s]; omega) (fun e => hgne e.symm))
      have e1 : T1.k = x1.k := by rw [hT]; exact r1
      have e2 : T1.n = x1.n := by rw [hT]; exact r2
      have e3 : T1.s = x1.s := by rw [hT]; exact r3
      rw [← e1, ← e2, ← e3] at hcl
      have h0 := HH.out.1.next hst g nA (.slice (some ⟨g, 0, none⟩) nA nA) (.slice (some ⟨gq, 0, none⟩) (L.length + (nA - 0)) cq) seen (Nat.le_succ _)
       (by rw [e3]; exact r5) hcl hTl (.inr (by rw [hTn])) (fun _ => ⟨⟨by omega, fun e => by have := HH.out.1.big; omega⟩, ⟨_, hgl⟩, fun q hq e => by have := hq.lt; omega⟩)
       (fun i hi => by
         obtain ⟨y, hy⟩ : ∃ y, xs[i]? = some y := ⟨_, List.getElem?_eq_getElem (by omega)⟩
         refine ⟨y, ?_, ((HSRC.out i y hy).keep (Nat.le_refl _) fun k hk => hst.low k hk)⟩
         have hcell : ∀ j u, (encTV y)[j]? = some u → wl.cell? ⟨g, i * 4 + j, none⟩ = some u := fun j u hu => by
          rw [cell_of_row wl g (i * 4 + j) _ _ (0, 0) hgl]
          have := flatMap_get encTV_len xs i j y u hy hu
          simpa using this
         exact ⟨hcell 0 _ rfl, hcell 1 _ rfl, hcell 2 _ rfl, hcell 3 _ rfl⟩)
       (by
         rw [hTn, ← HLL.out]
         rw [psh_all] at hrowJ
         exact hrowJ)
       (seen_apart Bs b mb HH.out.1.q fun k hk e1 e2 => by rw [hJo k (by omega) (fun e => e2 (by rw [e]; exact hgw)), hV2o k (fun e => e1 (by rw [e]; exact HLOC.out.2.1))]; exact hV1o k hk)
       (Fr.beyond (Fr.beyond HH.out.1.fr (Fr.refl (fun _ => False) wr) (fun _ e => e.elim)) (⟨by rw [hfrJ.os, hV2]; exact V1os.1, by rw [hfrJ.tape, hV2]; exact V1os.2.1, by rw [hfrJ.output, hV2]; exact V1os.2.2, by have := hfrJ.size; omega, fun k hk hn => by
         have h1 : k ≠ pb := fun e => hn (.inl e)
         have h2 : k ≠ gw := fun e => hn (.inr e)
         rw [hJo k (by omega) h2, hV2o k h1]
         exact hV1o k hk⟩ : Fr (fun k => k = pb ∨ k = gw) wr wl) (fun k e => by
         rcases e with e | e
         ·rw [e]; exact HLOC.out.1.1
         ·rw [e]; exact hgwB))
       (by rw [hTa, renTs_app, hrest])
       (by
         have hb1 : u.heap.size + 1 ≠ pb := fun e => HLOC.out.1.2 e.symm
         have hb2 : u.heap.size + 1 ≠ gw := fun e => by have h1 := hgw; rw [← e] at h1; exact TyB.ne h1 ⟨_, HH.out.1.res⟩ (by decide) rfl
         have hb3 := HH.out.1.big
         rw [hJo _ (by omega) hb2, hV2o _ hb1]
         exact hV1o _ (by omega))
       (by have := hfrJ.size; omega)
      have h2 := HH.out.2
      rw [List.map_cons, Tm.sizes] at h2
      have h2 : t1.size + Tm.sizes (Pd.map (·.2.1)) ≤ gk := h2
      have h3 := size_args t1
      refine ⟨h0, ?_, by omega⟩
      rw [List.map_append, sizes_cat, List.map_map, hTl]
      have h5 : ((List.range t1.args.length).map ((fun x : Loc × Tm × Tm => x.2.1) ∘ fun i => ((g, i * 4), t1.args.getD i noTm, T1.args.getD i noTm))) = t1.args := getD_map t1.args noTm
      rw [h5]
      omega)
     have hgk := HNX.out.2.2
     go_wp2_with fail
     go_roundg (gk - 1)
     case rel => exact ⟨_, _, _, Lib.hid ⟨HNX.out.1, HNX.out.2.1⟩⟩
     all_goals omega
    ·have hw2 : IntKind.i64.wrap ((((j + 1 : Nat) : Int) - 1) - 1) = (j : Int) - 1 := by rw [show (((j + 1 : Nat) : Int) - 1) - 1 = (j : Int) - 1 by omega]; exact IntWalk.i64_in _ (by omega)
     have hi0 : (((j + 1 : Nat) : Int) - 1) = (j : Int) := by omega
     rw [hi0] at hw2 ⊢
     have hge : decide ((0 : Int) ≤ (j : Int)) = true := by simp
     obtain ⟨i0, z0, p1, p2, p3, p4, p5⟩ := ptr_info
     have HIN := Lib.hid (And.intro p1 (And.intro p2 (And.intro p3 (And.intro p4 p5))))
     clear p1 p2 p3 p4 p5 hi0
     obtain ⟨lq, hlq⟩ : ∃ n, n = L.length + (nA - (j + 1)) := ⟨_, rfl⟩
     have HLQ : Hid (lq = L.length + (nA - (j + 1)) ∧ lq = (L ++ psh g nA (j + 1)).length ∧ lq + 1 = L.length + (nA - j) ∧ lq ≤ 3000000) := Lib.hid (by rw [List.length_append, psh_len]; omega)
     rw [← hlq] at HJ ⊢
     clear hlq
     have HJA : Hid (Row wl u.heap.size 163 1 encPt (.slice (some ⟨gq, 0, none⟩) lq cq) (L ++ psh g nA (j + 1))) := Lib.hid HJ.out.1
     have HU := Lib.hid (show u.heap.size ≤ wl.heap.size from by have h1 := HJ.out.2.1.size; have h2 := HVV.out.2.2.1; have h3 := HH.out.1.fr.size; have h4 : V2.heap.size = V1.heap.size := (by rw [HVV.out.2.2.2, World.size_setCell]); omega)
     go_wp2_with (at_builtin; refine wpList_row_lies rfl _ _ 164 rfl _ u.heap.size 163 i0 z0 1 8 encPt Tryz.underlying164 HIN.out.1 HIN.out.2.1 HIN.out.2.2.1 HIN.out.2.2.2.1 HIN.out.2.2.2.2 (by decide) encPt_len encPt_one (.slice (some ⟨gq, 0, none⟩) lq cq) (L ++ psh g nA (j + 1)) (g, j * 4) rfl (HJA.out.alloc _) _ _ rfl (fun j1 u1 hu => fresh_pt _ _ _ j1 u1 hu) (by have := HLQ.out; unfold maxLen; omega) (by have := HLQ.out; omega) (by have := HU.out; simp; omega) ?_; intro g5 cap5 w5 hR5 hg5 hl5; have HR5 := Lib.hid hR5; have HG5 := Lib.hid hg5; have HL5 := Lib.hid hl5; clear hR5 hg5 hl5)
     have HNX : Hid (Row w5 u.heap.size 163 1 encPt (.slice (some ⟨g5, 0, none⟩) (L.length + (nA - j)) cap5) (L ++ psh g nA j) ∧ Fr (fun k => k = gw) V2 w5 ∧ (g5 = gw ∨ V2.heap.size ≤ g5) ∧ (L ++ psh g nA (j + 1)).length + 1 = L.length + (nA - j)) := Lib.hid (by
      obtain ⟨q1, q2, q3, q4⟩ := HLQ.out
      obtain ⟨j1, j2, j3⟩ := HJ.out
      have hR := HR5.out
      have hl := HL5.out
      rw [← q2, q3, List.append_assoc, ← psh_step g nA j (by omega)] at hR
      refine ⟨hR, ?_, ?_, by omega⟩
      ·refine (Fr.alloc j2 _).grown HG5.out fun q e => ?_
       have e : gq = q := by simpa [Value.ownBlock] using e
       rcases j3 with e2 | e2
       ·exact .inl (by omega)
       ·exact .inr (by omega)
      ·rcases hl with e | e
       ·have e : gq = g5 := by simpa [Value.ownBlock] using e
        rw [← e]
        exact j3
       ·right
        have := j2.size
        rw [World.size_alloc] at e
        omega)
     have hln : L.length + (psh g nA (j + 1)).length + 1 = L.length + (nA - j) := by have := HNX.out.2.2.2; rwa [List.length_append] at this
     go_wp2_with fail
     rw [hln]
     clear hln
     exact ⟨⟨j, g5, cap5, by omega, rfl, rfl, Lib.hid ⟨HNX.out.1, HNX.out.2.1, HNX.out.2.2.1⟩⟩, by simp only [intOf]; omega⟩
set_option maxHeartbeats 8000000 in
theorem numb_any (w : World) (B0 : Nat) (x : TV) (t : Tm) (hx : TermAt w B0 x t) (hm : t.may = true) (hf : t.fits = true) (hsz : t.size ≤ 1000000) (hB : B0 ≤ w.heap.size) :
    Calls Tryz.prog 59 #[tvV x] w fun e w' => ∃ y : TV, e = .returned (tvV y) ∧ TermS w' (newB w.heap.size w') y (renT numI [] t).1 ∧ Below w.heap.size w w' := by
 have hmm := @run_makeMap Tryz.prog
 have HX := Lib.hid (And.intro hx (And.intro hm (And.intro hf (And.intro hsz hB))))
 clear hx hm hf hsz hB
 obtain ⟨R, hR⟩ : ∃ R : Ending → World → Prop, R = fun e w' => ∃ y : TV, e = .returned (tvV y) ∧ TermS w' (newB w.heap.size w') y (renT numI [] t).1 ∧ Below w.heap.size w w' := ⟨_, rfl⟩
 rw [← hR]
 have HRR := Lib.hid hR
 clear hR
 rw [tvV_lit]
 go_enter Tryz.func59, Tryz.ntmps59
 go_wp2_with fail
 obtain ⟨V, hV⟩ : ∃ V, V = (w.alloc (.cells #[.int .i64 x.k, .int .i64 x.n, .string ⟨x.s.toArray⟩, .slice x.A x.len x.cap] 28)).alloc (.cells #[.int .i64 0, .int .i64 0, .string ⟨#[]⟩, .slice none 0 0] 28) := ⟨_, rfl⟩
 rw [← hV]
 have hVb : Below w.heap.size w V := by rw [hV]; exact ((Below.refl _ _).alloc (Nat.le_refl _) _).alloc (by simp) _
 have hVs : V.heap.size = w.heap.size + 2 := by rw [hV]; simp
 have hVr : V.heap[w.heap.size + 1]? = some (.cells #[.int .i64 0, .int .i64 0, .string ⟨#[]⟩, .slice none 0 0] 28 (0, 0)) := by
  rw [hV]
  have := heap_alloc_new (w.alloc (.cells #[.int .i64 x.k, .int .i64 x.n, .string ⟨x.s.toArray⟩, .slice x.A x.len x.cap] 28)) (.cells #[.int .i64 0, .int .i64 0, .string ⟨#[]⟩, .slice none 0 0] 28)
  rwa [World.size_alloc] at this
 clear hV
 obtain ⟨W, hW⟩ : ∃ W, W = (V.alloc (.map #[] 0)).alloc (.cells #[.slice none 0 0, .map (some (w.heap.size + 1 + 1))] 168) := ⟨_, rfl⟩
 rw [← hW]
 have hWV : Below V.heap.size V W := by rw [hW]; exact ((Below.refl _ _).alloc (Nat.le_refl _) _).alloc (by simp) _
 have hWs : W.heap.size = w.heap.size + 4 := by rw [hW]; simp; omega
 have hbl : W.heap[w.heap.size + 1 + 1 + 1]? = some (.cells #[.slice none 0 0, .map (some (w.heap.size + 1 + 1))] 168 (0, 0)) := by
  have := heap_alloc_new (V.alloc (.map #[] 0)) (.cells #[.slice none 0 0, .map (some (w.heap.size + 1 + 1))] 168)
  rw [World.size_alloc, hVs] at this
  rw [hW]
  exact this
 have hmp : MapAt W (w.heap.size + 1 + 1) evI evI (idxL []) := by
  have := (MapAt.made (ek := evI) (ev := evI) V).alloc (.cells #[.slice none 0 0, .map (some (w.heap.size + 1 + 1))] 168)
  rw [hVs] at this
  rw [hW]
  exact this
 have hS : SeenAt W W.heap.size (w.heap.size + 1 + 1 + 1) (w.heap.size + 1 + 1) [] := ⟨⟨none, 0, hbl, Row.nil _ _ _ _ _⟩, hmp, by omega, by omega, fun n hn => by cases hn⟩
 have hbW : Below w.heap.size w W := hVb.trans (hWV.mono hVb.size)
 have hWr : W.heap[w.heap.size + 1]? = some (.cells #[.int .i64 0, .int .i64 0, .string ⟨#[]⟩, .slice none 0 0] 28 (0, 0)) := (hWV.block _ (by omega)).trans hVr
 have hcall := rename_num W w.heap.size W.heap.size (w.heap.size + 1 + 1 + 1) (w.heap.size + 1 + 1) x t (HX.out.1.keep HX.out.2.2.2.2 fun k hk => hbW.block k (by have := HX.out.2.2.2.2; omega)) HX.out.2.1 HX.out.2.2.1 HX.out.2.2.2.1 hS ⟨by omega, by omega, by omega, by omega, Nat.le_refl _⟩
 rw [tvV_lit] at hcall
 refine hcall.mono ?_
 intro e w2 hp
 obtain ⟨y, rfl, hy, hfr⟩ := hp
 have h2r : w2.heap[w.heap.size + 1]? = some (.cells #[.int .i64 0, .int .i64 0, .string ⟨#[]⟩, .slice none 0 0] 28 (0, 0)) := (hfr.block _ (by omega) (fun e => by rcases e with e | e | ⟨e, -⟩ <;> omega)).trans hWr
 obtain ⟨br, hbr⟩ : ∃ br, br = w.heap.size + 1 := ⟨_, rfl⟩
 rw [← hbr] at h2r ⊢
 have HC4 := Lib.hid (blk_set4 h2r rfl (.int .i64 y.k) (.int .i64 y.n) (.string ⟨y.s.toArray⟩) (.slice y.A y.len y.cap))
 have HFIN : Hid (R (.returned (tvV y)) ((((w2.setCell ⟨br, 0, none⟩ (.int .i64 y.k)).setCell ⟨br, 1, none⟩ (.int .i64 y.n)).setCell ⟨br, 2, none⟩ (.string ⟨y.s.toArray⟩)).setCell ⟨br, 3, none⟩ (.slice y.A y.len y.cap))) := Lib.hid (by
  rw [HRR.out]
  refine ⟨y, rfl, ?_, ?_⟩
  ·refine hy.keep (fun k hk => ⟨by have := hk.1; omega, ?_⟩) (fun k hk => blk_set4_ne _ _ _ _ (by have := hk.1; omega))
   have := hk.2
   simpa using this
  ·have h1 : Below w.heap.size w w2 := hbW.trans (hfr.below (by omega) fun k hk e => by rcases e with e | e | ⟨e, -⟩ <;> omega)
   exact (((h1.setCell (by simp only; omega) _).setCell (by simp only; omega) _).setCell (by simp only; omega) _).setCell (by simp only; omega) _)
 obtain ⟨r0, r1, r2, r3, rf⟩ := four_at h2r
 clear h2r hy hfr hbr hcall hS hmp hbl hWr hbW hWV hVb hVr hVs hWs hW hmm
 rw [tvV_lit]
 go_wp2_with fail
 obtain ⟨z0, z1, z2, z3, -⟩ := four_at HC4.out
 refine ⟨rfl, .agg #[.int .i64 y.k, .int .i64 y.n, .string ⟨y.s.toArray⟩, .slice y.A y.len y.cap], by simp [results, Tryz.results59, go_sem, z0, z1, z2, z3], ?_⟩
 exact HFIN.out
def digsF (base : Nat) : Nat → Nat → List UInt8
 | 0, _ => []
 | f + 1, k => if k < base then [hexDigit k] else digsF base f (k / base) ++ [hexDigit (k % base)]
def digsB (base k : Nat) : List UInt8 := digsF base (k + 1) k
theorem digsF_fuel {base : Nat} (hb : 2 ≤ base) : ∀ (f g k : Nat), k < f → k < g → digsF base f k = digsF base g k := by
 intro f
 induction f with
 | zero => intro g k h; omega
 | succ f ih =>
  intro g k h1 h2
  cases g with
  | zero => omega
  | succ g =>
   simp only [digsF]
   split
   ·rfl
   ·rename_i hk
    have : k / base < k := Nat.div_lt_self (by omega) (by omega)
    rw [ih g (k / base) (by omega) (by omega)]
theorem digsB_small {base k : Nat} (h : k < base) : digsB base k = [hexDigit k] := by
 unfold digsB digsF
 rw [if_pos h]
theorem digsB_step {base k : Nat} (hb : 2 ≤ base) (h : ¬ k < base) : digsB base k = digsB base (k / base) ++ [hexDigit (k % base)] := by
 have hk : k / base < k := Nat.div_lt_self (by omega) (by omega)
 unfold digsB
 rw [show k + 1 = k.succ from rfl, digsF, if_neg h, digsF_fuel hb k (k / base + 1) (k / base) hk (by omega)]
theorem digsB_ind {base : Nat} (hb : 2 ≤ base) (p : Nat → List UInt8 → Prop) (h0 : ∀ k, k < base → p k [hexDigit k]) (h1 : ∀ k l, ¬ k < base → p (k / base) l → p k (l ++ [hexDigit (k % base)])) : ∀ n k, k < n → p k (digsB base k) := by
 intro n
 induction n with
 | zero => intro k h; omega
 | succ n ih =>
  intro k h
  by_cases hk : k < base
  ·rw [digsB_small hk]; exact h0 k hk
  ·rw [digsB_step hb hk]
   have : k / base < k := Nat.div_lt_self (by omega) (by omega)
   exact h1 k _ hk (ih _ (by omega))
theorem digsB_ne {base : Nat} (hb : 2 ≤ base) (k : Nat) : digsB base k ≠ [] :=
 digsB_ind hb (fun _ l => l ≠ []) (by simp) (by simp) (k + 1) k (by omega)
theorem hexDigit_val : ∀ d, d < 16 → digVal (hexDigit d) = d ∧ (48 ≤ (hexDigit d).toNat ∧ (hexDigit d).toNat ≤ 57 ∨ 97 ≤ (hexDigit d).toNat ∧ (hexDigit d).toNat ≤ 102) := by decide
theorem hexDigit_ten : ∀ d, d < 10 → 48 ≤ (hexDigit d).toNat ∧ (hexDigit d).toNat ≤ 57 := by decide
theorem digsB_val {base : Nat} (hb : 2 ≤ base) (hc : base ≤ 16) (k : Nat) : valOf base (digsB base k) = k :=
 digsB_ind hb (fun k l => valOf base l = k) (fun k hk => by
  have := (hexDigit_val k (by omega)).1
  simp [valOf, this]) (fun k l hk h => by
  have hm : k % base < base := Nat.mod_lt _ (by omega)
  rw [valOf_snoc, h, (hexDigit_val _ (by omega)).1, Nat.mul_comm]
  exact Nat.div_add_mod k base) (k + 1) k (by omega)
theorem digsB_all {base : Nat} (hb : 2 ≤ base) (hc : base ≤ 16) (p : UInt8 → Bool) (hp : ∀ d, d < base → p (hexDigit d) = true) (k : Nat) : ∀ c ∈ digsB base k, p c = true :=
 digsB_ind hb (fun _ l => ∀ c ∈ l, p c = true) (fun k hk c h => by
  rw [List.mem_singleton] at h
  rw [h]; exact hp k hk) (fun k l hk h c hc' => by
  rw [List.mem_append, List.mem_singleton] at hc'
  rcases hc' with hc' | rfl
  ·exact h c hc'
  ·exact hp _ (Nat.mod_lt _ (by omega))) (k + 1) k (by omega)
theorem spanN_all (p : UInt8 → Bool) (x : UInt8) (hx : p x = false) (r : List UInt8) : ∀ l : List UInt8, (∀ c ∈ l, p c = true) → spanN p (l ++ x :: r) = l.length
 | [], _ => by rw [List.nil_append, spanN_cons, hx]; rfl
 | c :: l, h => by
  rw [List.cons_append, spanN_cons, if_pos (h c (List.mem_cons_self ..)), spanN_all p x hx r l (fun c' h' => h c' (List.mem_cons_of_mem _ h'))]
  rfl
theorem hexDigit_not10 : ∀ d, d < 16 → (hexDigit d != 10) = true := by decide
theorem digsB_lines {base : Nat} (hb : 2 ≤ base) (hc : base ≤ 16) (k : Nat) : lines (digsB base k) = 0 := by
 unfold lines
 rw [List.count_eq_zero]
 intro h
 have := digsB_all hb hc (fun c => c != 10) (fun d hd => hexDigit_not10 d (by omega)) k 10 h
 simp at this
theorem on_end {o : OpsF} {ts : List Tok} {s s1 : RdS} (h : roundF o ts s = .on s1) : endF o ts s = endF o ts s1 := by rw [end_step, h]
theorem fin_end {o : OpsF} {ts : List Tok} {s s1 : RdS} (h : roundF o ts s = .fin s1) : endF o ts s = .fin s1 := by rw [end_step, h]
section
variable {o : OpsF} {ts : List Tok}
end
section
variable {o : OpsF} {ts1 ts2 : List Tok} {m : Nat} {c : ClauseF}
end
end Go.Proofs.YtcallkljcjimiaaGreatDoor
