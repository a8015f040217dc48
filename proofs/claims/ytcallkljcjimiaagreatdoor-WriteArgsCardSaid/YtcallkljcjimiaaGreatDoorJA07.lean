import Derived.Test.YtcallkljcjimiaaGreatDoorJA06
import Derived.Test.YtcallkljcjimiaaGreatDoorJW43
import Derived.Deep.LoopGhost
import Derived.Test.YtcallkljcjimiaaGreatDoorProg
import Derived.KernelRfl
import Derived.WalkKit
import Derived.WalkSmall
import Derived.Lib.Hide
import Derived.Laws.AppendOwn
import Derived.Laws.MakeOwn
import Derived.Deep.OwnRows
import Derived.Laws.AppendOwnNone
import Derived.Deep.AppendLies
import Derived.Deep.RegionLaw
import Derived.WalkSpells
import Derived.BigQuiet
import Derived.Deep.QuietTactic
import Derived.StillTailTactics
import Derived.IntWalk
import Derived.Maps.Keyed
import Derived.StringKeys
import Derived.Lib.ItoaMem
import Derived.Lib.ItoaNum
import Derived.Deep.RegionHeld3
import Derived.Laws.OwnMore
import Derived.LoopTactic
import Derived.Shelf.Small.Strs
import Derived.Shelf.Strings.Search1
import Derived.Shelf.Strings.Search2
import Derived.Shelf.Strings.Search3
import Derived.Shelf.Strings.Count
import Derived.Shelf.LaysM
import Derived.Shelf.Strings.Shaped
import Derived.Shelf.Strings.Prefix
import Derived.LoopN
import Derived.Laws.IdiomStrings
import Derived.Laws.BytesArg
import Derived.Shelf.Strconv.Itoa4
import Derived.Lib.AppendStr
import Derived.Deep.Cut
import Derived.Deep.CutRange
import Derived.Deep.DeepCutAuto
import Derived.Laws.EntriesVeiled
import Derived.Deep.DrawnRows
import Derived.Defers
import Derived.Recover
import Derived.Laws.DeepStrings4
import Derived.Lib.Index
import Derived.Shelf.Small.Wraps
import Derived.Shelf.Strings.Fields
namespace Go.Proofs.YtcallkljcjimiaaGreatDoor
open Go.RowKit Go.Maps
set_option maxRecDepth 100000
theorem fresh_ptS (w : World) (x : Loc) (t : TypeId) : ∀ j u, (encPt x)[j]? = some u → (w.alloc (.cells #[.pointer (some ⟨x.1, x.2, none⟩)] t)).cell? ⟨w.heap.size, j, none⟩ = some u := fun j u hu => by
 rw [cell_of_row _ w.heap.size j _ _ (0, 0) (heap_alloc_new w _)]
 simpa [encPt] using hu
theorem tsame_any (w : World) (n : Int) : Calls Tryz.prog 58 #[.int .i64 n] w fun e w' => e = .returned (.int .i64 n) ∧ Below w.heap.size w w' := by
 go_enter Tryz.func58, Tryz.ntmps58
 go_wp2_with fail
 go_ret
 exact ⟨rfl, Below.refl _ _⟩
def RenSPost (u : World) (t : Tm) (e : Ending) (u' : World) : Prop :=
 ∃ y : TV, e = .returned (tvV y) ∧ TermS u' (newB u.heap.size u') y t ∧ Fr (fun _ => False) u u'
set_option maxHeartbeats 32000000 in
theorem rename_same (u : World) (B0 : Nat)  (x : TV) (t : Tm) (hx : TermAt u B0 x t) (hm : t.may = true) (hf : t.fits = true) (hsz : t.size ≤ 1000000) (hB : B0 ≤ u.heap.size) :
    Calls Tryz.prog 57 #[tvV x, .func (Fn.func 58) #[] #[]] u fun e u' => RenSPost u t e u' := by
 obtain ⟨R, hR⟩ : ∃ R : Ending → World → Prop, R = fun e u' => RenSPost u t e u' := ⟨_, rfl⟩
 rw [← hR]
 have HRR := Lib.hid hR
 obtain ⟨fin, hfin⟩ : ∃ f, f = (renT (fun l n => (n, l)) [] t).2 := ⟨_, rfl⟩
 obtain ⟨T0, hT0⟩ : ∃ T, T = (renT (fun l n => (n, l)) [] t).1 := ⟨_, rfl⟩
 obtain ⟨W, hW⟩ : ∃ W, W = (((u.alloc (.cells #[.int .i64 x.k, .int .i64 x.n, .string ⟨x.s.toArray⟩, .slice x.A x.len x.cap] 28)).alloc (.cells #[.int .i64 0, .int .i64 0, .string ⟨#[]⟩, .slice none 0 0] 28)).alloc (.cells #[.pointer (some ⟨u.heap.size, 0, none⟩)] 163)) := ⟨_, rfl⟩
 have hbW : Below u.heap.size u W := by rw [hW]; exact (((Below.refl _ _).alloc (Nat.le_refl _) _).alloc (by simp) _).alloc (by simp; omega) _
 have hsW : W.heap.size = u.heap.size + 3 := by rw [hW]; simp
 have hx0 : W.heap[u.heap.size]? = some (.cells #[.int .i64 x.k, .int .i64 x.n, .string ⟨x.s.toArray⟩, .slice x.A x.len x.cap] 28 (0, 0)) := by
  rw [hW, Below.heap_alloc _ _ _ (by simp; omega), Below.heap_alloc _ _ _ (by simp)]
  exact heap_alloc_new _ _
 have hr0 : W.heap[u.heap.size + 1]? = some (.cells #[.int .i64 0, .int .i64 0, .string ⟨#[]⟩, .slice none 0 0] 28 (0, 0)) := by
  rw [hW, Below.heap_alloc _ _ _ (by simp)]
  have := heap_alloc_new (u.alloc (.cells #[.int .i64 x.k, .int .i64 x.n, .string ⟨x.s.toArray⟩, .slice x.A x.len x.cap] 28)) (.cells #[.int .i64 0, .int .i64 0, .string ⟨#[]⟩, .slice none 0 0] 28)
  rwa [World.size_alloc] at this
 have hrow0 : Row W u.heap.size 163 1 encPt (.slice (some ⟨u.heap.size + 1 + 1, 0, none⟩) 1 1) [(u.heap.size, 0)] := by
  have := Row.one (B := u.heap.size) (e := 163) encPt_len ((u.alloc (.cells #[.int .i64 x.k, .int .i64 x.n, .string ⟨x.s.toArray⟩, .slice x.A x.len x.cap] 28)).alloc (.cells #[.int .i64 0, .int .i64 0, .string ⟨#[]⟩, .slice none 0 0] 28)) (u.heap.size, 0) (by simp; omega)
  rw [hW]
  simpa [encPt] using this
 have hI : RnI u B0 (fun _ _ => True) (fun l n => (n, l)) fin T0 (fun _ => False) [] [((u.heap.size, 0), t, T0)] [] (.slice (some ⟨u.heap.size + 1 + 1, 0, none⟩) 1 1) W := by
  obtain ⟨g0, g1, g2, g3, -⟩ := four_at hx0
  refine ⟨⟨by simp, fun p hp => ?_, fun p T hp => (by cases hp), fun p t' T hp => ?_, hB⟩, hrow0, trivial, Fr.of_below _ hbW, ?_, fun y hy => ?_, ?_, .inr ⟨t, by simp⟩, hr0, by omega⟩
  ·have hp : p = (u.heap.size, 0) := by simpa using hp
   subst hp
   exact ⟨⟨Nat.le_refl _, by simp⟩, ⟨_, hx0⟩, rfl⟩
  ·have hp : p = (u.heap.size, 0) ∧ t' = t ∧ T = T0 := by simpa using hp
   obtain ⟨rfl, rfl, rfl⟩ := hp
   exact ⟨x, ⟨g0, g1, g2, g3⟩, hx.keep (Nat.le_refl _) fun k hk => hbW.block k (by omega)⟩
  ·rw [hT0, hfin]
   simp only [List.map_cons, List.map_nil]
   rw [renTs, renTs]
  ·have hy : y = ((u.heap.size, 0), t, T0) := by simpa using hy
   subst hy
   exact ⟨hm, hf⟩
  ·simp only [List.map_cons, List.map_nil, Tm.sizes, List.length_nil]
   omega
 have HI := Lib.hid hI
 have HT0 := Lib.hid hT0
 have HB := Lib.hid hB
 clear hI hx hm hf hsz hB hR hbW hsW hx0 hr0 hrow0 hfin hT0
 rw [tvV_lit]
 go_enter Tryz.func57, Tryz.ntmps57
 go_upto_region 2 with fail
 rw [← hW]
 clear hW
 go_loopg [5] (t.size) (fun gk v wr => ∃ (Dn : List (Loc × Tm)) (Pd : List (Loc × Tm × Tm)) (seen : List Int), Hid (RnI u B0 (fun _ _ => True) (fun l n => (n, l)) fin T0 (fun _ => False) Dn Pd seen v wr ∧ Tm.sizes (Pd.map (·.2.1)) ≤ gk))
 case atStart => exact ⟨_, _, _, Lib.hid ⟨HI.out, by simp only [List.map_cons, List.map_nil, Tm.sizes]; omega⟩⟩
 case round =>
  obtain ⟨Dn, Pd, seen, HH⟩ := hrel
  clear HI
  obtain _ | ⟨⟨p, t1, T1⟩, Pd⟩ := Pd
  ·obtain ⟨A1, c1, hv⟩ := HH.out.1.row.shape
   simp only [List.reverse_nil, List.map_nil, List.length_nil] at hv
   subst hv
   have hres := HH.out.1.res
   obtain ⟨y, hy1, hy2⟩ : ∃ y : TV, Cells4 wr (u.heap.size, 0) y.k y.n y.s (.slice y.A y.len y.cap) ∧ TermS wr (fun k => okB u.heap.size k ∧ k < wr.heap.size) y T0 := by
    rcases HH.out.1.root with e | ⟨t', e⟩
    ·exact HH.out.1.ren.read T0.size T0 _ (Nat.le_refl _) e
    ·cases e
   have y0 : wr.cell? ⟨u.heap.size, 0, none⟩ = some (.int .i64 y.k) := hy1.c0
   have y1 : wr.cell? ⟨u.heap.size, 1, none⟩ = some (.int .i64 y.n) := hy1.c1
   have y2 : wr.cell? ⟨u.heap.size, 2, none⟩ = some (.string ⟨y.s.toArray⟩) := hy1.c2
   have y3 : wr.cell? ⟨u.heap.size, 3, none⟩ = some (.slice y.A y.len y.cap) := hy1.c3
   obtain ⟨br, hbr⟩ : ∃ br, br = u.heap.size + 1 := ⟨_, rfl⟩
   rw [← hbr] at hres ⊢
   have HC4 := Lib.hid (blk_set4 hres rfl (.int .i64 y.k) (.int .i64 y.n) (.string ⟨y.s.toArray⟩) (.slice y.A y.len y.cap))
   have HFIN : Hid (RenSPost u t (.returned (tvV y)) ((((wr.setCell ⟨br, 0, none⟩ (.int .i64 y.k)).setCell ⟨br, 1, none⟩ (.int .i64 y.n)).setCell ⟨br, 2, none⟩ (.string ⟨y.s.toArray⟩)).setCell ⟨br, 3, none⟩ (.slice y.A y.len y.cap))) := Lib.hid (by
    refine ⟨y, rfl, ?_, ?_⟩
    ·have h2 := hy2
     rw [HT0.out] at h2
     rw [renT_same] at h2
     refine h2.keep (fun k hk => ⟨hk.1.1, ?_⟩) (fun k hk => blk_set4_ne _ _ _ _ (by have := hk.1.2; omega))
     have := hk.2
     simpa using this
    ·have h1 := HH.out.1.fr
     exact (((h1.setCell (p := ⟨br, 0, none⟩) (.inr (by simp only; omega)) _).setCell (p := ⟨br, 1, none⟩) (.inr (by simp only; omega)) _).setCell (p := ⟨br, 2, none⟩) (.inr (by simp only; omega)) _).setCell (p := ⟨br, 3, none⟩) (.inr (by simp only; omega)) _)
   obtain ⟨r0, r1, r2, r3, rf⟩ := four_at hres
   clear hres hy1 hy2 hbr
   go_wp2_with fail
   obtain ⟨z0, z1, z2, z3, -⟩ := four_at HC4.out
   refine ⟨rfl, .agg #[.int .i64 y.k, .int .i64 y.n, .string ⟨y.s.toArray⟩, .slice y.A y.len y.cap], by simp [results, Tryz.results57, go_sem, z0, z1, z2, z3], ?_⟩
   rw [HRR.out]
   exact HFIN.out
  ·have hR := HH.out.1
   obtain ⟨pb, po⟩ := p
   have hloc := hR.ren.loc (pb, po) (List.mem_append_right _ (by simp))
   obtain ⟨x1, hx1, ht1⟩ := hR.ren.pd (pb, po) t1 T1 (List.mem_cons_self ..)
   obtain ⟨hT1, heq1⟩ := hR.top
   obtain ⟨hm1, hf1⟩ := hR.ok _ (List.mem_cons_self ..)
   obtain ⟨k1, k2, k3, k4, k5, -⟩ := ht1.open
   have hlist : (((pb, po), t1, T1) :: Pd).reverse.map (·.1) = Pd.reverse.map (·.1) ++ [(pb, po)] := by simp
   obtain ⟨L, hL⟩ : ∃ L, L = Pd.reverse.map (·.1) := ⟨_, rfl⟩
   have hrow := hR.row
   rw [hlist, ← hL] at hrow
   obtain ⟨gw, cap, rfl, hg0, hg1, hcap, hcs⟩ := hrow.cells encPt_len (by simp)
   have e0 : wr.cell? ⟨gw, L.length, none⟩ = some (.pointer (some ⟨pb, po, none⟩)) := by
    have := (hcs L.length (pb, po) (by simp) 0 _ rfl).1
    simpa using this
   rw [List.length_append, List.length_cons, List.length_nil] at hrow hcap ⊢
   have hfront := Row.front encPt_len hrow
   have hL9 : L.length ≤ 1000000 := by
    have h1 := hR.sz
    rw [List.map_cons, Tm.sizes] at h1
    have h2 := sizes_len2 (Pd.map (·.2.1))
    rw [hL, List.length_map, List.length_reverse]
    rw [List.length_map] at h2
    omega
   obtain ⟨cs0, hcs0⟩ := hloc.2.1
   have hfz : ∀ o, wr.frozen? ⟨pb, o, none⟩ = false := fun o => by simp [World.frozen?, hcs0]
   have q0 : wr.cell? ⟨pb, po, none⟩ = some (.int .i64 x1.k) := hx1.c0
   have q1 : wr.cell? ⟨pb, po + 1, none⟩ = some (.int .i64 x1.n) := hx1.c1
   have q3 : wr.cell? ⟨pb, po + 3, none⟩ = some (.slice x1.A x1.len x1.cap) := hx1.c3
   have hrl : L.length < L.length + 1 := Nat.lt_succ_self _
   have HLOC := Lib.hid hloc
   have HX1 := Lib.hid (And.intro hx1 ht1)
   have HT1 := Lib.hid (And.intro hT1 heq1)
   have HM1 := Lib.hid (And.intro hm1 hf1)
   have HK1 := Lib.hid (And.intro k1 (And.intro k2 (And.intro k3 (And.intro k4 k5))))
   have HFR := Lib.hid hfront
   have HLL := Lib.hid hL
   have HROW := Lib.hid hrow
   clear hR hloc hx1 ht1 hT1 heq1 hm1 hf1 k1 k2 k3 k4 k5 hlist hL hrow hcs hfront hcs0 hg0 hg1
   by_cases hkv : x1.k = 1
   ·have b1 : (x1.k == 1) = true := by rw [hkv]; rfl
    have hvar := may_var HM1.out.1 (HK1.out.1.trans hkv)
    have hl0 : x1.len = 0 := by rw [← HK1.out.2.2.2.1, hvar.2]; rfl
    have b2 : ((x1.len : Int) == 0) = true := by rw [hl0]; rfl
    have hs0 : x1.s = [] := by rw [← HK1.out.2.2.1, hvar.1]
    have hn64 : okI x1.n := by
     have := (WfT.mk HM1.out.1 HM1.out.2).n
     rw [HK1.out.2.1] at this
     exact this
    have hsl9 : seen.length ≤ 100000000 := by have := HH.out.1.sz; omega
    obtain ⟨idx, hidx⟩ : ∃ i, i = ((fun l n => (n, l)) seen x1.n).1 := ⟨_, rfl⟩
    obtain ⟨seen2, hseen2⟩ : ∃ i, i = ((fun l n => (n, l)) seen x1.n).2 := ⟨_, rfl⟩
    have hren : renT (fun l n => (n, l)) seen t1 = (.mk 1 idx [] [], seen2) := by
     obtain ⟨kk, nn, ss, ll⟩ := t1
     obtain ⟨r1, r2, r3, r4, -⟩ := HK1.out
     have r1 : kk = x1.k := r1
     have r2 : nn = x1.n := r2
     obtain ⟨r5, r6⟩ := hvar
     have r5 : ss = [] := r5
     have r6 : ll = [] := r6
     subst r1 r2 r5 r6
     rw [renT, if_pos hkv, hidx, hseen2]
    have HNUM : Hid (Calls Tryz.prog 58 #[.int .i64 x1.n] wr fun e W1 => e = .returned (.int .i64 idx) ∧ (fun (_ : World) (_ : List Int) => True) W1 seen2 ∧ Fr (fun (_ : Nat) => False) wr W1) := Lib.hid (by
     refine (tsame_any wr x1.n).mono ?_
     rintro e W1 ⟨rfl, hb⟩
     exact ⟨by rw [hidx], trivial, Fr.of_below _ hb⟩)
    have HREN := Lib.hid hren
    have HV := Lib.hid (And.intro hkv (And.intro hvar (And.intro hl0 hs0)))
    have HS2 : Hid (seen2.length ≤ seen.length + 1) := Lib.hid (by rw [hseen2]; exact Nat.le_succ _)
    clear hvar hs0 hn64 hsl9 hidx hseen2 hren hkv hl0
    go_wp2_with fail
    refine HNUM.out.mono ?_
    rintro e W1 ⟨rfl, hq1, hf1⟩
    have hnS : ∀ k, TyB wr 28 k → ¬ (fun (_ : Nat) => False) k := fun _ _ e => e
    have hnP : ∀ k, TyB wr 163 k → ¬ (fun (_ : Nat) => False) k := fun _ _ e => e
    have hpb := hf1.block pb HLOC.out.2.1.lt (hnS _ HLOC.out.2.1)
    have hx2 := HX1.out.1.keep hpb
    have hfz1 : ∀ o, W1.frozen? ⟨pb, o, none⟩ = false := fun o => (World.frozen?_of_block (w := wr) (a := ⟨pb, o, none⟩) hpb).trans (hfz o)
    have HFZ := Lib.hid hfz1
    have q1' : W1.cell? ⟨pb, po + 1, none⟩ = some (.int .i64 x1.n) := hx2.c1
    have q3' : W1.cell? ⟨pb, po + 3, none⟩ = some (.slice x1.A x1.len x1.cap) := hx2.c3
    have HNX : Hid (RnI u B0 (fun _ _ => True) (fun l n => (n, l)) fin T0 (fun _ => False) (((pb, po), T1) :: Dn) Pd seen2 (.slice (some ⟨gw, 0, none⟩) L.length cap) ((W1.setCell ⟨pb, po + 1, none⟩ (.int .i64 idx)).setCell ⟨pb, po + 3, none⟩ (.slice none 0 0)) ∧ Tm.sizes (Pd.map (·.2.1)) ≤ gk - 1 ∧ 0 < gk) := Lib.hid (by
     have hBB := HB.out
     have hT := HT1.out.1
     rw [HREN.out] at hT
     have hrest := HT1.out.2
     rw [HREN.out] at hrest
     have hB0u : B0 ≤ u.heap.size := HH.out.1.ren.low
     have hpB : B0 ≤ pb := Nat.le_trans hB0u HLOC.out.1.1
     have huw : u.heap.size ≤ wr.heap.size := HH.out.1.fr.size
     have hown : ∀ k, (Value.slice (some ⟨gw, 0, none⟩) L.length cap).ownBlock = some k → TyB wr 163 k ∧ k ≠ pb := fun k hk => by
      have h1 := HFR.out.ty hk
      exact ⟨h1, fun e => by rw [e] at h1; exact TyB.ne h1 HLOC.out.2.1 (by decide) rfl⟩
     have hset : ∀ k, k ≠ pb → ((W1.setCell ⟨pb, po + 1, none⟩ (.int .i64 idx)).setCell ⟨pb, po + 3, none⟩ (.slice none 0 0)).heap[k]? = W1.heap[k]? := fun k hk => by rw [Below.heap_setCell _ _ _ _ hk, Below.heap_setCell _ _ _ _ hk]
     have h0 := HH.out.1.next (w2 := (W1.setCell ⟨pb, po + 1, none⟩ (.int .i64 idx)).setCell ⟨pb, po + 3, none⟩ (.slice none 0 0)) (((StepW.of_fr hf1 (by omega) (fun _ e => e.elim) (fun k hk e => hnS k e hk) (pb, po)).trans (StepW.set W1 (p := (pb, po)) hpB HLOC.out.2.2 1 (by omega) _)).trans (StepW.set _ (p := (pb, po)) hpB HLOC.out.2.2 3 (by omega) _)) 0 0 (.slice none 0 0) (.slice (some ⟨gw, 0, none⟩) L.length cap) seen2 HS2.out
      (by rw [hT]; exact Nat.zero_le _) (by rw [hT]; have := (hx2.set1 idx).set3 (.slice none 0 0); rw [HV.out.1, HV.out.2.2.2] at this; exact this) (by rw [hT, HV.out.2.1.2]; rfl) (.inl ⟨by rw [hT]; rfl, rfl⟩) (fun e => absurd (by rw [hT]; rfl) e) (fun i hi => by rw [hT] at hi; exact absurd hi (Nat.not_lt_zero _))
      (by
        have : T1.args.length = 0 := by rw [hT]; rfl
        rw [this, ← HLL.out]
        simp only [List.range_zero, List.map_nil, List.reverse_nil, List.append_nil]
        exact HFR.out.keep fun k hk => (hset k (hown k hk).2).trans (hf1.block k (HFR.out.lt k hk).2 (hnP _ (hown k hk).1)))
      trivial
      (((HH.out.1.fr.trans (hf1.mono fun _ _ e => e)).setCell (p := ⟨pb, po + 1, none⟩) (.inr HLOC.out.1.1) _).setCell (p := ⟨pb, po + 3, none⟩) (.inr HLOC.out.1.1) _)
      (by rw [HV.out.2.1.2, hT]; exact hrest)
      (by
        have hbrB : u.heap.size + 1 ≠ pb := fun e => HLOC.out.1.2 e.symm
        rw [hset _ hbrB, hf1.block _ (by have := HH.out.1.big; omega) (hnS _ ⟨_, HH.out.1.res⟩)])
      (by rw [World.size_setCell, World.size_setCell]; exact hf1.size)
     have h1 : T1.args.length = 0 := by rw [hT]; rfl
     rw [h1] at h0
     have h2 := HH.out.2
     rw [List.map_cons, Tm.sizes] at h2
     have h2 : t1.size + Tm.sizes (Pd.map (·.2.1)) ≤ gk := h2
     have h3 := size_pos t1
     exact ⟨h0, by omega, by omega⟩)
    have hgk := HNX.out.2.2
    clear hq1 hf1 hnS hnP hpb hx2 hfz1 q0 q1 q3 hfz e0
    have hfz1 := HFZ.out
    go_wp2_with fail
    go_roundg (gk - 1)
    case rel => exact ⟨_, _, _, Lib.hid ⟨HNX.out.1, HNX.out.2.1⟩⟩
    all_goals omega
   have b1 : (x1.k == 1) = false := beq_eq_false_iff_ne.2 hkv
   by_cases hl0 : x1.len = 0
   ·have b2 : ((x1.len : Int) == 0) = true := by rw [hl0]; rfl
    have hargs : t1.args = [] := List.eq_nil_of_length_eq_zero (by rw [HK1.out.2.2.2.1, hl0])
    have hren : renT (fun l n => (n, l)) seen t1 = (t1, seen) := by
     have hk : t1.k ≠ 1 := by rw [HK1.out.1]; exact hkv
     obtain ⟨kk, nn, ss, ll⟩ := t1
     have r6 : ll = [] := hargs
     subst r6
     rw [renT, if_neg (show ¬ kk = 1 from hk), renTs]
    have HREN := Lib.hid hren
    have HARG := Lib.hid (And.intro hargs hl0)
    have HNX : Hid (RnI u B0 (fun _ _ => True) (fun l n => (n, l)) fin T0 (fun _ => False) (((pb, po), T1) :: Dn) Pd seen (.slice (some ⟨gw, 0, none⟩) L.length cap) (wr.setCell ⟨pb, po + 3, none⟩ (.slice none 0 0)) ∧ Tm.sizes (Pd.map (·.2.1)) ≤ gk - 1 ∧ 0 < gk) := Lib.hid (by
     have hT := HT1.out.1
     rw [hren] at hT
     have hT : T1 = t1 := hT
     have hrest := HT1.out.2
     rw [hren] at hrest
     obtain ⟨r1, r2, r3, r4, r5⟩ := HK1.out
     have hB0u : B0 ≤ u.heap.size := HH.out.1.ren.low
     have hpB : B0 ≤ pb := Nat.le_trans hB0u HLOC.out.1.1
     have hown : ∀ k, (Value.slice (some ⟨gw, 0, none⟩) L.length cap).ownBlock = some k → k ≠ pb := fun k hk e => by
      have h1 := HFR.out.ty hk
      rw [e] at h1
      exact TyB.ne h1 HLOC.out.2.1 (by decide) rfl
     have hset : ∀ k, k ≠ pb → (wr.setCell ⟨pb, po + 3, none⟩ (.slice none 0 0)).heap[k]? = wr.heap[k]? := fun k hk => Below.heap_setCell _ _ _ _ hk
     have hc := HX1.out.1.set3 (.slice none 0 0)
     rw [← r1, ← r2, ← r3, ← hT] at hc
     have h0 := HH.out.1.next (w2 := wr.setCell ⟨pb, po + 3, none⟩ (.slice none 0 0)) (StepW.set wr (p := (pb, po)) hpB HLOC.out.2.2 3 (by omega) _) 0 0 (.slice none 0 0) (.slice (some ⟨gw, 0, none⟩) L.length cap) seen (Nat.le_succ _)
      (by rw [hT, r3]; exact r5) hc (by rw [hT]) (.inl ⟨by rw [hT]; exact hargs, rfl⟩) (fun e => absurd (by rw [hT]; exact hargs) e) (fun i hi => by rw [hT, hargs] at hi; exact absurd hi (Nat.not_lt_zero _))
      (by
        have : T1.args.length = 0 := by rw [hT, hargs]; rfl
        rw [this, ← HLL.out]
        simp only [List.range_zero, List.map_nil, List.reverse_nil, List.append_nil]
        exact HFR.out.keep fun k hk => hset k (hown k hk))
      trivial
      (HH.out.1.fr.setCell (p := ⟨pb, po + 3, none⟩) (.inr HLOC.out.1.1) _)
      (by rw [hT, hargs]; exact hrest)
      (hset _ fun e => HLOC.out.1.2 e.symm)
      (by rw [World.size_setCell]; exact Nat.le_refl _)
     have h1 : T1.args.length = 0 := by rw [hT, hargs]; rfl
     rw [h1] at h0
     have h2 := HH.out.2
     rw [List.map_cons, Tm.sizes] at h2
     have h2 : t1.size + Tm.sizes (Pd.map (·.2.1)) ≤ gk := h2
     have h3 := size_pos t1
     exact ⟨h0, by omega, by omega⟩)
    have hgk := HNX.out.2.2
    have hfz3 := hfz (po + 3)
    clear hargs hren hl0 hkv
    go_wp2_with fail
    go_roundg (gk - 1)
    case rel => exact ⟨_, _, _, Lib.hid ⟨HNX.out.1, HNX.out.2.1⟩⟩
    all_goals omega
   have b2 : ((x1.len : Int) == 0) = false := beq_eq_false_iff_ne.2 (by omega)
   obtain ⟨nA, hnA⟩ : ∃ n, n = x1.len := ⟨_, rfl⟩
   have hn0 : 0 < nA := by omega
   obtain ⟨xs, ab, ao, hxs, hAe, hab, hsrc, htms⟩ := args_of HX1.out.2 (by omega)
   rw [← hnA] at hxs
   have hn255 : nA ≤ 1000000 := by
    have h1 := HH.out.1.sz
    rw [List.map_cons, Tm.sizes] at h1
    have h1 : seen.length + (t1.size + Tm.sizes (Pd.map (·.2.1))) ≤ 1000000 := h1
    have h2 := size_args t1
    have h3 := sizes_len2 t1.args
    have h4 := HK1.out.2.2.2.1
    omega
   obtain ⟨g, hg⟩ : ∃ g, g = wr.heap.size := ⟨_, rfl⟩
   have hmk := run_terms wr nA hn255
   obtain ⟨V0, hV0⟩ : ∃ V, V = wr.alloc (.cells ((List.replicate nA zTV).flatMap encTV).toArray 28) := ⟨_, rfl⟩
   obtain ⟨V1, hV1⟩ : ∃ V, V = wr.alloc (.cells (xs.flatMap encTV).toArray 28) := ⟨_, rfl⟩
   rw [← hV0, ← hg] at hmk
   have hcp : (Builtin.copy_ #[26, 26] 3 #[.slice (some ⟨g, 0, none⟩) nA nA, .slice (some ⟨ab, ao, none⟩) nA x1.cap]).run Tryz.prog V0 = .ok (.int .i64 (nA : Int)) V1 := by
    obtain ⟨i0, z0, t1', t2', t3', t4', t5'⟩ := term_info
    have hcl : (xs.flatMap encTV).length = nA * 4 := by rw [flat_len4, hxs]
    have hzl : (((List.replicate nA zTV).flatMap encTV).toArray).size = nA * 4 := by rw [List.size_toArray, flat_len4, List.length_replicate]
    have := run_copy_rows (P := Tryz.prog) V0 26 26 3 28 4 g nA nA ⟨ab, ao, none⟩ nA x1.cap ((List.replicate nA zTV).flatMap encTV).toArray 28 (xs.flatMap encTV) Tryz.underlying26 (by rw [t1', Option.map_some, t3'])
     (by rw [hV0, hg]; exact heap_alloc_new _ _) (by rw [hcl, show Nat.min nA nA = nA from Nat.min_self nA]) (fun j v hv => ?_) (by rw [hcl, hzl]; exact Nat.le_refl _) (fun v hv => by
       rw [List.mem_flatMap] at hv
       obtain ⟨y, -, hy⟩ := hv
       exact encTV_one y v hy)
    ·rw [this, show Nat.min nA nA = nA from Nat.min_self nA]
     congr 1
     rw [hV0, hV1, hg, hcl, List.drop_of_length_le (by rw [Array.length_toList, hzl]; exact Nat.le_refl _), List.append_nil]
     exact setRow_new wr _ _ _
    ·obtain ⟨y, y1, y2⟩ := flat4 xs j v hv
     have := hsrc (j / 4) y y1 (j % 4) v y2
     rw [addr_add, hV0, World.cell?_of_block (w := wr) (a := ⟨ab, ao + j, none⟩) (Below.heap_alloc _ _ _ (by have := HH.out.1.fr.size; have := HH.out.1.ren.low; simp only; omega))]
     rwa [show ao + j / 4 * 4 + j % 4 = ao + j by omega] at this
   obtain ⟨V2, hV2⟩ : ∃ V, V = V1.setCell ⟨pb, po + 3, none⟩ (.slice (some ⟨g, 0, none⟩) nA nA) := ⟨_, rfl⟩
   have hpbl : pb < wr.heap.size := HLOC.out.2.1.lt
   have hV0s : pb < V0.heap.size := by rw [hV0]; simp; omega
   have hV1s : V1.heap.size = wr.heap.size + 1 := by rw [hV1]; simp
   have hV1o : ∀ k, k < wr.heap.size → V1.heap[k]? = wr.heap[k]? := fun k hk => by rw [hV1]; exact Below.heap_alloc _ _ _ hk
   have hV0o : ∀ k, k < wr.heap.size → V0.heap[k]? = wr.heap[k]? := fun k hk => by rw [hV0]; exact Below.heap_alloc _ _ _ hk
   have hg1 : V1.heap[g]? = some (.cells (xs.flatMap encTV).toArray 28 (0, 0)) := by rw [hV1, hg]; exact heap_alloc_new _ _
   have q3' : V0.cell? ⟨pb, po + 3, none⟩ = some (.slice x1.A x1.len x1.cap) := (World.cell?_of_block (w := wr) (a := ⟨pb, po + 3, none⟩) (hV0o pb hpbl)).trans q3
   have q3'' : V1.cell? ⟨pb, po + 3, none⟩ = some (.slice x1.A x1.len x1.cap) := (World.cell?_of_block (w := wr) (a := ⟨pb, po + 3, none⟩) (hV1o pb hpbl)).trans q3
   have hfz1 : V1.frozen? ⟨pb, po + 3, none⟩ = false := (World.frozen?_of_block (w := wr) (a := ⟨pb, po + 3, none⟩) (hV1o pb hpbl)).trans (hfz _)
   have hw1 : IntKind.i64.wrap ((nA : Int) - 1) = (nA : Int) - 1 := IntWalk.i64_in _ (by omega)
   rw [hAe, ← hnA] at q3 q3' q3''
   rw [← hnA] at b2
   have hgw := HFR.out.ty (g := gw) rfl
   have hgwB := (HFR.out.lt gw rfl).1
   have hgne : gw ≠ pb := fun e => by have h1 := hgw; rw [e] at h1; exact TyB.ne h1 HLOC.out.2.1 (by decide) rfl
   have hgw2 : TyB V2 163 gw := by rw [hV2]; exact (hgw.keep (hV1o gw hgw.lt)).set _ _ _
   have hrow2 : Row V2 u.heap.size 163 1 encPt (.slice (some ⟨gw, 0, none⟩) L.length cap) L := HFR.out.keep fun k hk => by
    have hk : gw = k := by simpa [Value.ownBlock] using hk
    subst hk
    rw [hV2, Below.heap_setCell _ _ _ _ hgne]
    exact hV1o _ hgw.lt
   have HROW2 := Lib.hid hrow2
   have HCP := Lib.hid hcp
   have HN := Lib.hid (And.intro hnA (And.intro hxs (And.intro hn255 (And.intro hg hAe))))
   have HSRC := Lib.hid htms
   have HVV := Lib.hid (And.intro hV1o (And.intro hg1 (And.intro hV1s hV2)))
   have HGW := Lib.hid (And.intro hgw (And.intro hgwB (And.intro hgne hgw2)))
   have HV1 := Lib.hid hV1
   have HKV := Lib.hid (And.intro hkv hl0)
   have hn1 : nA ≤ 1000000 := hn255
   clear hnA hxs hAe hab hsrc htms hn255 hcp hV1o hV0o hg1 hV1s hrow2 hgw hgwB hgne hgw2 hkv hl0 hpbl
   go_upto_region 10 with fail
   rw [← HN.out.2.2.2.1, ← hV0]
   clear hV0 hmk hg hV1 hV2
   have hcp := HCP.out
   go_wp2_with fail
   clear hcp
   rw [← HVV.out.2.2.2]
   clear q0 q1 q3 q3' q3'' hfz hfz1 hV0s e0
   go_loopw [5, 8] (fun v i wi => ∃ (j gq cq : Nat), j ≤ nA ∧ i = .int .i64 ((j : Int) - 1) ∧ v = .slice (some ⟨gq, 0, none⟩) (L.length + (nA - j)) cq ∧ Hid (Row wi u.heap.size 163 1 encPt v (L ++ psh g nA j) ∧ Fr (fun k => k = gw) V2 wi ∧ (gq = gw ∨ V2.heap.size ≤ gq))) (fun _ i _ => (intOf i + 1).toNat)
   case atStart => exact ⟨nA, gw, cap, Nat.le_refl _, rfl, by rw [Nat.sub_self, Nat.add_zero], Lib.hid ⟨by rw [psh_none, List.append_nil]; exact HROW2.out, Fr.refl _ _, .inl rfl⟩⟩
   case round =>
    obtain ⟨wl, rfl⟩ : ∃ wl : World, wl = wr := ⟨_, rfl⟩
    obtain ⟨j, gq, cq, hj, rfl, rfl, HJ⟩ := hrel
    obtain _ | j := j
    ·have HNX : Hid (RnI u B0 (fun _ _ => True) (fun l n => (n, l)) fin T0 (fun _ => False) (((pb, po), T1) :: Dn) ((List.range T1.args.length).map (fun i => ((g, i * 4), t1.args.getD i noTm, T1.args.getD i noTm)) ++ Pd) seen (.slice (some ⟨gq, 0, none⟩) (L.length + (nA - 0)) cq) wl ∧ Tm.sizes (((List.range T1.args.length).map (fun i => (((g, i * 4), t1.args.getD i noTm, T1.args.getD i noTm) : Loc × Tm × Tm)) ++ Pd).map (·.2.1)) ≤ gk - 1 ∧ 0 < gk) := Lib.hid (by
      obtain ⟨r1, r2, r3, r4, r5⟩ := HK1.out
      obtain ⟨hnA, hxs, -, hg, hAe⟩ := HN.out
      obtain ⟨hV1o, hg1, hV1s, hV2⟩ := HVV.out
      obtain ⟨hgw, hgwB, hgne, hgw2⟩ := HGW.out
      obtain ⟨hrowJ, hfrJ, -⟩ := HJ.out
      have hk : t1.k ≠ 1 := by rw [r1]; exact HKV.out.1
      have hren : renT (fun l n => (n, l)) seen t1 = (.mk t1.k t1.n t1.s (renTs (fun l n => (n, l)) seen t1.args).1, (renTs (fun l n => (n, l)) seen t1.args).2) := by
       obtain ⟨kk, nn, ss, ll⟩ := t1
       rw [renT, if_neg (show ¬ kk = 1 from hk)]
       rfl
      have hT := HT1.out.1
      rw [hren] at hT
      have hT : T1 = .mk t1.k t1.n t1.s (renTs (fun l n => (n, l)) seen t1.args).1 := hT
      have hrest := HT1.out.2
      rw [hren] at hrest
      have hTa : T1.args = (renTs (fun l n => (n, l)) seen t1.args).1 := by rw [hT]; rfl
      have hTl : T1.args.length = t1.args.length := by rw [hTa, renTs_len]
      have hTn : T1.args.length = nA := by rw [hTl, r4, hnA]
      have hpbl : pb < wr.heap.size := HLOC.out.2.1.lt
      have hB0u : B0 ≤ u.heap.size := HH.out.1.ren.low
      have hpB : B0 ≤ pb := Nat.le_trans hB0u HLOC.out.1.1
      have huw : u.heap.size ≤ wr.heap.size := HH.out.1.fr.size
      have hV2o : ∀ k, k ≠ pb → V2.heap[k]? = V1.heap[k]? := fun k hk => by rw [hV2]; exact Below.heap_setCell _ _ _ _ hk
      have hV2s : V2.heap.size = V1.heap.size := by rw [hV2, World.size_setCell]
      have hJo : ∀ k, k < V2.heap.size → k ≠ gw → wl.heap[k]? = V2.heap[k]? := fun k h1 h2 => hfrJ.block k h1 h2
      have hst : StepW wr wl B0 (pb, po) := by
       refine StepW.trans (w' := V1) ?_ (StepW.trans (w' := V2) ?_ ?_)
       ·exact ⟨fun q _ _ _ _ _ _ e3 hc => hc.keep (hV1o _ e3.lt), fun k hk => hk.keep (hV1o _ hk.lt), fun k hk => hV1o k (by omega)⟩
       ·rw [hV2]
        exact StepW.set V1 (p := (pb, po)) hpB HLOC.out.2.2 3 (by omega) _
       ·exact StepW.of_fr hfrJ (by omega) (fun k e => by omega) (fun k e h => by rw [e] at h; exact TyB.ne hgw2 h (by decide) rfl) _
      have V1os : V1.os = wr.os ∧ V1.tape = wr.tape ∧ V1.output = wr.output := by rw [HV1.out]; exact ⟨rfl, rfl, rfl⟩
      have hgl : wl.heap[g]? = some (.cells (xs.flatMap encTV).toArray 28 (0, 0)) := by
       rw [hJo g (by omega) (fun e => by have := hgw.lt; omega), hV2o g (by omega)]
       exact hg1
      have hc0 : Cells4 V1 (pb, po) x1.k x1.n x1.s (.slice x1.A x1.len x1.cap) := HX1.out.1.keep (hV1o pb hpbl)
      have hc := hc0.set3 (.slice (some ⟨g, 0, none⟩) nA nA)
      have hc' : Cells4 V2 (pb, po) x1.k x1.n x1.s (.slice (some ⟨g, 0, none⟩) nA nA) := by rw [hV2]; exact hc
      have hcl := hc'.keep (hJo pb (by rw [hV2s]; omega) (fun e => hgne e.symm))
      have e1 : T1.k = x1.k := by rw [hT]; exact r1
      have e2 : T1.n = x1.n := by rw [hT]; exact r2
      have e3 : T1.s = x1.s := by rw [hT]; exact r3
      rw [← e1, ← e2, ← e3] at hcl
      have h0 := HH.out.1.next hst g nA (.slice (some ⟨g, 0, none⟩) nA nA) (.slice (some ⟨gq, 0, none⟩) (L.length + (nA - 0)) cq) seen (Nat.le_succ _)
       (by rw [e3]; exact r5) hcl hTl (.inr (by rw [hTn])) (fun _ => ⟨⟨by omega, fun e => by have := HH.out.1.big; omega⟩, ⟨_, hgl⟩, fun q hq e => by have := hq.lt; omega⟩)
       (fun i hi => by
         obtain ⟨y, hy⟩ : ∃ y, xs[i]? = some y := ⟨_, List.getElem?_eq_getElem (by omega)⟩
         refine ⟨y, ?_, ((HSRC.out i y hy).keep (Nat.le_refl _) fun k hk => hst.low k hk)⟩
         have hcell : ∀ j u, (encTV y)[j]? = some u → wl.cell? ⟨g, i * 4 + j, none⟩ = some u := fun j u hu => by
          rw [cell_of_row wl g (i * 4 + j) _ _ (0, 0) hgl]
          have := flatMap_get encTV_len xs i j y u hy hu
          simpa using this
         exact ⟨hcell 0 _ rfl, hcell 1 _ rfl, hcell 2 _ rfl, hcell 3 _ rfl⟩)
       (by
         rw [hTn, ← HLL.out]
         rw [psh_all] at hrowJ
         exact hrowJ)
       trivial
       (Fr.beyond (Fr.beyond HH.out.1.fr (Fr.refl (fun _ => False) wr) (fun _ e => e.elim)) (⟨by rw [hfrJ.os, hV2]; exact V1os.1, by rw [hfrJ.tape, hV2]; exact V1os.2.1, by rw [hfrJ.output, hV2]; exact V1os.2.2, by have := hfrJ.size; omega, fun k hk hn => by
         have h1 : k ≠ pb := fun e => hn (.inl e)
         have h2 : k ≠ gw := fun e => hn (.inr e)
         rw [hJo k (by omega) h2, hV2o k h1]
         exact hV1o k hk⟩ : Fr (fun k => k = pb ∨ k = gw) wr wl) (fun k e => by
         rcases e with e | e
         ·rw [e]; exact HLOC.out.1.1
         ·rw [e]; exact hgwB))
       (by rw [hTa, renTs_app, hrest])
       (by
         have hb1 : u.heap.size + 1 ≠ pb := fun e => HLOC.out.1.2 e.symm
         have hb2 : u.heap.size + 1 ≠ gw := fun e => by have h1 := hgw; rw [← e] at h1; exact TyB.ne h1 ⟨_, HH.out.1.res⟩ (by decide) rfl
         have hb3 := HH.out.1.big
         rw [hJo _ (by omega) hb2, hV2o _ hb1]
         exact hV1o _ (by omega))
       (by have := hfrJ.size; omega)
      have h2 := HH.out.2
      rw [List.map_cons, Tm.sizes] at h2
      have h2 : t1.size + Tm.sizes (Pd.map (·.2.1)) ≤ gk := h2
      have h3 := size_args t1
      refine ⟨h0, ?_, by omega⟩
      rw [List.map_append, sizes_cat, List.map_map, hTl]
      have h5 : ((List.range t1.args.length).map ((fun x : Loc × Tm × Tm => x.2.1) ∘ fun i => ((g, i * 4), t1.args.getD i noTm, T1.args.getD i noTm))) = t1.args := getD_map t1.args noTm
      rw [h5]
      omega)
     have hgk := HNX.out.2.2
     go_wp2_with fail
     go_roundg (gk - 1)
     case rel => exact ⟨_, _, _, Lib.hid ⟨HNX.out.1, HNX.out.2.1⟩⟩
     all_goals omega
    ·have hw2 : IntKind.i64.wrap ((((j + 1 : Nat) : Int) - 1) - 1) = (j : Int) - 1 := by rw [show (((j + 1 : Nat) : Int) - 1) - 1 = (j : Int) - 1 by omega]; exact IntWalk.i64_in _ (by omega)
     have hi0 : (((j + 1 : Nat) : Int) - 1) = (j : Int) := by omega
     rw [hi0] at hw2 ⊢
     have hge : decide ((0 : Int) ≤ (j : Int)) = true := by simp
     obtain ⟨i0, z0, p1, p2, p3, p4, p5⟩ := ptr_info
     have HIN := Lib.hid (And.intro p1 (And.intro p2 (And.intro p3 (And.intro p4 p5))))
     clear p1 p2 p3 p4 p5 hi0
     obtain ⟨lq, hlq⟩ : ∃ n, n = L.length + (nA - (j + 1)) := ⟨_, rfl⟩
     have HLQ : Hid (lq = L.length + (nA - (j + 1)) ∧ lq = (L ++ psh g nA (j + 1)).length ∧ lq + 1 = L.length + (nA - j) ∧ lq ≤ 3000000) := Lib.hid (by rw [List.length_append, psh_len]; omega)
     rw [← hlq] at HJ ⊢
     clear hlq
     have HJA : Hid (Row wl u.heap.size 163 1 encPt (.slice (some ⟨gq, 0, none⟩) lq cq) (L ++ psh g nA (j + 1))) := Lib.hid HJ.out.1
     have HU := Lib.hid (show u.heap.size ≤ wl.heap.size from by have h1 := HJ.out.2.1.size; have h2 := HVV.out.2.2.1; have h3 := HH.out.1.fr.size; have h4 : V2.heap.size = V1.heap.size := (by rw [HVV.out.2.2.2, World.size_setCell]); omega)
     go_wp2_with (at_builtin; refine wpList_row_lies rfl _ _ 164 rfl _ u.heap.size 163 i0 z0 1 8 encPt Tryz.underlying164 HIN.out.1 HIN.out.2.1 HIN.out.2.2.1 HIN.out.2.2.2.1 HIN.out.2.2.2.2 (by decide) encPt_len encPt_one (.slice (some ⟨gq, 0, none⟩) lq cq) (L ++ psh g nA (j + 1)) (g, j * 4) rfl (HJA.out.alloc _) _ _ rfl (fun j1 u1 hu => fresh_ptS _ _ _ j1 u1 hu) (by have := HLQ.out; unfold maxLen; omega) (by have := HLQ.out; omega) (by have := HU.out; simp; omega) ?_; intro g5 cap5 w5 hR5 hg5 hl5; have HR5 := Lib.hid hR5; have HG5 := Lib.hid hg5; have HL5 := Lib.hid hl5; clear hR5 hg5 hl5)
     have HNX : Hid (Row w5 u.heap.size 163 1 encPt (.slice (some ⟨g5, 0, none⟩) (L.length + (nA - j)) cap5) (L ++ psh g nA j) ∧ Fr (fun k => k = gw) V2 w5 ∧ (g5 = gw ∨ V2.heap.size ≤ g5) ∧ (L ++ psh g nA (j + 1)).length + 1 = L.length + (nA - j)) := Lib.hid (by
      obtain ⟨q1, q2, q3, q4⟩ := HLQ.out
      obtain ⟨j1, j2, j3⟩ := HJ.out
      have hR := HR5.out
      have hl := HL5.out
      rw [← q2, q3, List.append_assoc, ← psh_step g nA j (by omega)] at hR
      refine ⟨hR, ?_, ?_, by omega⟩
      ·refine (Fr.alloc j2 _).grown HG5.out fun q e => ?_
       have e : gq = q := by simpa [Value.ownBlock] using e
       rcases j3 with e2 | e2
       ·exact .inl (by omega)
       ·exact .inr (by omega)
      ·rcases hl with e | e
       ·have e : gq = g5 := by simpa [Value.ownBlock] using e
        rw [← e]
        exact j3
       ·right
        have := j2.size
        rw [World.size_alloc] at e
        omega)
     have hln : L.length + (psh g nA (j + 1)).length + 1 = L.length + (nA - j) := by have := HNX.out.2.2.2; rwa [List.length_append] at this
     go_wp2_with fail
     rw [hln]
     clear hln
     exact ⟨⟨j, g5, cap5, by omega, rfl, rfl, Lib.hid ⟨HNX.out.1, HNX.out.2.1, HNX.out.2.2.1⟩⟩, by simp only [intOf]; omega⟩
def CopyOk (t : Tm) : Prop := t.may = true ∧ t.fits = true ∧ t.size ≤ 1000000
def TlS (u : World) (b5 : Nat) (wr : World) (b : Nat) : Prop := u.heap.size + 2 ≤ b ∧ b ≠ b5 ∧ b < wr.heap.size
structure TlInv (u : World) (b5 : Nat) (l : List Tm) (tl : Tm) (a : Nat) (wr : World) (y' : TV) : Prop where
 t : TermS wr (TlS u b5 wr) y' (listT (l.drop a) tl)
 below : Below u.heap.size u wr
 here : wr.heap[b5]? = some (.cells #[.int .i64 y'.k, .int .i64 y'.n, .string ⟨y'.s.toArray⟩, .slice y'.A y'.len y'.cap] 28 (0, 0))
 res : wr.heap[u.heap.size + 1]? = some (.cells #[.int .i64 0, .int .i64 0, .string ⟨#[]⟩, .slice none 0 0] 28 (0, 0))
 b5 : u.heap.size + 2 ≤ b5
theorem TlInv.drew {u : World} {b5 : Nat} {l : List Tm} {tl : Tm} {a : Nat} {wr : World} {y' : TV} (h : TlInv u b5 l tl a wr y') : TlInv u b5 l tl a wr.drew y' :=
 ⟨h.t.keep (fun _ hb => hb) fun _ _ => rfl, h.below.drew, h.here, h.res, h.b5⟩
theorem TlInv.round {u wr V : World} {b5 : Nat} {l : List Tm} {tl : Tm} {a : Nat} {y' ya : TV} {ta : Tm} (h : TlInv u b5 l tl (a + 1) wr y') (hV : Fr (fun _ => False) wr V) (hl : l[a]? = some ta) (hya : TermS V (newB wr.heap.size V) ya ta) :
    TlInv u b5 l tl a (((((V.alloc (.cells #[.int .i64 ya.k, .int .i64 ya.n, .string ⟨ya.s.toArray⟩, .slice ya.A ya.len ya.cap, .int .i64 y'.k, .int .i64 y'.n, .string ⟨y'.s.toArray⟩, .slice y'.A y'.len y'.cap] 28)).setCell ⟨b5, 0, none⟩ (.int .i64 4)).setCell ⟨b5, 1, none⟩ (.int .i64 0)).setCell
     ⟨b5, 2, none⟩ (.string ⟨#[46]⟩)).setCell ⟨b5, 3, none⟩ (.slice (some ⟨V.heap.size, 0, none⟩) 2 2)) ⟨4, 0, [46], some ⟨V.heap.size, 0, none⟩, 2, 2⟩ := by
 have hlt : b5 < wr.heap.size := (Array.getElem?_eq_some_iff.1 h.here).1
 have hb5 := h.b5
 have hal : a < l.length := (List.getElem?_eq_some_iff.1 hl).1
 have e1 : l.drop a = ta :: l.drop (a + 1) := by
  rw [List.drop_eq_getElem_cons hal]
  have := (List.getElem?_eq_some_iff.1 hl).2
  rw [this]
 have hsV := hV.size
 have hoV : ∀ k, k < wr.heap.size → V.heap[k]? = wr.heap[k]? := fun k hk => hV.block k hk fun e => e
 obtain ⟨w2, hw2⟩ : ∃ w2, w2 = V.alloc (.cells #[.int .i64 ya.k, .int .i64 ya.n, .string ⟨ya.s.toArray⟩, .slice ya.A ya.len ya.cap, .int .i64 y'.k, .int .i64 y'.n, .string ⟨y'.s.toArray⟩, .slice y'.A y'.len y'.cap] 28) := ⟨_, rfl⟩
 have hsz : w2.heap.size = V.heap.size + 1 := by rw [hw2]; simp
 have hold : ∀ k, k < V.heap.size → w2.heap[k]? = V.heap[k]? := fun k hk => by rw [hw2]; exact Below.heap_alloc _ _ _ hk
 have hnew : w2.heap[V.heap.size]? = some (.cells #[.int .i64 ya.k, .int .i64 ya.n, .string ⟨ya.s.toArray⟩, .slice ya.A ya.len ya.cap, .int .i64 y'.k, .int .i64 y'.n, .string ⟨y'.s.toArray⟩, .slice y'.A y'.len y'.cap] 28 (0, 0)) := by rw [hw2]; exact heap_alloc_new V _
 have hbs := h.below.size
 have hbV : Below u.heap.size u V := h.below.trans ((hV.below (B := u.heap.size) hbs fun _ _ e => e))
 have hb2 : Below u.heap.size u w2 := by rw [hw2]; exact hbV.alloc hbV.size _
 rw [← hw2]
 clear hw2
 have hS : ∀ b, TlS u b5 wr b → TlS u b5 w2 b ∧ w2.heap[b]? = wr.heap[b]? := fun b hb => by
  obtain ⟨h1, h2, h3⟩ := hb
  exact ⟨⟨h1, h2, by omega⟩, (hold b (by omega)).trans (hoV b h3)⟩
 have hS0 : ∀ b, newB wr.heap.size V b → TlS u b5 w2 b ∧ w2.heap[b]? = V.heap[b]? := fun b hb => by
  obtain ⟨h1, h2⟩ := hb
  exact ⟨⟨by omega, by omega, by omega⟩, hold b h2⟩
 have ht : TermS w2 (TlS u b5 w2) ⟨4, 0, [46], some ⟨V.heap.size, 0, none⟩, 2, 2⟩ (compT [46] [ta, listT (l.drop (a + 1)) tl]) := by
  have h2 : TermsS w2 (TlS u b5 w2) ([] ++ [ya] ++ [y']) ([] ++ [ta] ++ [listT (l.drop (a + 1)) tl]) := ((TermsS.nil _ _).snoc (hya.step hS0)).snoc (h.t.step hS)
  exact TermsS.block h2 hnew ⟨by omega, by omega, by omega⟩ [46] (by unfold maxLen; simp) 4 0 2
 have hW : ∀ k, k ≠ b5 → (((((w2.setCell ⟨b5, 0, none⟩ (.int .i64 4)).setCell ⟨b5, 1, none⟩ (.int .i64 0)).setCell ⟨b5, 2, none⟩ (.string ⟨#[46]⟩)).setCell ⟨b5, 3, none⟩ (.slice (some ⟨V.heap.size, 0, none⟩) 2 2))).heap[k]? = w2.heap[k]? :=
  fun k hk => blk_set4_ne _ _ _ _ hk
 refine ⟨?_, ?_, ?_, ?_, hb5⟩
 ·rw [e1, listT_cons]
  exact ht.step fun b hb => ⟨⟨hb.1, hb.2.1, by simpa using hb.2.2⟩, hW b hb.2.1⟩
 ·exact (((hb2.setCell (p := ⟨b5, 0, none⟩) (by simp only; omega) _).setCell (p := ⟨b5, 1, none⟩) (by simp only; omega) _).setCell (p := ⟨b5, 2, none⟩) (by simp only; omega) _).setCell (p := ⟨b5, 3, none⟩) (by simp only; omega) _
 ·exact blk_set4 ((hold _ (by omega)).trans ((hoV _ hlt).trans h.here)) rfl _ _ _ _
 ·rw [hW _ (by omega), hold _ (by omega), hoV _ (by omega)]
  exact h.res
set_option maxHeartbeats 8000000 in
theorem tlist_any (u : World) (A : Option Addr) (n c : Nat) (s : List UInt8) (l : List Tm) (hx : TermAt u u.heap.size ⟨4, 0, s, A, n, c⟩ (.mk 4 0 s l)) (hok : ∀ t ∈ l, CopyOk t) (y : TV) (tl : Tm) (hy : TermAt u u.heap.size y tl) (hyo : CopyOk tl) (hn : n ≤ 1000000) :
    Calls Tryz.prog 25 #[.slice A n c, tvV y] u fun e u' => ∃ y', e = .returned (tvV y') ∧ TermAt u' u'.heap.size y' (listT l tl) ∧ Below u.heap.size u u' := by
 obtain ⟨-, -, -, hln, -, hel⟩ := hx.open
 have hln : l.length = n := hln
 have HX := Lib.hid hel
 have HOK := Lib.hid hok
 have HY := Lib.hid (And.intro hy hyo)
 have hw0 : IntKind.i64.wrap ((n : Int) - 1) = (n : Int) - 1 := IntWalk.i64_in _ (by omega)
 clear hx hel hok hy hyo
 unfold tvV
 go_enter Tryz.func25, Tryz.ntmps25
 go_wp2_with fail
 obtain ⟨W, hW⟩ : ∃ W, W = (u.alloc (.cells #[.int .i64 y.k, .int .i64 y.n, .string ⟨y.s.toArray⟩, .slice y.A y.len y.cap] 28)).alloc (.cells #[.int .i64 0, .int .i64 0, .string ⟨#[]⟩, .slice none 0 0] 28) := ⟨_, rfl⟩
 rw [← hW]
 have hbW : Below u.heap.size u W := by rw [hW]; exact ((Below.refl _ _).alloc (Nat.le_refl _) _).alloc (by simp) _
 have hsW : W.heap.size = u.heap.size + 2 := by rw [hW]; simp
 have hrW : W.heap[u.heap.size + 1]? = some (.cells #[.int .i64 0, .int .i64 0, .string ⟨#[]⟩, .slice none 0 0] 28 (0, 0)) := by
  have := heap_alloc_new (u.alloc (.cells #[.int .i64 y.k, .int .i64 y.n, .string ⟨y.s.toArray⟩, .slice y.A y.len y.cap] 28)) (.cells #[.int .i64 0, .int .i64 0, .string ⟨#[]⟩, .slice none 0 0] 28)
  rw [hW]
  simpa using this
 clear hW
 have hcall := rename_same W u.heap.size y tl (HY.out.1.blw hbW) HY.out.2.1 HY.out.2.2.1 HY.out.2.2.2 hbW.size
 rw [tvV_lit] at hcall
 refine hcall.mono ?_
 intro e V hp
 obtain ⟨z, rfl, hz, hfr⟩ := hp
 rw [tvV_lit]
 have hsV := hfr.size
 have h0 : TlInv u V.heap.size l tl n (V.alloc (.cells #[.int .i64 z.k, .int .i64 z.n, .string ⟨z.s.toArray⟩, .slice z.A z.len z.cap] 28)) z := by
  refine ⟨?_, ?_, heap_alloc_new V _, ?_, by omega⟩
  ·rw [show l.drop n = [] by rw [← hln, List.drop_length]]
   exact hz.step fun b hb => ⟨⟨by have := hb.1; omega, by have := hb.2; omega, by have := hb.2; simp; omega⟩, Below.heap_alloc _ _ _ hb.2⟩
  ·have h1 : Below u.heap.size u V := hbW.trans (hfr.below hbW.size fun _ _ e => e)
   exact h1.alloc h1.size _
  ·rw [Below.heap_alloc _ _ _ (by omega), hfr.block _ (by omega) fun e => e]
   exact hrW
 have H0 := Lib.hid h0
 clear h0 hcall hfr hsV hbW hsW hrW
 go_upto_region 2 with fail
 generalize V.heap.size = b5 at H0 ⊢
 generalize V.alloc (.cells #[.int .i64 z.k, .int .i64 z.n, .string ⟨z.s.toArray⟩, .slice z.A z.len z.cap] 28) = V0 at H0 ⊢
 clear hz
 go_wp2_with fail
 go_loopw [6] (fun i wr => ∃ a, a ≤ n ∧ i = .int .i64 ((a : Int) - 1) ∧ Hid (∃ y', TlInv u b5 l tl a wr y')) (fun i _ => (intOf i + 1).toNat)
 case atStart => exact ⟨n, Nat.le_refl _, rfl, Lib.hid ⟨_, H0.out⟩⟩
 case round =>
  obtain ⟨a, ha, rfl, HR⟩ := hrel
  obtain ⟨y', hI⟩ := HR.out
  have HI := Lib.hid hI
  have hlt : b5 < wr.heap.size := (Array.getElem?_eq_some_iff.1 hI.here).1
  have hb5 := hI.b5
  obtain ⟨d0, d1, d2, d3, df⟩ := four_at hI.here
  obtain ⟨r0, r1, r2, r3, rf⟩ := four_at hI.res
  clear hI HR
  obtain _ | a := a
  ·go_wp2_with fail
   have hF : Below u.heap.size u ((((wr.setCell ⟨u.heap.size + 1, 0, none⟩ (.int .i64 y'.k)).setCell ⟨u.heap.size + 1, 1, none⟩ (.int .i64 y'.n)).setCell ⟨u.heap.size + 1, 2, none⟩ (.string ⟨y'.s.toArray⟩)).setCell ⟨u.heap.size + 1, 3, none⟩ (.slice y'.A y'.len y'.cap)) :=
    (((HI.out.below.setCell (p := ⟨u.heap.size + 1, 0, none⟩) (by simp) _).setCell (p := ⟨u.heap.size + 1, 1, none⟩) (by simp) _).setCell (p := ⟨u.heap.size + 1, 2, none⟩) (by simp) _).setCell (p := ⟨u.heap.size + 1, 3, none⟩) (by simp) _
   refine bodyPost_ret (v := .agg #[.int .i64 y'.k, .int .i64 y'.n, .string ⟨y'.s.toArray⟩, .slice y'.A y'.len y'.cap]) (by simp [results, Tryz.results25, go_sem, r0, r1, r2, r3]) rfl ⟨y', rfl, ?_, hF⟩
   refine (HI.out.t.step (S' := fun b => b < wr.heap.size) fun b hb => ?_).at fun b hb => by simpa using hb
   have hne : b ≠ u.heap.size + 1 := fun e => by have := hb.1; omega
   exact ⟨hb.2.2, blk_set4_ne (w := wr) (.int .i64 y'.k) (.int .i64 y'.n) (.string ⟨y'.s.toArray⟩) (.slice y'.A y'.len y'.cap) hne⟩
  ·have hal : a < l.length := by omega
   have hla := List.getElem?_eq_getElem hal
   generalize l[a] = ta at hla
   obtain ⟨ya, b, off, e1, e2, hya, e3⟩ := HX.out a ta hla
   subst e1
   have hok := HOK.out ta (List.mem_of_getElem? hla)
   have hbs := HI.out.below.size
   have q0 : wr.cell? ⟨b, off + a * 4, none⟩ = some (.int .i64 ya.k) := (HI.out.below.cell (p := ⟨b, off + a * 4, none⟩) e2).trans (e3 0 _ rfl)
   have q1 : wr.cell? ⟨b, off + a * 4 + 1, none⟩ = some (.int .i64 ya.n) := (HI.out.below.cell (p := ⟨b, off + a * 4 + 1, none⟩) e2).trans (e3 1 _ rfl)
   have q2 : wr.cell? ⟨b, off + a * 4 + 2, none⟩ = some (.string ⟨ya.s.toArray⟩) := (HI.out.below.cell (p := ⟨b, off + a * 4 + 2, none⟩) e2).trans (e3 2 _ rfl)
   have q3 : wr.cell? ⟨b, off + a * 4 + 3, none⟩ = some (.slice ya.A ya.len ya.cap) := (HI.out.below.cell (p := ⟨b, off + a * 4 + 3, none⟩) e2).trans (e3 3 _ rfl)
   have HYA : Hid (TermAt wr u.heap.size ya ta) := Lib.hid (hya.blw HI.out.below)
   have HLA := Lib.hid hla
   have HCO := Lib.hid hok
   have HCALL : Hid (∀ v, v = wr ∨ v = wr.drew → Calls Tryz.prog 57 #[.agg #[.int .i64 ya.k, .int .i64 ya.n, .string ⟨ya.s.toArray⟩, .slice ya.A ya.len ya.cap], .func (Fn.func 58) #[] #[]] v fun e v' => ∃ z : TV, e = .returned (.agg #[.int .i64 z.k, .int .i64 z.n, .string ⟨z.s.toArray⟩, .slice z.A z.len z.cap]) ∧ TermS v' (newB wr.heap.size v') z ta ∧ Fr (fun _ => False) wr v' ∧ v'.cell? ⟨b5, 0, none⟩ = some (.int .i64 y'.k) ∧ v'.cell? ⟨b5, 1, none⟩ = some (.int .i64 y'.n) ∧ v'.cell? ⟨b5, 2, none⟩ = some (.string ⟨y'.s.toArray⟩) ∧ v'.cell? ⟨b5, 3, none⟩ = some (.slice y'.A y'.len y'.cap) ∧ (∀ o, v'.frozen? ⟨b5, o, none⟩ = false) ∧ b5 < v'.heap.size) := Lib.hid fun v hv => by
    have h1 : TermAt v u.heap.size ya ta ∧ v.heap.size = wr.heap.size ∧ Fr (fun _ => False) wr v := by
     rcases hv with rfl | rfl
     ·exact ⟨HYA.out, rfl, Fr.refl _ _⟩
     ·exact ⟨HYA.out.keep (Nat.le_refl _) fun _ _ => rfl, rfl, (Fr.refl _ _).drew⟩
    have := rename_same v u.heap.size ya ta h1.1 HCO.out.1 HCO.out.2.1 HCO.out.2.2 (by rw [h1.2.1]; exact HI.out.below.size)
    rw [tvV_lit] at this
    refine this.mono ?_
    rintro e v' ⟨z, rfl, hz, hf⟩
    have hF := h1.2.2.trans hf
    have hb := (hF.block b5 ((Array.getElem?_eq_some_iff.1 HI.out.here).1) fun e => e).trans HI.out.here
    obtain ⟨k0, k1, k2, k3, kf⟩ := four_at hb
    exact ⟨z, by rw [tvV_lit], by rw [h1.2.1] at hz; exact hz, hF, k0, k1, k2, k3, kf, (Array.getElem?_eq_some_iff.1 hb).1⟩
   have ea : (((a + 1 : Nat) : Int) - 1) = (a : Int) := by omega
   have ha1 : (0 : Int) ≤ (a : Int) := by omega
   have ha2 : (a : Int) < (n : Int) := by omega
   have hwa : IntKind.i64.wrap ((a : Int) - 1) = (a : Int) - 1 := IntWalk.i64_in _ (by omega)
   rw [ea]
   clear hla hya e3 e2 hok
   go_upto_region 5 with fail
   go_region_with ((go_at_call 57; refine (HCALL.out _ (by first | exact .inl rfl | exact .inr rfl)).mono ?_; rintro e V2 ⟨z, rfl, hz, hfr, k0, k1, k2, k3, kf, hkl⟩; have HZ := Lib.hid (And.intro hz hfr); clear hz hfr))
   all_goals
    have hlast := HI.out.round HZ.out.2 HLA.out HZ.out.1
    rw [World.setCell_alloc_past _ _ _ _ hkl, World.setCell_alloc_past _ _ _ _ (by simpa using hkl), World.setCell_alloc_past _ _ _ _ (by simpa using hkl), World.setCell_alloc_past _ _ _ _ (by simpa using hkl)] at hlast
    have HN := Lib.hid hlast
    clear hlast
    go_wp2_with fail
    go_roundw
    case rel => exact ⟨a, by omega, rfl, Lib.hid ⟨_, HN.out⟩⟩
    case measure =>
     simp only [intOf]
     omega
theorem cat_wa (a b : List UInt8) : (⟨a.toArray⟩ ++ ⟨b.toArray⟩ : ByteArray) = ⟨(a ++ b).toArray⟩ := by
 apply ByteArray.ext
 simp
theorem copyOk_of {t : Tm} (h : WfT t) (hs : t.size ≤ 1000000) : CopyOk t := ⟨h.may, h.fits, hs⟩
theorem two_at {u : World} {b c : Nat} {x y : TV} {tx ty : Tm} (hx : TermAt u u.heap.size x tx) (hy : TermAt u u.heap.size y ty) (s : List UInt8) (hs : s.length ≤ maxLen)
    (hb : u.heap[b]? = some (.cells #[.int .i64 x.k, .int .i64 x.n, .string ⟨x.s.toArray⟩, .slice x.A x.len x.cap, .int .i64 y.k, .int .i64 y.n, .string ⟨y.s.toArray⟩, .slice y.A y.len y.cap] 28 (0, 0))) :
    TermAt u u.heap.size ⟨4, 0, s, some ⟨b, 0, none⟩, 2, c⟩ (compT s [tx, ty]) := by
 have hlt : b < u.heap.size := (Array.getElem?_eq_some_iff.1 hb).1
 refine .mk ⟨4, 0, s, some ⟨b, 0, none⟩, 2, c⟩ [tx, ty] [x, y] rfl rfl hs (fun i z hz => ⟨b, 0, rfl, hlt, fun j v hv => ?_⟩) (fun i z t hz ht => ?_)
 ·obtain _ | _ | i := i
  ·have hz : x = z := by simpa using hz
   subst hz
   rw [cell_of_row u b _ _ _ (0, 0) hb]
   obtain _ | _ | _ | _ | j := j <;> simp [encTV] at hv ⊢ <;> exact hv
  ·have hz : y = z := by simpa using hz
   subst hz
   rw [cell_of_row u b _ _ _ (0, 0) hb]
   obtain _ | _ | _ | _ | j := j <;> simp [encTV] at hv ⊢ <;> exact hv
  ·simp at hz
 ·obtain _ | _ | i := i
  ·have hz : x = z := by simpa using hz
   have ht : tx = t := by simpa using ht
   subst hz ht
   exact hx
  ·have hz : y = z := by simpa using hz
   have ht : ty = t := by simpa using ht
   subst hz ht
   exact hy
  ·simp at hz
set_option maxHeartbeats 16000000 in
theorem args_bad (w : World) (S : List UInt8) (A : Option Addr) (n c : Nat) (A2 : Option Addr) (n2 c2 : Nat) (hE : WrEnv w) (hbad : 60 < n ∨ 60 < n2 ∨ 300 < S.length ∨ S = [46]) :
    Calls Tryz.prog 6 #[.string ⟨S.toArray⟩, .slice A n c, .slice A2 n2 c2] w fun e w' => e = .returned (.bool true) ∧ Below w.heap.size w w' := by
 have HE := Lib.hid hE
 have HBAD := Lib.hid hbad
 clear hE hbad
 obtain ⟨d1, hd1⟩ : ∃ d, d = decide (60 < n) := ⟨_, rfl⟩
 obtain ⟨d2, hd2⟩ : ∃ d, d = decide (60 < n2) := ⟨_, rfl⟩
 have HD := Lib.hid (And.intro hd1 hd2)
 clear hd1 hd2
 have hbr := Below.refl w.heap.size w
 go_enter Tryz.func6, Tryz.ntmps6
 go_wp2_with fail
 refine (alive7_any w HE.out).mono ?_
 rintro e w1 ⟨rfl, hb1⟩
 have HB1 := Lib.hid hb1
 clear hb1 hbr
 go_wp2_with fail
 refine (great_any w1 A n c).mono ?_
 rintro e w2 ⟨rfl, rfl⟩
 rw [← HD.out.1]
 cases d1 with
 | true =>
  go_wp2_with fail
  go_ret
  exact ⟨rfl, HB1.out⟩
 | false =>
  go_wp2_with fail
  refine (great_any w2 A2 n2 c2).mono ?_
  rintro e w3 ⟨rfl, rfl⟩
  rw [← HD.out.2]
  cases d2 with
  | true =>
   go_wp2_with fail
   go_ret
   exact ⟨rfl, HB1.out⟩
  | false =>
   have h1 : ¬ 60 < n := by simpa using HD.out.1.symm
   have h2 : ¬ 60 < n2 := by simpa using HD.out.2.symm
   by_cases h3 : (300 : Int) < (S.length : Int)
   ·clear h1 h2
    go_wp2_with fail
    go_ret
    exact ⟨rfl, HB1.out⟩
   ·have h4 : S = [46] := by
     rcases HBAD.out with h | h | h | h
     ·exact absurd h h1
     ·exact absurd h h2
     ·omega
     ·exact h
    have h5 : (S == [46]) = true := by rw [h4]; rfl
    clear h1 h2 h4
    go_wp2_with fail
    go_ret
    exact ⟨rfl, HB1.out⟩
structure ArgsU (w U : World) (Tx Ty : Tm) (x y : TV) (bx by' bo bt bm : Nat) : Prop where
 below : Below w.heap.size w U
 tx : TermAt U U.heap.size x Tx
 ty : TermAt U U.heap.size y Ty
 hx : U.heap[bx]? = some (.cells #[.int .i64 x.k, .int .i64 x.n, .string ⟨x.s.toArray⟩, .slice x.A x.len x.cap] 28 (0, 0))
 hy : U.heap[by']? = some (.cells #[.int .i64 y.k, .int .i64 y.n, .string ⟨y.s.toArray⟩, .slice y.A y.len y.cap] 28 (0, 0))
 ho : U.cell? ⟨bo, 0, none⟩ = some (.pointer (some ⟨bt, 0, none⟩))
 tab : TabAt U bt bm opsInit
 env : WrEnv U
set_option maxHeartbeats 32000000 in
theorem args_law (w : World) (S : List UInt8) (A : Option Addr) (n c : Nat) (hp : PartsIn w A n c) (A2 : Option Addr) (n2 c2 : Nat) (hp2 : PartsIn w A2 n2 c2) (hE : WrEnv w) :
    Calls Tryz.prog 6 #[.string ⟨S.toArray⟩, .slice A n c, .slice A2 n2 c2] w fun e w' => e = .returned (.bool true) ∧ Below w.heap.size w w' := by
 by_cases hbad : 60 < n ∨ 60 < n2 ∨ 300 < S.length ∨ S = [46]
 ·exact args_bad w S A n c A2 n2 c2 hE hbad
 have h1 : decide (60 < n) = false := by simp; omega
 have h2 : decide (60 < n2) = false := by simp; omega
 have h3 : ¬ (300 : Int) < (S.length : Int) := by omega
 have hs1 : S.length ≤ 300 := by omega
 have hs2 : S ≠ [46] := fun e => hbad (.inr (.inr (.inr e)))
 have h4 : (S == [46]) = false := beq_eq_false_iff_ne.2 hs2
 obtain ⟨l, hl, hnc, hpl, hnl⟩ := hp (by omega)
 obtain ⟨l2, hl2, hnc2, hpl2, hnl2⟩ := hp2 (by omega)
 obtain ⟨hw1, hsz1, hdp1, -, -⟩ := good_all hnl (by omega)
 obtain ⟨hw2, hsz2, hdp2, -, -⟩ := good_all hnl2 (by omega)
 obtain ⟨Tx, hTx⟩ : ∃ T, T = goodT l := ⟨_, rfl⟩
 obtain ⟨Ty, hTy⟩ : ∃ T, T = goodT l2 := ⟨_, rfl⟩
 rw [← hTx] at hw1 hsz1 hdp1
 rw [← hTy] at hw2 hsz2 hdp2
 have okx : CanOk Tx := ⟨hw1, by omega, by omega⟩
 have oky : CanOk Ty := ⟨hw2, by omega, by omega⟩
 have wfb := wf_pair (s := S) (by omega) hw1 hw2
 have okb : CanOk (compT S [Tx, Ty]) := ⟨wfb, by rw [pair_size]; omega, by rw [pair_deep]; omega⟩
 have oka : CanOk (atomT S) := ⟨wf_atom (by omega), by rw [(atom_size S).1]; omega, by rw [(atom_size S).2]; omega⟩
 have oki : CanOk nilT := ⟨wf_atom (by decide), by decide, by decide⟩
 have okt := wf_pair (s := [46]) (by decide) hw2 oki.wf
 have okl : CanOk (listT [Tx, Ty] nilT) := by
  show CanOk (compT [46] [Tx, compT [46] [Ty, nilT]])
  have e1 := (atom_size [91, 93]).1
  have e2 := (atom_size [91, 93]).2
  refine ⟨wf_pair (by decide) hw1 okt, ?_, ?_⟩
  ·rw [pair_size, pair_size]
   show 1 + Tx.size + (1 + Ty.size + (atomT [91, 93]).size) ≤ 20000
   omega
  ·rw [pair_deep, pair_deep]
   show 1 + max Tx.deep (1 + max Ty.deep (atomT [91, 93]).deep) ≤ 2000
   omega
 have hpair : canT (compT S [Tx, Ty]) = canT (atomT S) ++ (40 :: (canT Tx ++ (44 :: (canT Ty ++ [41])))) := by
  unfold canT
  rw [can_atom]
  exact can_pair opsInit S Tx Ty 1200 hs2
 have hlist : canT (listT [Tx, Ty] nilT) = 91 :: (canT Tx ++ (44 :: (canT Ty ++ [93]))) := can_list opsInit Tx Ty 1200
 have HQ : Hid (Tx.k ≠ 4 → putF opsInit 1 Tx = (canT Tx, 0)) := Lib.hid fun hk => by
  rw [put_good (.inr (.inl rfl)) (check_wf hw1 okx.size okx.deep)]
  have := hw1.kind
  rw [quo_can opsInit Tx 1200 (by omega)]
  rfl
 have HQ1 : Hid (putF opsInit 1 Tx = ((putF opsInit 1 Tx).1, 0)) := Lib.hid (by rw [put_good (.inr (.inl rfl)) (check_wf hw1 okx.size okx.deep)])
 have hlA : (canT (atomT S)).length ≤ 200000000 := by have := wr_len opsInit 2 _ (atomT S) 1200 (Nat.le_refl _) oka.wf; have := oka.size; unfold canT; omega
 have hlX : (canT Tx).length ≤ 200000000 := by have := wr_len opsInit 2 _ Tx 1200 (Nat.le_refl _) hw1; have := okx.size; unfold canT; omega
 have hlY : (canT Ty).length ≤ 200000000 := by have := wr_len opsInit 2 _ Ty 1200 (Nat.le_refl _) hw2; have := oky.size; unfold canT; omega
 obtain ⟨PB, hPB⟩ : ∃ P, P = canT (compT S [Tx, Ty]) := ⟨_, rfl⟩
 obtain ⟨PA, hPA⟩ : ∃ P, P = canT (atomT S) := ⟨_, rfl⟩
 obtain ⟨PX, hPX⟩ : ∃ P, P = canT Tx := ⟨_, rfl⟩
 obtain ⟨PY, hPY⟩ : ∃ P, P = canT Ty := ⟨_, rfl⟩
 obtain ⟨PL, hPL⟩ : ∃ P, P = canT (listT [Tx, Ty] nilT) := ⟨_, rfl⟩
 rw [← hPB, ← hPA, ← hPX, ← hPY] at hpair
 rw [← hPL, ← hPX, ← hPY] at hlist
 rw [← hPA] at hlA
 rw [← hPX] at hlX HQ
 rw [← hPY] at hlY
 have HE := Lib.hid hE
 have HPL := Lib.hid (And.intro hpl (And.intro hl hnc))
 have HPL2 := Lib.hid (And.intro hpl2 (And.intro hl2 hnc2))
 have HTX := Lib.hid (And.intro hTx hTy)
 have HOK := Lib.hid (And.intro okx (And.intro oky (And.intro okb (And.intro oka okl))))
 have HNN := Lib.hid (And.intro (show n ≤ 60 by omega) (show n2 ≤ 60 by omega))
 have HPP := Lib.hid (And.intro hPB (And.intro hPA (And.intro hPX (And.intro hPY hPL))))
 have HPR := Lib.hid (And.intro hpair hlist)
 have HCO : Hid (CopyOk Tx ∧ CopyOk Ty ∧ CopyOk nilT) := Lib.hid ⟨copyOk_of hw1 (by omega), copyOk_of hw2 (by omega), copyOk_of oki.wf (by decide)⟩
 have HSZ := Lib.hid (And.intro okx.size (And.intro okx.deep hs1))
 have HLL := Lib.hid (And.intro hlA (And.intro hlX hlY))
 have HBR := Lib.hid (Below.refl w.heap.size w)
 clear hbad hs1 hs2 hE hp hp2 hl hnc hpl hnl hl2 hnc2 hpl2 hnl2 hw1 hsz1 hdp1 hw2 hsz2 hdp2 hTx hTy okx oky okb oka oki okt okl wfb hpair hlist hlA hlX hlY hPB hPA hPX hPY hPL
 go_enter Tryz.func6, Tryz.ntmps6
 go_wp2_with fail
 refine (alive7_any w HE.out).mono ?_
 rintro e w1 ⟨rfl, hb1⟩
 have HB1 := Lib.hid hb1
 clear hb1
 go_wp2_with fail
 refine (great_any w1 A n c).mono ?_
 rintro e w2 ⟨rfl, rfl⟩
 rw [h1]
 go_wp2_with fail
 refine (great_any w2 A2 n2 c2).mono ?_
 rintro e w3 ⟨rfl, rfl⟩
 rw [h2]
 go_upto_region 5 with fail
 clear h1 h2 h3 h4
 go_wp2_with fail
 have hgd := good_any l w3 A c (by have := HPL.out.2; omega) (HPL.out.1.later HB1.out) (by have := HPL.out.2.1; have := HNN.out; omega)
 rw [HPL.out.2.1] at hgd
 have HGD := Lib.hid hgd
 clear hgd
 refine HGD.out.mono ?_
 rintro e W1 ⟨x, rfl, hx, hb1⟩
 rw [tvV_lit]
 have HB2 : Hid (Below w.heap.size w W1) := Lib.hid (HB1.out.trans (hb1.mono HB1.out.size))
 have HX1 : Hid (TermAt W1 W1.heap.size x Tx) := Lib.hid (by rw [HTX.out.1]; exact hx.at (B := W1.heap.size) fun q hq => hq.2)
 clear hx hb1 HGD
 go_wp2_with fail
 have hgd := good_any l2 W1 A2 c2 (by have := HPL2.out.2; omega) (HPL2.out.1.later HB2.out) (by have := HPL2.out.2.1; have := HNN.out; omega)
 rw [HPL2.out.2.1] at hgd
 have HGD := Lib.hid hgd
 clear hgd
 refine HGD.out.mono ?_
 rintro e W2 ⟨y, rfl, hy, hb1⟩
 rw [tvV_lit]
 have HB3 : Hid (Below w.heap.size w W2) := Lib.hid (HB2.out.trans (hb1.mono HB2.out.size))
 have HX2 : Hid (TermAt W2 W2.heap.size x Tx ∧ TermAt W2 W2.heap.size y Ty) := Lib.hid ⟨HX1.out.later hb1, by rw [HTX.out.2]; exact hy.at (B := W2.heap.size) fun q hq => hq.2⟩
 clear hy hb1 HGD
 go_wp2_with fail
 have hE3 := HE.out.later HB3.out
 refine (new_any W2 hE3.rd.kinds hE3.rd.tab).mono ?_
 rintro e W3 ⟨bt, bm, rfl, hT, -, -, -, hb4⟩
 have HB4 : Hid (Below w.heap.size w W3) := Lib.hid (HB3.out.trans (hb4.mono HB3.out.size))
 have HX3 : Hid (TermAt W3 W3.heap.size x Tx ∧ TermAt W3 W3.heap.size y Ty ∧ TabAt W3 bt bm opsInit) := Lib.hid ⟨HX2.out.1.later hb4, HX2.out.2.later hb4, hT⟩
 clear hE3 hT hb4
 obtain ⟨U, hU⟩ : ∃ U, U = ((W3.alloc (.cells #[.int .i64 x.k, .int .i64 x.n, .string ⟨x.s.toArray⟩, .slice x.A x.len x.cap] 28)).alloc (.cells #[.int .i64 y.k, .int .i64 y.n, .string ⟨y.s.toArray⟩, .slice y.A y.len y.cap] 28)).alloc (.cells #[.pointer (some ⟨bt, 0, none⟩)] 34) := ⟨_, rfl⟩
 obtain ⟨bx, hbx⟩ : ∃ b, b = W3.heap.size := ⟨_, rfl⟩
 obtain ⟨bz, hbz⟩ : ∃ b, b = bx + 1 := ⟨_, rfl⟩
 obtain ⟨bo, hbo⟩ : ∃ b, b = bz + 1 := ⟨_, rfl⟩
 have hbU : Below W3.heap.size W3 U := by rw [hU]; exact (((Below.refl _ _).alloc (Nat.le_refl _) _).alloc (by simp) _).alloc (by simp; omega) _
 have hx0 : U.heap[bx]? = some (.cells #[.int .i64 x.k, .int .i64 x.n, .string ⟨x.s.toArray⟩, .slice x.A x.len x.cap] 28 (0, 0)) := by
  rw [hU, Below.heap_alloc _ _ _ (by simp; omega), Below.heap_alloc _ _ _ (by simp; omega), hbx]
  exact heap_alloc_new _ _
 have hz0 : U.heap[bz]? = some (.cells #[.int .i64 y.k, .int .i64 y.n, .string ⟨y.s.toArray⟩, .slice y.A y.len y.cap] 28 (0, 0)) := by
  rw [hU, Below.heap_alloc _ _ _ (by simp; omega), hbz, hbx]
  have := heap_alloc_new (W3.alloc (.cells #[.int .i64 x.k, .int .i64 x.n, .string ⟨x.s.toArray⟩, .slice x.A x.len x.cap] 28)) (.cells #[.int .i64 y.k, .int .i64 y.n, .string ⟨y.s.toArray⟩, .slice y.A y.len y.cap] 28)
  rwa [World.size_alloc] at this
 have ho0 : U.heap[bo]? = some (.cells #[.pointer (some ⟨bt, 0, none⟩)] 34 (0, 0)) := by
  rw [hU, hbo, hbz, hbx]
  have := heap_alloc_new ((W3.alloc (.cells #[.int .i64 x.k, .int .i64 x.n, .string ⟨x.s.toArray⟩, .slice x.A x.len x.cap] 28)).alloc (.cells #[.int .i64 y.k, .int .i64 y.n, .string ⟨y.s.toArray⟩, .slice y.A y.len y.cap] 28)) (.cells #[.pointer (some ⟨bt, 0, none⟩)] 34)
  rwa [World.size_alloc, World.size_alloc] at this
 have hbu : Below w.heap.size w U := HB4.out.trans (hbU.mono HB4.out.size)
 have hc0 : U.cell? ⟨bo, 0, none⟩ = some (.pointer (some ⟨bt, 0, none⟩)) := by rw [cell_of_row U bo 0 _ _ (0, 0) ho0]; rfl
 have HAU : Hid (ArgsU w U Tx Ty x y bx bz bo bt bm) := Lib.hid ⟨hbu, HX3.out.1.later hbU, HX3.out.2.1.later hbU, hx0, hz0, hc0, HX3.out.2.2.later hbU, HE.out.later hbu⟩
 go_upto_region 6 with fail
 rw [← hU, ← hbx, ← hbz, ← hbo]
 clear hU hbx hbz hbo hbU hx0 hz0 ho0 hbu hc0 HB1 HB2 HB3 HB4 HX1 HX2 HX3
 obtain ⟨x0, x1, x2, x3, -⟩ := four_at HAU.out.hx
 obtain ⟨z0, z1, z2, z3, -⟩ := four_at HAU.out.hy
 obtain ⟨bq, hbq⟩ : ∃ b, b = U.heap.size := ⟨_, rfl⟩
 obtain ⟨bb, hbb⟩ : ∃ b, b = bq + 1 := ⟨_, rfl⟩
 obtain ⟨U2, hU2⟩ : ∃ V, V = (U.alloc (.cells #[.int .i64 x.k, .int .i64 x.n, .string ⟨x.s.toArray⟩, .slice x.A x.len x.cap, .int .i64 y.k, .int .i64 y.n, .string ⟨y.s.toArray⟩, .slice y.A y.len y.cap] 28)).alloc (.cells #[.int .i64 4, .int .i64 0, .string ⟨S.toArray⟩, .slice (some ⟨bq, 0, none⟩) 2 2] 28) := ⟨_, rfl⟩
 have hb2 : Below U.heap.size U U2 := by rw [hU2]; exact ((Below.refl _ _).alloc (Nat.le_refl _) _).alloc (by simp) _
 have hq0 : U2.heap[bq]? = some (.cells #[.int .i64 x.k, .int .i64 x.n, .string ⟨x.s.toArray⟩, .slice x.A x.len x.cap, .int .i64 y.k, .int .i64 y.n, .string ⟨y.s.toArray⟩, .slice y.A y.len y.cap] 28 (0, 0)) := by
  rw [hU2, Below.heap_alloc _ _ _ (by simp; omega), hbq]
  exact heap_alloc_new _ _
 have hb0 : U2.heap[bb]? = some (.cells #[.int .i64 4, .int .i64 0, .string ⟨S.toArray⟩, .slice (some ⟨bq, 0, none⟩) 2 2] 28 (0, 0)) := by
  rw [hU2, hbb, hbq]
  have := heap_alloc_new (U.alloc (.cells #[.int .i64 x.k, .int .i64 x.n, .string ⟨x.s.toArray⟩, .slice x.A x.len x.cap, .int .i64 y.k, .int .i64 y.n, .string ⟨y.s.toArray⟩, .slice y.A y.len y.cap] 28)) (.cells #[.int .i64 4, .int .i64 0, .string ⟨S.toArray⟩, .slice (some ⟨U.heap.size, 0, none⟩) 2 2] 28)
  rwa [World.size_alloc] at this
 go_upto_region 8 with fail
 rw [← hbq, ← hbb, ← hU2]
 have htx := HAU.out.tx.later hb2
 have hty := HAU.out.ty.later hb2
 have htb : TermAt U2 U2.heap.size ⟨4, 0, S, some ⟨bq, 0, none⟩, 2, 2⟩ (compT S [Tx, Ty]) := two_at htx hty S (by have := HSZ.out.2.2; unfold maxLen; omega) hq0
 have hta : TermAt U2 U2.heap.size ⟨3, 0, S, none, 0, 0⟩ (atomT S) := TermAt.leaf _ _ _ _ _ _ _ (by have := HSZ.out.2.2; unfold maxLen; omega)
 have htn : TermAt U2 U2.heap.size ⟨3, 0, [91, 93], none, 0, 0⟩ nilT := TermAt.leaf _ _ _ _ _ _ _ (by unfold maxLen; simp)
 have hc2 : U2.cell? ⟨bo, 0, none⟩ = some (.pointer (some ⟨bt, 0, none⟩)) := (hb2.cell (p := ⟨bo, 0, none⟩) (World.block_lt_of_cell? U _ HAU.out.ho)).trans HAU.out.ho
 have htt := HAU.out.tab.later hb2
 have hwt := (HAU.out.env.later hb2).wr
 have hcan : ∀ v (x : TV) (t : Tm), Below U2.heap.size U2 v → TermAt v v.heap.size x t → CanOk t → Calls Tryz.prog 24 #[.agg #[.int .i64 x.k, .int .i64 x.n, .string ⟨x.s.toArray⟩, .slice x.A x.len x.cap], .pointer (some ⟨bo, 0, none⟩)] v fun e v' => e = .returned (.string ⟨(canT t).toArray⟩) ∧ Below U2.heap.size U2 v' := fun v x t hv hx ht => by
  have := can_any v bo bt bm ((hv.cell (p := ⟨bo, 0, none⟩) (World.block_lt_of_cell? U2 _ hc2)).trans hc2) (htt.later hv) (hwt.later hv) x t hx ht
  rw [tvV_lit] at this
  refine this.mono ?_
  rintro e v' ⟨rfl, h1⟩
  exact ⟨rfl, hv.trans (h1.mono hv.size)⟩
 have HCB : Hid (∀ v, Below U2.heap.size U2 v → Calls Tryz.prog 24 #[.agg #[.int .i64 4, .int .i64 0, .string ⟨S.toArray⟩, .slice (some ⟨bq, 0, none⟩) 2 2], .pointer (some ⟨bo, 0, none⟩)] v fun e v' => e = .returned (.string ⟨PB.toArray⟩) ∧ Below U2.heap.size U2 v') := Lib.hid fun v hv => by rw [HPP.out.1]; exact hcan v ⟨4, 0, S, some ⟨bq, 0, none⟩, 2, 2⟩ _ hv (htb.later hv) HOK.out.2.2.1
 have HCA : Hid (∀ v, Below U2.heap.size U2 v → Calls Tryz.prog 24 #[.agg #[.int .i64 3, .int .i64 0, .string ⟨S.toArray⟩, .slice none 0 0], .pointer (some ⟨bo, 0, none⟩)] v fun e v' => e = .returned (.string ⟨PA.toArray⟩) ∧ Below U2.heap.size U2 v') := Lib.hid fun v hv => by rw [HPP.out.2.1]; exact hcan v ⟨3, 0, S, none, 0, 0⟩ _ hv (hta.later hv) HOK.out.2.2.2.1
 have HCX : Hid (∀ v, Below U2.heap.size U2 v → Calls Tryz.prog 24 #[.agg #[.int .i64 x.k, .int .i64 x.n, .string ⟨x.s.toArray⟩, .slice x.A x.len x.cap], .pointer (some ⟨bo, 0, none⟩)] v fun e v' => e = .returned (.string ⟨PX.toArray⟩) ∧ Below U2.heap.size U2 v') := Lib.hid fun v hv => by rw [HPP.out.2.2.1]; exact hcan v x _ hv (htx.later hv) HOK.out.1
 have HCY : Hid (∀ v, Below U2.heap.size U2 v → Calls Tryz.prog 24 #[.agg #[.int .i64 y.k, .int .i64 y.n, .string ⟨y.s.toArray⟩, .slice y.A y.len y.cap], .pointer (some ⟨bo, 0, none⟩)] v fun e v' => e = .returned (.string ⟨PY.toArray⟩) ∧ Below U2.heap.size U2 v') := Lib.hid fun v hv => by rw [HPP.out.2.2.2.1]; exact hcan v y _ hv (hty.later hv) HOK.out.2.1
 have HCL : Hid (∀ v (z : TV), Below U2.heap.size U2 v → TermAt v v.heap.size z (listT [Tx, Ty] nilT) → Calls Tryz.prog 24 #[.agg #[.int .i64 z.k, .int .i64 z.n, .string ⟨z.s.toArray⟩, .slice z.A z.len z.cap], .pointer (some ⟨bo, 0, none⟩)] v fun e v' => e = .returned (.string ⟨PL.toArray⟩) ∧ Below U2.heap.size U2 v') := Lib.hid fun v z hv hz => by rw [HPP.out.2.2.2.2]; exact hcan v z _ hv hz HOK.out.2.2.2.2
 have HLIST : Hid (∀ v b, Below U2.heap.size U2 v → v.heap[b]? = some (.cells #[.int .i64 x.k, .int .i64 x.n, .string ⟨x.s.toArray⟩, .slice x.A x.len x.cap, .int .i64 y.k, .int .i64 y.n, .string ⟨y.s.toArray⟩, .slice y.A y.len y.cap] 28 (0, 0)) → Calls Tryz.prog 25 #[.slice (some ⟨b, 0, none⟩) 2 2, .agg #[.int .i64 3, .int .i64 0, .string ⟨#[91, 93]⟩, .slice none 0 0]] v fun e v' => ∃ z : TV, e = .returned (.agg #[.int .i64 z.k, .int .i64 z.n, .string ⟨z.s.toArray⟩, .slice z.A z.len z.cap]) ∧ TermAt v' v'.heap.size z (listT [Tx, Ty] nilT) ∧ Below U2.heap.size U2 v') := Lib.hid fun v b hv hb => by
  have := tlist_any v (some ⟨b, 0, none⟩) 2 2 [46] [Tx, Ty] (two_at (htx.later hv) (hty.later hv) [46] (by unfold maxLen; simp) hb) (fun t ht => by
   have ht : t = Tx ∨ t = Ty := by simpa using ht
   rcases ht with rfl | rfl
   ·exact HCO.out.1
   ·exact HCO.out.2.1) ⟨3, 0, [91, 93], none, 0, 0⟩ nilT (htn.later hv) HCO.out.2.2 (by decide)
  rw [tvV_lit] at this
  refine this.mono ?_
  rintro e v' ⟨z, rfl, h1, h2⟩
  exact ⟨z, by rw [tvV_lit], h1, hv.trans (h2.mono hv.size)⟩
 have HS : Hid (∀ v, Below U2.heap.size U2 v → v.cell? ⟨bx, 0, none⟩ = some (.int .i64 x.k) ∧ v.cell? ⟨bx, 1, none⟩ = some (.int .i64 x.n) ∧ v.cell? ⟨bx, 2, none⟩ = some (.string ⟨x.s.toArray⟩) ∧ v.cell? ⟨bx, 3, none⟩ = some (.slice x.A x.len x.cap) ∧ v.cell? ⟨bz, 0, none⟩ = some (.int .i64 y.k) ∧ v.cell? ⟨bz, 1, none⟩ = some (.int .i64 y.n) ∧ v.cell? ⟨bz, 2, none⟩ = some (.string ⟨y.s.toArray⟩) ∧ v.cell? ⟨bz, 3, none⟩ = some (.slice y.A y.len y.cap) ∧ v.cell? ⟨bb, 0, none⟩ = some (.int .i64 4) ∧ v.cell? ⟨bb, 1, none⟩ = some (.int .i64 0) ∧ v.cell? ⟨bb, 2, none⟩ = some (.string ⟨S.toArray⟩) ∧ v.cell? ⟨bb, 3, none⟩ = some (.slice (some ⟨bq, 0, none⟩) 2 2)) := Lib.hid fun v hv => by
  obtain ⟨a0, a1, a2, a3, -⟩ := four_at (((hb2.trans (hv.mono hb2.size)).block bx (Array.getElem?_eq_some_iff.1 HAU.out.hx).1).trans HAU.out.hx)
  obtain ⟨c0, c1, c2, c3, -⟩ := four_at (((hb2.trans (hv.mono hb2.size)).block bz (Array.getElem?_eq_some_iff.1 HAU.out.hy).1).trans HAU.out.hy)
  obtain ⟨d0, d1, d2, d3, -⟩ := four_at ((hv.block bb (Array.getElem?_eq_some_iff.1 hb0).1).trans hb0)
  exact ⟨a0, a1, a2, a3, c0, c1, c2, c3, d0, d1, d2, d3⟩
 have HBW : Hid (Below w.heap.size w U2) := Lib.hid (HAU.out.below.trans (hb2.mono HAU.out.below.size))
 have HPUT : Hid (∀ v, Below U2.heap.size U2 v → Calls Tryz.prog 14 #[.agg #[.int .i64 x.k, .int .i64 x.n, .string ⟨x.s.toArray⟩, .slice x.A x.len x.cap], .int .i64 1, .pointer (some ⟨bt, 0, none⟩)] v fun e v' => e = .returned (.tuple #[.string ⟨(putF opsInit 1 Tx).1.toArray⟩, .int .i64 0]) ∧ Below U2.heap.size U2 v') := Lib.hid fun v hv => by
  rw [← tvV_lit]
  refine (wput_any v x Tx bt bm opsInit 1 (htx.later hv) HOK.out.1.wf.fits (by have := HSZ.out; omega) (by have := HSZ.out; omega) (hwt.later hv) (htt.later hv)).mono ?_
  rintro e v' ⟨rfl, h1⟩
  rw [HQ1.out]
  exact ⟨rfl, hv.trans (h1.mono hv.size)⟩
 have HKX : Hid (x.k = Tx.k) := Lib.hid htx.open.1.symm
 have HCO2 : Hid (U2.cell? ⟨bo, 0, none⟩ = some (.pointer (some ⟨bt, 0, none⟩))) := Lib.hid hc2
 clear hcan htx hty htb hta htn hc2 htt hwt hb2 hq0 hb0 hbq hbb hU2 x0 x1 x2 x3 z0 z1 z2 z3 HCO HAU
 -- the two texts, part by part
 obtain ⟨G1, hG1⟩ : ∃ G, G = PA ++ [40] := ⟨_, rfl⟩
 obtain ⟨G2, hG2⟩ : ∃ G, G = G1 ++ PX := ⟨_, rfl⟩
 obtain ⟨G3, hG3⟩ : ∃ G, G = G2 ++ [44] := ⟨_, rfl⟩
 obtain ⟨G4, hG4⟩ : ∃ G, G = G3 ++ PY := ⟨_, rfl⟩
 obtain ⟨L1, hL1⟩ : ∃ G, G = [91] ++ PX := ⟨_, rfl⟩
 obtain ⟨L2, hL2⟩ : ∃ G, G = L1 ++ [44] := ⟨_, rfl⟩
 obtain ⟨L3, hL3⟩ : ∃ G, G = L2 ++ PY := ⟨_, rfl⟩
 have e5 : G4 ++ [41] = PB := by rw [hG4, hG3, hG2, hG1, HPR.out.1]; simp
 have f4 : L3 ++ [93] = PL := by rw [hL3, hL2, hL1, HPR.out.2]; simp
 have k1 : (⟨PA.toArray⟩ ++ ⟨#[40]⟩ : ByteArray) = ⟨G1.toArray⟩ := by rw [hG1]; exact cat_wa PA [40]
 have k2 : (⟨G1.toArray⟩ ++ ⟨PX.toArray⟩ : ByteArray) = ⟨G2.toArray⟩ := by rw [hG2]; exact cat_wa G1 PX
 have k3 : (⟨G2.toArray⟩ ++ ⟨#[44]⟩ : ByteArray) = ⟨G3.toArray⟩ := by rw [hG3]; exact cat_wa G2 [44]
 have k4 : (⟨G3.toArray⟩ ++ ⟨PY.toArray⟩ : ByteArray) = ⟨G4.toArray⟩ := by rw [hG4]; exact cat_wa G3 PY
 have k5 : (⟨G4.toArray⟩ ++ ⟨#[41]⟩ : ByteArray) = ⟨PB.toArray⟩ := by rw [← e5]; exact cat_wa G4 [41]
 have l1 : (⟨#[91]⟩ ++ ⟨PX.toArray⟩ : ByteArray) = ⟨L1.toArray⟩ := by rw [hL1]; exact cat_wa [91] PX
 have l2 : (⟨L1.toArray⟩ ++ ⟨#[44]⟩ : ByteArray) = ⟨L2.toArray⟩ := by rw [hL2]; exact cat_wa L1 [44]
 have l3 : (⟨L2.toArray⟩ ++ ⟨PY.toArray⟩ : ByteArray) = ⟨L3.toArray⟩ := by rw [hL3]; exact cat_wa L2 PY
 have l4 : (⟨L3.toArray⟩ ++ ⟨#[93]⟩ : ByteArray) = ⟨PL.toArray⟩ := by rw [← f4]; exact cat_wa L3 [93]
 have n0 : PA.length ≤ 200000000 := HLL.out.1
 have n1 : PX.length ≤ 200000000 := HLL.out.2.1
 have n2 : PY.length ≤ 200000000 := HLL.out.2.2
 have n3 : G1.length ≤ 200000001 := by rw [hG1, List.length_append, List.length_cons, List.length_nil]; omega
 have n4 : G2.length ≤ 400000001 := by rw [hG2, List.length_append]; omega
 have n5 : G3.length ≤ 400000002 := by rw [hG3, List.length_append, List.length_cons, List.length_nil]; omega
 have n6 : G4.length ≤ 600000002 := by rw [hG4, List.length_append]; omega
 have n7 : L1.length ≤ 200000001 := by rw [hL1, List.length_append, List.length_cons, List.length_nil]; omega
 have n8 : L2.length ≤ 200000002 := by rw [hL2, List.length_append, List.length_cons, List.length_nil]; omega
 have n9 : L3.length ≤ 400000002 := by rw [hL3, List.length_append]; omega
 have q0 : ¬ 9223372036854775807 < PA.length + 1 := by omega
 have q1 : ¬ 9223372036854775807 < G1.length + PX.length := by omega
 have q2 : ¬ 9223372036854775807 < G2.length + 1 := by omega
 have q3 : ¬ 9223372036854775807 < G3.length + PY.length := by omega
 have q4 : ¬ 9223372036854775807 < G4.length + 1 := by omega
 have q5 : ¬ 9223372036854775807 < 1 + PX.length := by omega
 have q6 : ¬ 9223372036854775807 < L1.length + 1 := by omega
 have q7 : ¬ 9223372036854775807 < L2.length + PY.length := by omega
 have q8 : ¬ 9223372036854775807 < L3.length + 1 := by omega
 have p1 : (PB == PB) = true := by simp
 have p2 : (PB != PB) = false := by simp
 have p3 : (PL == PL) = true := by simp
 have p4 : (PL != PL) = false := by simp
 clear hG1 hG2 hG3 hG4 hL1 hL2 hL3 e5 f4
 have hbr := Below.refl U2.heap.size U2
 have hbd : Below U2.heap.size U2 U2.drew := (Below.refl U2.heap.size U2).drew
 obtain ⟨x0, x1, x2, x3, z0, z1, z2, z3, y0, y1, y2, y3⟩ := HS.out U2 hbr
 go_region_held3 (fun v => v.cell? ⟨bx, 0, none⟩ = some (.int .i64 x.k) ∧ v.cell? ⟨bx, 1, none⟩ = some (.int .i64 x.n) ∧ v.cell? ⟨bx, 2, none⟩ = some (.string ⟨x.s.toArray⟩) ∧ v.cell? ⟨bx, 3, none⟩ = some (.slice x.A x.len x.cap) ∧ v.cell? ⟨bz, 0, none⟩ = some (.int .i64 y.k) ∧ v.cell? ⟨bz, 1, none⟩ = some (.int .i64 y.n) ∧ v.cell? ⟨bz, 2, none⟩ = some (.string ⟨y.s.toArray⟩) ∧ v.cell? ⟨bz, 3, none⟩ = some (.slice y.A y.len y.cap) ∧ v.cell? ⟨bb, 0, none⟩ = some (.int .i64 4) ∧ v.cell? ⟨bb, 1, none⟩ = some (.int .i64 0) ∧ v.cell? ⟨bb, 2, none⟩ = some (.string ⟨S.toArray⟩) ∧ v.cell? ⟨bb, 3, none⟩ = some (.slice (some ⟨bq, 0, none⟩) 2 2))
  (first | (with_reducible exact HS.out _ (by assumption)) | (with_reducible exact HS.out _ (below_alloc' (by assumption) _)) | (with_reducible exact HS.out _ (Below.drew (below_alloc' (by assumption) _))))
  (first | (go_at_call 25; with_reducible refine (HLIST.out _ _ (below_alloc' (by assumption) _) (heap_alloc_new _ _)).mono ?_; rintro e v5 ⟨z, rfl, hz5, hb5⟩) | (go_at_call 24; with_reducible refine (HCB.out _ (by assumption)).mono ?_; rintro e v1 ⟨rfl, hb1⟩) | (go_at_call 24; with_reducible refine (HCA.out _ (by assumption)).mono ?_; rintro e v2 ⟨rfl, hb2⟩) | (go_at_call 24; with_reducible refine (HCX.out _ (by assumption)).mono ?_; rintro e v3 ⟨rfl, hb3⟩) | (go_at_call 24; with_reducible refine (HCY.out _ (by assumption)).mono ?_; rintro e v4 ⟨rfl, hb4⟩) | (go_at_call 24; refine (HCL.out _ _ (by assumption) (by assumption)).mono ?_; rintro e v6 ⟨rfl, hb6⟩))
 all_goals
  clear x0 x1 x2 x3 z0 z1 z2 z3 y0 y1 y2 y3 hb1 hb2 hb3 hb5 hb6 hz5 hbr hbd k1 k2 k3 k4 k5 l1 l2 l3 l4 n0 n1 n2 n3 n4 n5 n6 n7 n8 n9 q0 q1 q2 q3 q4 q5 q6 q7 q8 p1 p2 p3 p4
  obtain ⟨x0, x1, x2, x3, -⟩ := HS.out _ hb4
  have o0 : v4.cell? ⟨bo, 0, none⟩ = some (.pointer (some ⟨bt, 0, none⟩)) := (hb4.cell (p := ⟨bo, 0, none⟩) (World.block_lt_of_cell? U2 _ HCO2.out)).trans HCO2.out
  have HB4 := Lib.hid hb4
  clear hb4
  go_wp2_with fail
  refine (HPUT.out _ HB4.out).mono ?_
  rintro e v7 ⟨rfl, hb7⟩
  clear x0 x1 x2 x3 o0
  obtain ⟨x0, x1, x2, x3, -⟩ := HS.out _ hb7
  have HB7 := Lib.hid hb7
  clear hb7
  by_cases hk : x.k = 4
  ·have b1 : (x.k == 4) = true := by simpa using hk
   clear hk
   go_wp2_with fail
   go_ret
   exact ⟨rfl, HBW.out.trans (HB7.out.mono HBW.out.size)⟩
  ·have b1 : (x.k == 4) = false := by simpa using hk
   have hq := HQ.out (by rw [← HKX.out]; exact hk)
   rw [hq]
   dsimp only
   have p1 : (PX == PX) = true := by simp
   clear hk hq
   go_wp2_with fail
   refine (HCX.out _ HB7.out).mono ?_
   rintro e v8 ⟨rfl, hb8⟩
   have HB8 := Lib.hid hb8
   clear hb8
   go_wp2_with fail
   go_ret
   exact ⟨rfl, HBW.out.trans (HB8.out.mono HBW.out.size)⟩
end Go.Proofs.YtcallkljcjimiaaGreatDoor
