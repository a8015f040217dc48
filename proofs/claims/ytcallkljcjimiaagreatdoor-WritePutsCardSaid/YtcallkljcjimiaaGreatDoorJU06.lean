import Derived.Test.YtcallkljcjimiaaGreatDoorJU05
import Derived.Test.YtcallkljcjimiaaGreatDoorRows
import Derived.Lib.SmallJoins
import Derived.Deep.DeepWitnessRowRef
import Derived.LaidMore
import Derived.Stop.LaidErr
namespace Go.Proofs.YtcallkljcjimiaaGreatDoor
open Go.RowKit Go.Maps
set_option maxRecDepth 100000
def PartsIn (u : World) (A : Option Addr) (n c : Nat) : Prop := n ≤ 60 → ∃ l : List PartT, l.length = n ∧ n ≤ c ∧ PartsAt u A l ∧ NumOk l
theorem DefsAt.lat9 {w w' : World} {A : Option Addr} {n : Nat} {l : List DefT} (h : DefsAt w w.heap.size A n l) (hb : Below w.heap.size w w') : DefsAt w' w'.heap.size A n l := by
 obtain ⟨h1, h2⟩ := h.keep hb.block
 refine ⟨h1, fun i x hx => ?_⟩
 obtain ⟨b, off, e, k, r⟩ := h2 i x hx
 exact ⟨b, off, e, Nat.lt_of_lt_of_le k hb.size, r⟩
theorem of_fine {l : List PartT} (h : NumOk l) (hl : l.length ≤ 60) : ((ofT l).1.fits = true ∧ (ofT l).1.size ≤ 421 ∧ (ofT l).1.deep ≤ 421) ∧ (mendT (ofT l).1).fits = true ∧ (mendT (ofT l).1).size ≤ 421 ∧ (mendT (ofT l).1).deep ≤ 421 := by
 have h1 : (ofT l).1.fits = true := ofF_fits l.length l h
 have h2 := of_size l
 have h3 := ofT_le l
 have h4 := deep_le (ofT l).1
 have h5 := mend_size (ofT l).1
 have h6 := deep_le (mendT (ofT l).1)
 exact ⟨⟨h1, by omega, by omega⟩, mend_fits _ h1, by omega, by omega⟩
abbrev C4 (b : Nat) (x : TV) (v : World) : Prop := v.cell? ⟨b, 0, none⟩ = some (.int .i64 x.k) ∧ v.cell? ⟨b, 1, none⟩ = some (.int .i64 x.n) ∧ v.cell? ⟨b, 2, none⟩ = some (.string ⟨x.s.toArray⟩) ∧ v.cell? ⟨b, 3, none⟩ = some (.slice x.A x.len x.cap)
set_option maxHeartbeats 16000000 in
theorem puts_law (w : World) (A : Option Addr) (n c : Nat) (hp : PartsIn w A n c) (way : Int) (A2 : Option Addr) (n2 c2 : Nat) (l2 : List DefT) (hd2 : DefsAt w w.heap.size A2 n2 l2) (hm2 : n2 ≤ maxLen) (hE : WrEnv w) :
    Calls Tryz.prog 4 #[.slice A n c, .int .i64 way, .slice A2 n2 c2] w fun e w' => e = .returned (.bool true) ∧ Below w.heap.size w w' := by
 have HE := Lib.hid hE
 have HP := Lib.hid hp
 have HD := Lib.hid hd2
 clear hE hp hd2
 have hm9 : n2 ≤ 9223372036854775807 := hm2
 by_cases hbig : 60 < n ∨ 100 < n2
 ·have hd : decide (60 < n) = true ∨ (decide (60 < n) = false ∧ (100 : Int) < (n2 : Int)) := by simp; omega
  go_enter Tryz.func4, Tryz.ntmps4
  go_wp2_with fail
  refine (alive7_any w HE.out).mono ?_
  rintro e w1 ⟨rfl, hb1⟩
  have HB1 := Lib.hid hb1
  clear hb1 hbig
  go_wp2_with fail
  refine (great_any w1 A n c).mono ?_
  rintro e w2 ⟨rfl, rfl⟩
  rcases hd with hd | ⟨hd, h2⟩
  all_goals
   rw [hd]
   go_wp2_with fail
   go_ret
   exact ⟨rfl, HB1.out⟩
 have hd : decide (60 < n) = false := by simp; omega
 have h2 : ¬ (100 : Int) < (n2 : Int) := by omega
 obtain ⟨l, hl, hnc, hpl, hnl⟩ := HP.out (by omega)
 obtain ⟨⟨hf1, hs1, hd1⟩, hf2, hs2, hd2⟩ := of_fine hnl (by omega)
 obtain ⟨T, hT⟩ : ∃ T, T = (ofT l).1 := ⟨_, rfl⟩
 obtain ⟨G, hG⟩ : ∃ G, G = mendT T := ⟨_, rfl⟩
 obtain ⟨es, hes⟩ : ∃ es, es = tabMade l2 := ⟨_, rfl⟩
 rw [← hT] at hf1 hs1 hd1 hf2 hs2 hd2
 rw [← hG] at hf2 hs2 hd2
 obtain ⟨X1, X2, hX⟩ : ∃ X1 X2, putF es way T = (X1, X2) := ⟨_, _, rfl⟩
 obtain ⟨Y1, Y2, hY⟩ : ∃ Y1 Y2, putF es way G = (Y1, Y2) := ⟨_, _, rfl⟩
 have HX := Lib.hid (And.intro hX hY)
 have HT := Lib.hid (And.intro hT hG)
 have HES := Lib.hid hes
 have HWT := Lib.hid (And.intro hf1 (And.intro hs1 hd1))
 have HWG := Lib.hid (And.intro hf2 (And.intro hs2 hd2))
 have HPL := Lib.hid (And.intro hpl (And.intro hl hnc))
 have HN2 := Lib.hid (show n2 ≤ 100 by omega)
 clear hX hY hT hG hes hf1 hs1 hd1 hf2 hs2 hd2 hpl hl hnc hnl hbig
 go_enter Tryz.func4, Tryz.ntmps4
 go_wp2_with fail
 refine (alive7_any w HE.out).mono ?_
 rintro e w1 ⟨rfl, hb1⟩
 have HB1 := Lib.hid hb1
 clear hb1
 go_wp2_with fail
 refine (great_any w1 A n c).mono ?_
 rintro e w2 ⟨rfl, rfl⟩
 rw [hd]
 go_wp2_with fail
 have hof := of_all l.length l w2 A c (Nat.le_refl _) (by have := HPL.out.2; omega) (HPL.out.1.later HB1.out)
 rw [HPL.out.2.1] at hof
 refine hof.mono ?_
 rintro e W1 ⟨x, rfl, hx, hb1⟩
 rw [← HT.out.1] at hx
 rw [tvV_lit]
 obtain ⟨U1, hU1⟩ : ∃ U, U = W1.alloc (.cells #[.int .i64 x.k, .int .i64 x.n, .string ⟨x.s.toArray⟩, .slice x.A x.len x.cap] 28) := ⟨_, rfl⟩
 obtain ⟨bx, hbx⟩ : ∃ b, b = W1.heap.size := ⟨_, rfl⟩
 have hbU1 : Below W1.heap.size W1 U1 := by rw [hU1]; exact (Below.refl _ _).alloc (Nat.le_refl _) _
 have hx0 : U1.heap[bx]? = some (.cells #[.int .i64 x.k, .int .i64 x.n, .string ⟨x.s.toArray⟩, .slice x.A x.len x.cap] 28 (0, 0)) := by rw [hU1, hbx]; exact heap_alloc_new _ _
 have HB2 : Hid (Below w.heap.size w U1) := Lib.hid (HB1.out.trans ((hb1.trans (hbU1.mono hb1.size)).mono HB1.out.size))
 have hxU1 : TermAt U1 U1.heap.size x T := ((hx.at (B := W1.heap.size) fun q hq => hq.2).blw hbU1).up hbU1.size
 have hM := mend_all T.size T U1 x (Nat.le_refl _) (by have := HWT.out.2.1; omega) hxU1
 rw [tvV_lit] at hM
 have HM := Lib.hid hM
 have HX0 := Lib.hid hx0
 have HXU1 := Lib.hid hxU1
 clear hof hx hb1 hbU1 hxU1 hM
 go_upto_region 6 with fail
 rw [← hU1, ← hbx]
 clear hU1 hbx
 obtain ⟨f0, f1, f2, f3, -⟩ := four_at hx0
 clear hx0
 go_wp2_with fail
 refine HM.out.mono ?_
 rintro e W2 ⟨y, rfl, hy, hb2⟩
 rw [← HT.out.2] at hy
 rw [tvV_lit]
 obtain ⟨U, hU⟩ : ∃ U, U = W2.alloc (.cells #[.int .i64 y.k, .int .i64 y.n, .string ⟨y.s.toArray⟩, .slice y.A y.len y.cap] 28) := ⟨_, rfl⟩
 obtain ⟨by', hby⟩ : ∃ b, b = W2.heap.size := ⟨_, rfl⟩
 have hbU : Below W2.heap.size W2 U := by rw [hU]; exact (Below.refl _ _).alloc (Nat.le_refl _) _
 have hy0 : U.heap[by']? = some (.cells #[.int .i64 y.k, .int .i64 y.n, .string ⟨y.s.toArray⟩, .slice y.A y.len y.cap] 28 (0, 0)) := by rw [hU, hby]; exact heap_alloc_new _ _
 have hb12 : Below U1.heap.size U1 U := hb2.trans (hbU.mono hb2.size)
 have hx1 : U.heap[bx]? = some (.cells #[.int .i64 x.k, .int .i64 x.n, .string ⟨x.s.toArray⟩, .slice x.A x.len x.cap] 28 (0, 0)) := (hb12.block bx (Array.getElem?_eq_some_iff.1 HX0.out).1).trans HX0.out
 have HU : Hid (Below w.heap.size w U) := Lib.hid (HB2.out.trans (hb12.mono HB2.out.size))
 have HXU : Hid (∀ v, Below U.heap.size U v → TermAt v v.heap.size x T) := Lib.hid fun v hv => (HXU1.out.later hb12).later hv
 have HYU : Hid (∀ v, Below U.heap.size U v → TermAt v v.heap.size y G) := Lib.hid fun v hv => (((hy.at (B := W2.heap.size) fun q hq => hq.2).blw hbU).up hbU.size).later hv
 have HENV : Hid (∀ v, Below U.heap.size U v → WrEnv v) := Lib.hid fun v hv => (HE.out.later HU.out).later hv
 have HDEF : Hid (∀ v, Below U.heap.size U v → DefsAt v v.heap.size A2 n2 l2) := Lib.hid fun v hv => (HD.out.lat9 HU.out).lat9 hv
 have HCELLS : Hid (∀ v, Below U.heap.size U v → C4 bx x v ∧ C4 by' y v) := Lib.hid fun v hv => by
  obtain ⟨g0, g1, g2, g3, -⟩ := four_at ((hv.block bx (Array.getElem?_eq_some_iff.1 hx1).1).trans hx1)
  obtain ⟨k0, k1, k2, k3, -⟩ := four_at ((hv.block by' (Array.getElem?_eq_some_iff.1 hy0).1).trans hy0)
  exact ⟨⟨g0, g1, g2, g3⟩, k0, k1, k2, k3⟩
 clear f0 f1 f2 f3 hy hb2 hbU hy0 hb12 hx1
 go_upto_region 7 with fail
 rw [← hU, ← hby]
 clear hU hby
 have HMADE : Hid (∀ v, Below U.heap.size U v → Calls Tryz.prog 18 #[.slice A2 n2 c2] v fun e v' => ∃ bt bm, e = .returned (.pointer (some ⟨bt, 0, none⟩)) ∧ TabAt v' bt bm es ∧ Below U.heap.size U v') := Lib.hid fun v hv => by
  have hE := HENV.out v hv
  refine (made_any v A2 n2 c2 l2 (HDEF.out v hv) (by have := HN2.out; omega) hE.rd.kinds hE.rd.tab).mono ?_
  rintro e v' ⟨bt, bm, rfl, h1⟩
  rw [← HES.out] at h1
  exact ⟨bt, bm, rfl, h1.tab, hv.trans (h1.below.mono hv.size)⟩
 have HRMADE : Hid (∀ v, Below U.heap.size U v → Calls Tryz.prog 20 #[.slice A2 n2 c2] v fun e v' => ∃ rt L, e = .returned (.pointer (some ⟨rt, 0, none⟩)) ∧ (RTab v' rt L ∧ Agree es L ∧ L.length ≤ 1000) ∧ Below U.heap.size U v') := Lib.hid fun v hv => by
  refine (rMade_any v A2 n2 c2 l2 (HDEF.out v hv) HN2.out).mono ?_
  rintro e v' ⟨rt, L, rfl, h1⟩
  have h2 := h1.agree
  rw [← HES.out] at h2
  exact ⟨rt, L, rfl, ⟨h1.tab, h2, by have := h1.few; have := HN2.out; omega⟩, hv.trans (h1.below.mono hv.size)⟩
 have HPUT : Hid (∀ (z : TV) (S : Tm) (Z1 : List UInt8) (Z2 : Int), (∀ v, Below U.heap.size U v → TermAt v v.heap.size z S) → (S.fits = true ∧ S.size ≤ 421 ∧ S.deep ≤ 421) → putF es way S = (Z1, Z2) → ∀ v bt bm, Below U.heap.size U v → TabAt v bt bm es → Calls Tryz.prog 14 #[.agg #[.int .i64 z.k, .int .i64 z.n, .string ⟨z.s.toArray⟩, .slice z.A z.len z.cap], .int .i64 way, .pointer (some ⟨bt, 0, none⟩)] v fun e v' => e = .returned (.tuple #[.string ⟨Z1.toArray⟩, .int .i64 Z2]) ∧ Below U.heap.size U v') := Lib.hid fun z S Z1 Z2 hz hf hZ v bt bm hv ht => by
  rw [← tvV_lit]
  refine (wput_any v z S bt bm es way (hz v hv) hf.1 (by omega) (by omega) (HENV.out v hv).wr ht).mono ?_
  rintro e v' ⟨rfl, h1⟩
  rw [hZ]
  exact ⟨rfl, hv.trans (h1.mono hv.size)⟩
 have HRPUT : Hid (∀ (z : TV) (S : Tm) (Z1 : List UInt8) (Z2 : Int), (∀ v, Below U.heap.size U v → TermAt v v.heap.size z S) → (S.fits = true ∧ S.size ≤ 421 ∧ S.deep ≤ 421) → putF es way S = (Z1, Z2) → ∀ v rt L, Below U.heap.size U v → (RTab v rt L ∧ Agree es L ∧ L.length ≤ 1000) → Calls Tryz.prog 19 #[.agg #[.int .i64 z.k, .int .i64 z.n, .string ⟨z.s.toArray⟩, .slice z.A z.len z.cap], .int .i64 way, .pointer (some ⟨rt, 0, none⟩)] v fun e v' => e = .returned (.tuple #[.string ⟨Z1.toArray⟩, .int .i64 Z2]) ∧ Below U.heap.size U v') := Lib.hid fun z S Z1 Z2 hz hf hZ v rt L hv ht => by
  rw [← tvV_lit]
  refine (rput7_any v z S rt L es way (hz v hv) hf.1 (by omega) ht.1 ht.2.1 ht.2.2 ⟨by rw [HES.out]; exact made_curl l2 1, by rw [HES.out]; exact made_curl l2 3⟩).mono ?_
  rintro e v' ⟨rfl, h1⟩
  rw [hZ]
  exact ⟨rfl, hv.trans (h1.mono hv.size)⟩
 have HPX := Lib.hid (HPUT.out x T X1 X2 HXU.out HWT.out HX.out.1)
 have HPY := Lib.hid (HPUT.out y G Y1 Y2 HYU.out HWG.out HX.out.2)
 have HRX := Lib.hid (HRPUT.out x T X1 X2 HXU.out HWT.out HX.out.1)
 have HRY := Lib.hid (HRPUT.out y G Y1 Y2 HYU.out HWG.out HX.out.2)
 have hbr := Below.refl U.heap.size U
 have hbd : Below U.heap.size U U.drew := (Below.refl U.heap.size U).drew
 obtain ⟨⟨y0, y1, y2, y3⟩, -⟩ := HCELLS.out U hbr
 go_region_held3 (C4 bx x)
  (first | (with_reducible exact (HCELLS.out _ (by assumption)).1))
  (first | (go_at_call 18; with_reducible refine (HMADE.out _ (by assumption)).mono ?_; rintro e V1 ⟨bt, bm, rfl, ht, hb1⟩) | (go_at_call 14; refine (HPX.out _ _ _ (by assumption) (by assumption)).mono ?_; rintro e V2 ⟨rfl, hb2⟩))
 have hbd2 : Below U.heap.size U V2.drew := hb2.drew
 clear y0 y1 y2 y3 hbr hbd hb1 ht
 obtain ⟨⟨y0, y1, y2, y3⟩, -⟩ := HCELLS.out V2 hb2
 go_wp2_with fail
 go_region_held3 (C4 bx x)
  (first | (with_reducible exact (HCELLS.out _ (by assumption)).1))
  (first | (go_at_call 20; with_reducible refine (HRMADE.out _ (by assumption)).mono ?_; rintro e V3 ⟨rt, L, rfl, ht, hb3⟩) | (go_at_call 19; refine (HRX.out _ _ _ (by assumption) (by assumption)).mono ?_; rintro e V4 ⟨rfl, hb4⟩))
 have hbd4 : Below U.heap.size U V4.drew := hb4.drew
 clear y0 y1 y2 y3 hbd2 hb2 hb3 ht
 obtain ⟨-, y0, y1, y2, y3⟩ := HCELLS.out V4 hb4
 go_wp2_with fail
 go_region_held3 (C4 by' y)
  (first | (with_reducible exact (HCELLS.out _ (by assumption)).2))
  (first | (go_at_call 18; with_reducible refine (HMADE.out _ (by assumption)).mono ?_; rintro e V5 ⟨bt5, bm5, rfl, ht, hb5⟩) | (go_at_call 14; refine (HPY.out _ _ _ (by assumption) (by assumption)).mono ?_; rintro e V6 ⟨rfl, hb6⟩))
 have hbd6 : Below U.heap.size U V6.drew := hb6.drew
 clear y0 y1 y2 y3 hbd4 hb4 hb5 ht
 obtain ⟨-, y0, y1, y2, y3⟩ := HCELLS.out V6 hb6
 go_wp2_with fail
 go_region_held3 (C4 by' y)
  (first | (with_reducible exact (HCELLS.out _ (by assumption)).2))
  (first | (go_at_call 20; with_reducible refine (HRMADE.out _ (by assumption)).mono ?_; rintro e V7 ⟨rt7, L7, rfl, ht, hb7⟩) | (go_at_call 19; refine (HRY.out _ _ _ (by assumption) (by assumption)).mono ?_; rintro e V8 ⟨rfl, hb8⟩))
 have HF := Lib.hid (HU.out.trans (hb8.mono HU.out.size))
 clear y0 y1 y2 y3 hbd6 hb6 hb7 ht hb8
 have e1 : (X1 == X1) = true := by simp
 have e2 : (Y1 == Y1) = true := by simp
 have e3 : (X2 == X2) = true := by simp
 have e4 : (Y2 == Y2) = true := by simp
 go_wp2_with fail
 go_ret
 exact ⟨by simp, HF.out⟩
open Go.ChangeShapes Go.WideShapes Go.ChangeAt Go.RowKit
section
variable {H : Type} {enc : TypeId × Value → H} {P : Program}
theorem trodAll_below (hl : laidOutB P = true) {W W' : World} (hb : Below W.heap.size W W') : ∀ (ts : List TypeId) (vs : List Value) (ds : List (DataW H)) (ps : List MemPlace), (∀ t ∈ ts, P.readableRec t = true ∧ t < P.types.size) →
    DataW.TrodAll enc P W 0 (fun _ => true) true ts vs ds ps → (∀ x ∈ ps, x.block < W.heap.size) → DataW.TrodAll enc P W' 0 (fun b => decide (b < W.heap.size)) true ts vs ds ps
 | [], [], [], _, _, h, _ => h
 | [], [], _ :: _, _, _, h, _ => h.elim
 | [], _ :: _, _, _, _, h, _ => h.elim
 | _ :: _, [], _, _, _, h, _ => h.elim
 | _ :: _, _ :: _, [], _, _, h, _ => h.elim
 | t :: ts, v :: vs, d :: ds, ps, ht, h, hlt => by
  obtain ⟨p, q, h1, h2, rfl⟩ := h
  exact ⟨p, q, Below.trod hl (ht t (List.mem_cons_self ..)).1 (ht t (List.mem_cons_self ..)).2 h1 hb (fun x hx => hlt x (List.mem_append_left _ hx)),
   trodAll_below hl hb ts vs ds q (fun t' h' => ht t' (List.mem_cons_of_mem _ h')) h2 (fun x hx => hlt x (List.mem_append_right _ hx)), rfl⟩
theorem law_post (hl : laidOutB P = true) {f : Func} {s : ChangeSpec} {W W' : World} {args : Array Value} {ds gs : List (DataW H)} {before : List MemPlace} {tb : TypeId} (hbool : P.underlying tb = some .bool) (hres : f.resultTypes = #[tb])
    (hv : s.vars = []) (hW : DataW.Whole enc P f.params.toList s.vars false W args.toList ds gs before) (hb : Below W.heap.size W W')
    (hts : ∀ t ∈ f.params.toList, P.readableRec t = true ∧ t < P.types.size) (h1 : (s.fn H (ds ++ gs)).results = [.lit (.bool true)]) (h2 : (s.fn H (ds ++ gs)).args = ds) (h3 : (s.fn H (ds ++ gs)).vars = []) :
    s.post enc P f false true false false W args (.bool true) W' := by
 have hlt := hW.lt
 have hW' := hW
 obtain ⟨p, q, hA, hV, rfl, _, _⟩ := hW
 rw [hv] at hV
 have hV' := hV
 obtain ⟨hg, hq⟩ := trodVars_none hV
 subst hg
 subst hq
 refine ⟨ds, [], _, [], p, [], hW', ?_, ?_, ?_, hb.frame _, fun h => by cases h⟩
 ·rw [h1, hres]
  exact trodAll_mk1 (shut_bool hbool true)
 ·rw [h2]
  exact trodAll_below hl hb _ _ _ _ hts hA (fun x hx => hlt x (List.mem_append_left _ hx))
 ·rw [hv, h3]
  rfl
end
end Go.Proofs.YtcallkljcjimiaaGreatDoor
namespace Go.Proofs.YtcallkljcjimiaaGreatDoor
set_option maxRecDepth 100000
open Go.ChangeShapes Go.WideShapes Go.ChangeAt Go.RowKit Go.Deep
theorem exists_list {α : Type} {Q : Nat → α → Prop} : ∀ (n : Nat), (∀ i, i < n → ∃ x, Q i x) → ∃ l : List α, l.length = n ∧ ∀ i x, l[i]? = some x → Q i x
 | 0, _ => ⟨[], rfl, fun i x h => by simp at h⟩
 | n + 1, h => by
  obtain ⟨l, hl, hq⟩ := exists_list n (fun i hi => h i (by omega))
  obtain ⟨x, hx⟩ := h n (by omega)
  refine ⟨l ++ [x], by simp [hl], fun i y hy => ?_⟩
  by_cases hi : i < l.length
  ·rw [List.getElem?_append_left hi] at hy
   exact hq i y hy
  ·have : i = l.length := by
    have h1 := (List.getElem?_eq_some_iff.1 hy).1
    simp at h1
    omega
   subst this
   simp at hy
   subst hy
   rw [hl]
   exact hx
theorem addr_of_cell {w : World} {a : Addr} {v : Value} (h : w.cell? a = some v) : a = ⟨a.block, a.off, none⟩ := by
 obtain ⟨b, o, s⟩ := a
 cases s with
 | none => rfl
 | some x =>
  unfold World.cell? at h
  simp only at h
  split at h
  ·simp at h
  ·cases h
theorem add_lit' (b o i : Nat) : (⟨b, o, none⟩ : Addr).add i = ⟨b, o + i, none⟩ := by unfold Addr.add; split <;> simp_all
theorem rows_at {w : World} {base : Nat} {a : Addr} {k len : Nat} (hk : 0 < k) (h : ∀ i, i < len → ∃ cs, w.cells? base (a.add (i * k)) k = some cs) (hl : 0 < len) : a = ⟨a.block, a.off, none⟩ ∧ a.block < w.heap.size := by
 obtain ⟨cs, hc⟩ := h 0 hl
 obtain ⟨_, h1, h2⟩ := World.cells?_some hc
 have h3 := h2 0 hk
 have h4 : cs[0]? = some (cs[0]'(by omega)) := List.getElem?_eq_getElem _
 rw [h4] at h3
 have e : (a.add (0 * k)).add 0 = a := by simp [Addr.add]
 rw [e] at h3
 exact ⟨addr_of_cell h3, World.block_lt_of_cell? w _ h3⟩
open Go.ChangeShapes Go.WideShapes Go.ChangeAt Go.RowKit
def tab64 : List Int := [0, 1, 56, 2, 57, 49, 28, 3, 61, 58, 42, 50, 38, 29, 17, 4, 62, 47, 59, 36, 45, 43, 51, 22, 53, 39, 33, 30, 24, 18, 12, 5, 63, 55, 48, 27, 60, 41, 37, 16, 46, 35, 44, 21, 52, 32, 23, 11, 54, 26, 40, 15, 34, 20, 31, 10, 25, 14, 19, 9, 13, 8, 7, 6]
theorem gTab : Tryz.prog.globalNamed "math/bits.deBruijn64tab" = some 6 := by kernel_rfl
theorem gTabType : (Tryz.prog.globals[6]?).map (·.type) = some 235 := by kernel_rfl
theorem byteCells25 : Tryz.prog.cellsOf 5 = 1 := by kernel_rfl
theorem tabCells25 : Tryz.prog.cellsOf 235 = 64 := by kernel_rfl
theorem tab_of_laid {W : World} {rest : List (String × DataW Unit)} (h : laidMet Tryz.prog (("math/bits.deBruijn64tab", Rows.laid_math_bits_deBruijn64tab) :: rest) W) : W.cell? ⟨6, 15, none⟩ = some (.int .u8 4) :=
 (Lib.tabIs_of_head (zs := tab64) (rest := rest) gTab gTabType Tryz.underlying235 Tryz.underlying5 byteCells25 tabCells25 h).cell gTab 15 (by decide)
theorem gKinds : Tryz.prog.globalNamed "prolix/ops.kinds" = some 0 := by kernel_rfl
theorem gKindsType : (Tryz.prog.globals[0]?).map (·.type) = some 89 := by kernel_rfl
theorem gSpace : Tryz.prog.globalNamed "strings.asciiSpace" = some 1 := by kernel_rfl
theorem gSpaceType : (Tryz.prog.globals[1]?).map (·.type) = some 129 := by kernel_rfl
theorem kindCells : Tryz.prog.cellsOf 88 = 3 := by kernel_rfl
theorem byteCells : Tryz.prog.cellsOf 5 = 1 := by kernel_rfl
theorem spaceCells : Tryz.prog.cellsOf 129 = 256 := by kernel_rfl
theorem kindFields : ∃ f g k : Field, Tryz.prog.underlying 88 = some (.struct #[f, g, k]) ∧ f.type = 3 ∧ g.type = 3 ∧ k.type = 3 ∧ f.offset = 0 ∧ g.offset = 1 ∧ k.offset = 2 := ⟨_, _, _, Tryz.underlying88, rfl, rfl, rfl, rfl, rfl, rfl⟩
theorem space_of_laid {W : World} {rest : List (String × DataW Unit)} (h : laidMet Tryz.prog (("strings.asciiSpace", Rows.laid_strings_asciiSpace) :: rest) W) : Lib.TabIs Tryz.prog W "strings.asciiSpace" .u8 Lib.asciiSpaceTab :=
 Lib.tabIs_of_head (rest := rest) gSpace gSpaceType Tryz.underlying129 Tryz.underlying5 byteCells spaceCells h
theorem kinds_of_laid {W : World} {rest : List (String × DataW Unit)} (h : laidMet Tryz.prog (("prolix/ops.kinds", Rows.laid_prolix_ops_kinds) :: rest) W) : KindsAt W := by
 obtain ⟨ps, ⟨g', t', cs, fuel, p, q, hg', ht', hvar, hd, _, _⟩, _⟩ := h
 obtain rfl := Option.some.inj (gKinds.symm.trans hg')
 obtain rfl := Option.some.inj (gKindsType.symm.trans ht')
 obtain ⟨xs, m, _, hx, hlen, hn, hel⟩ := DataW.trod_array Tryz.underlying89 hd
 obtain ⟨f, g, k, hu, f1, g1, k1, f2, g2, k2⟩ := kindFields
 simp only [Prod.mk.injEq, Rows.laid_prolix_ops_kinds, DataW.agg.injEq] at hx
 intro t ht
 have hi := hel t (by omega)
 obtain ⟨x, hxt⟩ : ∃ x, xs[t]? = some x := ⟨_, List.getElem?_eq_getElem (by omega)⟩
 rw [hxt, kindCells] at hi
 obtain ⟨ys, _, _, hy, hl3, hyl, hf⟩ := DataW.trod_struct hu hi
 have hcs : ∀ i, i < 3 → W.cell? ⟨0, t * 3 + i, none⟩ = ((cs.toList.drop (t * 3)).take 3)[i]? := by
  intro i hi
  rw [World.var?_cell gKinds hvar (t * 3 + i), List.getElem?_take, if_pos hi, List.getElem?_drop]
  simp
 have hmap := congrArg (·[t]?) hx.1
 simp only [List.getElem?_map, hxt, Option.map_some, hy] at hmap
 rw [kindCells] at hl3
 generalize hz : (cs.toList.drop (t * 3)).take 3 = zs at *
 match zs, hl3 with
 | [c0, c1, c2], _ =>
  have e0 := hf 0 f rfl
  have e1 := hf 1 g rfl
  have e2 := hf 2 k rfl
  rw [f1, f2, intCells] at e0
  rw [g1, g2, intCells] at e1
  rw [k1, k2, intCells] at e2
  simp only [List.drop_zero, List.take_succ_cons, List.take_zero, List.drop_succ_cons] at e0 e1 e2
  have hyl' : ys.length = 3 := hyl
  match ys, hyl' with
  | [y0, y1, y2], _ =>
   simp only [List.getElem?_cons_zero, List.getElem?_cons_succ] at e0 e1 e2
   obtain ⟨n0, h0, h0', _⟩ := DataW.trod_int Tryz.underlying3 e0
   obtain ⟨n1, h1, h1', _⟩ := DataW.trod_int Tryz.underlying3 e1
   obtain ⟨n2, h2, h2', _⟩ := DataW.trod_int Tryz.underlying3 e2
   simp only [List.cons.injEq, and_true] at h0 h1 h2
   subst h0 h1 h2 h0' h1' h2'
   have a0 := hcs 0 (by omega)
   have a1 := hcs 1 (by omega)
   have a2 := hcs 2 (by omega)
   simp only [List.getElem?_cons_zero, List.getElem?_cons_succ, Nat.add_zero] at a0 a1 a2
   rw [a0, a1, a2]
   simp only [List.map_cons, List.map_nil] at hmap
   have : t = 0 ∨ t = 1 ∨ t = 2 ∨ t = 3 ∨ t = 4 ∨ t = 5 ∨ t = 6 ∨ t = 7 := by omega
   rcases this with rfl | rfl | rfl | rfl | rfl | rfl | rfl | rfl <;> simp at hmap <;> obtain ⟨rfl, rfl, rfl⟩ := hmap <;> exact ⟨rfl, rfl, rfl⟩
end Go.Proofs.YtcallkljcjimiaaGreatDoor
