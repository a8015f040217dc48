import Derived.Test.YtcallkljcjimiaaGreatDoorJW47
import Derived.Deep.RegionHeld3
namespace Go.Proofs.YtcallkljcjimiaaGreatDoor
open Go.RowKit Go.Maps
set_option maxRecDepth 100000
theorem operF_two (es : List (OpK × OpV)) (t : Tm) : operF es 2 t = none := by
 unfold operF
 simp
theorem init_goodOp : ∀ x ∈ opsInit, goodOp x := by
 have h : (opsInit.all fun x => decide (x.1.1 = kSort x.2.2 ∧ x.1.2.length ≤ 1000 ∧ 1 ≤ x.2.1 ∧ x.2.1 ≤ 1200 ∧ 1 ≤ x.2.2 ∧ x.2.2 ≤ 7)) = true := by decide +kernel
 intro x hx
 have h1 := of_decide_eq_true (List.all_eq_true.1 h x hx)
 exact h1
theorem canon_same (es es2 : List (OpK × OpV)) : ∀ (f : Nat) (t : Tm) (m : Int), wrF es 2 f t m = wrF es2 2 f t m
 | 0, _, _ => rfl
 | f + 1, t, m => by
  have hg : wrF es 2 f = wrF es2 2 f := funext fun t => funext fun m => canon_same es es2 f t m
  rw [wrF, wrF, hg]
  unfold wrStep compF
  rw [operF_two, operF_two]
theorem canon_text (es es2 : List (OpK × OpV)) (t : Tm) (m : Int) : wrT es 2 t m = wrT es2 2 t m := canon_same es es2 _ t m
set_option maxHeartbeats 16000000 in
theorem canon_law (w : World) (A : Option Addr) (n c : Nat) (hp : PartsIn w A n c) (A2 : Option Addr) (n2 c2 : Nat) (l2 : List DefT) (hd2 : DefsAt w w.heap.size A2 n2 l2) (hm2 : n2 ≤ maxLen) (A3 : Option Addr) (n3 c3 : Nat) (l3 : List DefT) (hd3 : DefsAt w w.heap.size A3 n3 l3) (hm3 : n3 ≤ maxLen) (hE : WrEnv w) :
    Calls Tryz.prog 8 #[.slice A n c, .slice A2 n2 c2, .slice A3 n3 c3] w fun e w' => e = .returned (.bool true) ∧ Below w.heap.size w w' := by
 have HE := Lib.hid hE
 have HP := Lib.hid hp
 have HD := Lib.hid hd2
 have HD3 := Lib.hid hd3
 have hm9 : n2 ≤ 9223372036854775807 := hm2
 have hm10 : n3 ≤ 9223372036854775807 := hm3
 clear hE hp hd2 hd3 hm2 hm3
 obtain ⟨d0, hd0⟩ : ∃ d, d = decide (60 < n) := ⟨_, rfl⟩
 by_cases hbad : 60 < n ∨ 100 < n2 ∨ 100 < n3
 ·have HBAD := Lib.hid hbad
  clear hbad
  go_enter Tryz.func8, Tryz.ntmps8
  go_wp2_with fail
  refine (alive7_any w HE.out).mono ?_
  rintro e w1 ⟨rfl, hb1⟩
  have HB1 := Lib.hid hb1
  clear hb1
  go_wp2_with fail
  refine (great_any w1 A n c).mono ?_
  rintro e w2 ⟨rfl, rfl⟩
  rw [← hd0]
  cases d0 with
  | true =>
   clear hd0
   go_wp2_with fail
   go_ret
   exact ⟨rfl, HB1.out⟩
  | false =>
   have h60 : ¬ 60 < n := by simpa using hd0.symm
   have HN := Lib.hid h60
   clear hd0 h60
   by_cases h2 : (100 : Int) < (n2 : Int)
   ·go_wp2_with fail
    go_ret
    exact ⟨rfl, HB1.out⟩
   ·have h3 : (100 : Int) < (n3 : Int) := by have := HBAD.out; have := HN.out; omega
    go_wp2_with fail
    go_ret
    exact ⟨rfl, HB1.out⟩
 have h2 : ¬ (100 : Int) < (n2 : Int) := by omega
 have h3 : ¬ (100 : Int) < (n3 : Int) := by omega
 have hd : decide (60 < n) = false := by simp; omega
 have hn60 : n ≤ 60 := by omega
 have HN3 := Lib.hid (show n2 ≤ 1000000 ∧ n3 ≤ 1000000 by omega)
 clear hbad hd0
 obtain ⟨l, hl, hnc, hpl, hnl⟩ := HP.out hn60
 obtain ⟨hw, hsz, hdp, hbf, hck⟩ := good_all hnl (by omega)
 have hwg := good_wgt (l := l) (by omega)
 obtain ⟨T, hT⟩ : ∃ T, T = goodT l := ⟨_, rfl⟩
 obtain ⟨es, hes⟩ : ∃ es, es = tabMade l2 := ⟨_, rfl⟩
 obtain ⟨es3, hes3⟩ : ∃ es, es = tabMade l3 := ⟨_, rfl⟩
 have hp1 := put_good (es := es) (way := 2) (.inr (.inr rfl)) hck
 have hp2 := put_good (es := es3) (way := 2) (.inr (.inr rfl)) hck
 rw [← hT] at hw hsz hdp hwg hp1 hp2
 rw [canon_text es3 es] at hp2
 obtain ⟨X, hX⟩ : ∃ X, X = wrT es 2 T 1200 := ⟨_, rfl⟩
 rw [← hX] at hp1 hp2
 have HT := Lib.hid hT
 have HES := Lib.hid (And.intro hes hes3)
 have HWF := Lib.hid (And.intro hw (And.intro hsz (And.intro hdp hwg)))
 have HPL := Lib.hid (And.intro hpl (And.intro hl hnc))
 have HP1 := Lib.hid hp1
 have HP2 := Lib.hid hp2
 have HX := Lib.hid hX
 clear hT hes hes3 hw hsz hdp hbf hwg hpl hl hnc hnl hck hp1 hp2 hX
 go_enter Tryz.func8, Tryz.ntmps8
 go_wp2_with fail
 refine (alive7_any w HE.out).mono ?_
 rintro e w1 ⟨rfl, hb1⟩
 have HB1 := Lib.hid hb1
 clear hb1
 go_wp2_with fail
 refine (great_any w1 A n c).mono ?_
 rintro e w2 ⟨rfl, rfl⟩
 rw [hd]
 go_wp2_with fail
 have hgd := good_any l w2 A c (by have := HPL.out.2; omega) (HPL.out.1.later HB1.out) (by have := HPL.out.2.1; omega)
 rw [HPL.out.2.1] at hgd
 have HGD := Lib.hid hgd
 clear hgd
 refine HGD.out.mono ?_
 rintro e W1 ⟨x, rfl, hx, hb1⟩
 rw [tvV_lit]
 have HB2 : Hid (Below w.heap.size w W1) := Lib.hid (HB1.out.trans (hb1.mono HB1.out.size))
 have HX1 : Hid (TermAt W1 W1.heap.size x T) := Lib.hid (by rw [HT.out]; exact hx.at (B := W1.heap.size) fun q hq => hq.2)
 clear hx hb1
 go_wp2_with fail
 have hE2 := HE.out.later HB2.out
 refine (made_any W1 A2 n2 c2 l2 (HD.out.lat HB2.out) HN3.out.1 hE2.rd.kinds hE2.rd.tab).mono ?_
 rintro e W2 ⟨bt, bm, rfl, hM⟩
 rw [← HES.out.1] at hM
 have HM2 := Lib.hid hM
 have HB3 : Hid (Below w.heap.size w W2) := Lib.hid (HB2.out.trans (hM.below.mono HB2.out.size))
 clear hM hE2
 go_wp2_with fail
 have hE3 := HE.out.later HB3.out
 refine (made_any W2 A3 n3 c3 l3 (HD3.out.lat HB3.out) HN3.out.2 hE3.rd.kinds hE3.rd.tab).mono ?_
 rintro e W3 ⟨bt3, bm3, rfl, hM⟩
 rw [← HES.out.2] at hM
 obtain ⟨U, hU⟩ : ∃ U, U = W3.alloc (.cells #[.int .i64 x.k, .int .i64 x.n, .string ⟨x.s.toArray⟩, .slice x.A x.len x.cap] 28) := ⟨_, rfl⟩
 obtain ⟨bx, hbx⟩ : ∃ b, b = W3.heap.size := ⟨_, rfl⟩
 have hbU : Below W3.heap.size W3 U := by rw [hU]; exact (Below.refl _ _).alloc (Nat.le_refl _) _
 have hx0 : U.heap[bx]? = some (.cells #[.int .i64 x.k, .int .i64 x.n, .string ⟨x.s.toArray⟩, .slice x.A x.len x.cap] 28 (0, 0)) := by rw [hU, hbx]; exact heap_alloc_new _ _
 have hb23 := hM.below
 have hb2U : Below W2.heap.size W2 U := hb23.trans (hbU.mono hb23.size)
 have hbu : Below w.heap.size w U := HB3.out.trans (hb2U.mono HB3.out.size)
 have HU := Lib.hid (And.intro hbu hx0)
 have HTAB : Hid (TabAt U bt bm es ∧ TabAt U bt3 bm3 es3) := Lib.hid ⟨HM2.out.tab.later hb2U, hM.tab.later hbU⟩
 have HXU : Hid (TermAt U U.heap.size x T) := Lib.hid ((HX1.out.later HM2.out.below).later hb2U)
 have HOK : Hid (TabOk (opsOf es3) ∧ TabOk (opsOf opsInit)) := Lib.hid ⟨by rw [HES.out.2]; refine tabOk_made l3 ?_; rw [← HES.out.2]; exact hM.tab.good, tabOk_made [] init_goodOp⟩
 have HEU : Hid (WrEnv U) := Lib.hid (HE.out.later hbu)
 obtain ⟨y0, y1, y2, y3, -⟩ := four_at hx0
 clear hM hbU hx0 hb23 hb2U hbu hE3
 go_upto_region 6 with fail
 rw [← hU, ← hbx]
 clear hU hbx
 have HPUT : Hid (∀ v b2 m2 e2, putF e2 2 T = (X, 0) → Below U.heap.size U v → TabAt v b2 m2 e2 → Calls Tryz.prog 14 #[.agg #[.int .i64 x.k, .int .i64 x.n, .string ⟨x.s.toArray⟩, .slice x.A x.len x.cap], .int .i64 2, .pointer (some ⟨b2, 0, none⟩)] v fun e v' => e = .returned (.tuple #[.string ⟨X.toArray⟩, .int .i64 0]) ∧ Below U.heap.size U v') := Lib.hid fun v b2 m2 e2 hY hv ht => by
  rw [← tvV_lit]
  refine (wput_any v x T b2 m2 e2 2 (HXU.out.later hv) HWF.out.1.fits (by have := HWF.out.2.1; omega) (by have := HWF.out.2.2.1; omega) (HEU.out.later hv).wr ht).mono ?_
  rintro e v' ⟨rfl, h1⟩
  rw [hY]
  exact ⟨rfl, hv.trans (h1.mono hv.size)⟩
 have HBK : Hid (∀ v b2 m2 e2, TabOk (opsOf e2) → Below U.heap.size U v → TabAt v b2 m2 e2 → Calls Tryz.prog 26 #[.string ⟨X.toArray⟩, .pointer (some ⟨b2, 0, none⟩), .agg #[.int .i64 x.k, .int .i64 x.n, .string ⟨x.s.toArray⟩, .slice x.A x.len x.cap]] v fun e v' => e = .returned (.bool true) ∧ Below U.heap.size U v' ∧ Below v.heap.size v v') := Lib.hid fun v b2 m2 e2 hO hv ht => by
  rw [← tvV_lit, HX.out]
  refine (back_put v (HEU.out.later hv).rd es e2 2 (by decide) b2 m2 ht hO (fun e => absurd rfl e) x T (HXU.out.later hv) HWF.out.1 (by have := HWF.out.2.2.1; omega) (by have := HWF.out.2.1; omega) (by have := HWF.out.2.2.2; omega)).mono ?_
  rintro e v' ⟨rfl, h1⟩
  exact ⟨rfl, hv.trans (h1.mono hv.size), h1⟩
 have HNEW : Hid (∀ v, Below U.heap.size U v → Calls Tryz.prog 15 #[] v fun e v' => ∃ bt bm, e = .returned (.pointer (some ⟨bt, 0, none⟩)) ∧ TabAt v' bt bm opsInit ∧ Below U.heap.size U v') := Lib.hid fun v hv => by
  have hE := HEU.out.later hv
  refine (new_any v hE.rd.kinds hE.rd.tab).mono ?_
  rintro e v' ⟨bt, bm, rfl, h1, -, -, -, h2⟩
  exact ⟨bt, bm, rfl, h1, hv.trans (h2.mono hv.size)⟩
 have HCELLS : Hid (∀ v, Below U.heap.size U v → v.cell? ⟨bx, 0, none⟩ = some (.int .i64 x.k) ∧ v.cell? ⟨bx, 1, none⟩ = some (.int .i64 x.n) ∧ v.cell? ⟨bx, 2, none⟩ = some (.string ⟨x.s.toArray⟩) ∧ v.cell? ⟨bx, 3, none⟩ = some (.slice x.A x.len x.cap)) := Lib.hid fun v hv => by
  obtain ⟨g0, g1, g2, g3, -⟩ := four_at ((hv.block bx (Array.getElem?_eq_some_iff.1 HU.out.2).1).trans HU.out.2)
  exact ⟨g0, g1, g2, g3⟩
 go_wp2_with fail
 refine (HPUT.out U bt bm es HP1.out (Below.refl _ _) HTAB.out.1).mono ?_
 rintro e U2 ⟨rfl, hb2⟩
 have HU2 := Lib.hid hb2
 clear y0 y1 y2 y3
 obtain ⟨y0, y1, y2, y3⟩ := HCELLS.out U2 hb2
 clear hb2
 go_wp2_with fail
 refine (HPUT.out U2 bt3 bm3 es3 HP2.out HU2.out (HTAB.out.2.later HU2.out)).mono ?_
 rintro e U3 ⟨rfl, hb3⟩
 have HBK3 : Hid (∀ v, Below U.heap.size U v → Calls Tryz.prog 26 #[.string ⟨X.toArray⟩, .pointer (some ⟨bt3, 0, none⟩), .agg #[.int .i64 x.k, .int .i64 x.n, .string ⟨x.s.toArray⟩, .slice x.A x.len x.cap]] v fun e v' => e = .returned (.bool true) ∧ Below U.heap.size U v' ∧ Below v.heap.size v v') := Lib.hid fun v hv => HBK.out v bt3 bm3 es3 HOK.out.1 hv (HTAB.out.2.later hv)
 have hbd : Below U.heap.size U U3.drew := hb3.drew
 clear y0 y1 y2 y3
 obtain ⟨y0, y1, y2, y3⟩ := HCELLS.out U3 hb3
 go_upto_region 8 with fail
 go_region_held3 (fun v => v.cell? ⟨bx, 0, none⟩ = some (.int .i64 x.k) ∧ v.cell? ⟨bx, 1, none⟩ = some (.int .i64 x.n) ∧ v.cell? ⟨bx, 2, none⟩ = some (.string ⟨x.s.toArray⟩) ∧ v.cell? ⟨bx, 3, none⟩ = some (.slice x.A x.len x.cap))
  (first | (with_reducible exact HCELLS.out _ (by assumption)))
  (first | (go_at_call 15; with_reducible refine (HNEW.out _ (by assumption)).mono ?_; rintro e V1 ⟨b4, m4, rfl, ht, hb4⟩) | (go_at_call 26; with_reducible refine (HBK3.out _ (by assumption)).mono ?_; rintro e V2 ⟨rfl, hb5, hk5⟩; (try (replace ht := TabAt.later ht hk5))) | (go_at_call 26; refine (HBK.out _ _ _ _ HOK.out.2 (by assumption) (by assumption)).mono ?_; rintro e V3 ⟨rfl, hb6, hk6⟩))
 all_goals
  go_wp2_with fail
  go_ret
  exact ⟨rfl, HU.out.1.trans (hb6.mono HU.out.1.size)⟩
end Go.Proofs.YtcallkljcjimiaaGreatDoor
