import Derived.Test.YtcallkljcjimiaaGreatDoorJW47
namespace Go.Proofs.YtcallkljcjimiaaGreatDoor
open Go.RowKit Go.Maps
set_option maxRecDepth 100000
set_option maxHeartbeats 16000000 in
theorem back_law (w : World) (A : Option Addr) (n c : Nat) (hp : PartsIn w A n c) (A2 : Option Addr) (n2 c2 : Nat) (l2 : List DefT) (hd2 : DefsAt w w.heap.size A2 n2 l2) (hm2 : n2 ≤ maxLen) (hE : WrEnv w) :
    Calls Tryz.prog 7 #[.slice A n c, .slice A2 n2 c2] w fun e w' => e = .returned (.bool true) ∧ Below w.heap.size w w' := by
 have HE := Lib.hid hE
 have HP := Lib.hid hp
 have HD := Lib.hid hd2
 clear hE hp hd2
 by_cases hn : 60 < n
 ·have hd : decide (60 < n) = true := by simpa using hn
  go_enter Tryz.func7, Tryz.ntmps7
  go_wp2_with fail
  refine (alive7_any w HE.out).mono ?_
  rintro e w1 ⟨rfl, hb1⟩
  have HB1 := Lib.hid hb1
  clear hb1
  go_wp2_with fail
  refine (great_any w1 A n c).mono ?_
  rintro e w2 ⟨rfl, rfl⟩
  rw [hd]
  go_wp2_with fail
  go_ret
  exact ⟨rfl, HB1.out⟩
 have hd : decide (60 < n) = false := by simpa using hn
 have hm9 : n2 ≤ 9223372036854775807 := hm2
 by_cases hn2 : 100 < n2
 ·have h2 : (100 : Int) < (n2 : Int) := by omega
  go_enter Tryz.func7, Tryz.ntmps7
  go_wp2_with fail
  refine (alive7_any w HE.out).mono ?_
  rintro e w1 ⟨rfl, hb1⟩
  have HB1 := Lib.hid hb1
  clear hb1
  go_wp2_with fail
  refine (great_any w1 A n c).mono ?_
  rintro e w2 ⟨rfl, rfl⟩
  rw [hd]
  go_wp2_with fail
  go_ret
  exact ⟨rfl, HB1.out⟩
 have h2 : ¬ (100 : Int) < (n2 : Int) := by omega
 obtain ⟨l, hl, hnc, hpl, hnl⟩ := HP.out (by omega)
 obtain ⟨hw, hsz, hdp, hbf, hck⟩ := good_all hnl (by omega)
 have hwg := good_wgt (l := l) (by omega)
 obtain ⟨T, hT⟩ : ∃ T, T = goodT l := ⟨_, rfl⟩
 obtain ⟨es, hes⟩ : ∃ es, es = tabMade l2 := ⟨_, rfl⟩
 have hp1 := put_good (es := es) (way := 1) (.inr (.inl rfl)) hck
 rw [← hT] at hw hsz hdp hwg hp1
 obtain ⟨X, hX⟩ : ∃ X, X = wrT es 1 T 1200 := ⟨_, rfl⟩
 rw [← hX] at hp1
 have HT := Lib.hid hT
 have HES := Lib.hid hes
 have HWF := Lib.hid (And.intro hw (And.intro hsz (And.intro hdp hwg)))
 have HPL := Lib.hid (And.intro hpl (And.intro hl hnc))
 have HP1 := Lib.hid hp1
 have HX := Lib.hid hX
 clear hT hes hw hsz hdp hbf hwg hpl hl hnc hnl hck hp1 hX
 go_enter Tryz.func7, Tryz.ntmps7
 go_wp2_with fail
 refine (alive7_any w HE.out).mono ?_
 rintro e w1 ⟨rfl, hb1⟩
 have HB1 := Lib.hid hb1
 clear hb1
 go_wp2_with fail
 refine (great_any w1 A n c).mono ?_
 rintro e w2 ⟨rfl, rfl⟩
 rw [hd]
 go_wp2_with fail
 have hgd := good_any l w2 A c (by have := HPL.out.2; omega) (HPL.out.1.later HB1.out) (by have := HPL.out.2.1; omega)
 rw [HPL.out.2.1] at hgd
 have HGD := Lib.hid hgd
 clear hgd
 refine HGD.out.mono ?_
 rintro e W1 ⟨x, rfl, hx, hb1⟩
 rw [tvV_lit]
 have HB2 : Hid (Below w.heap.size w W1) := Lib.hid (HB1.out.trans (hb1.mono HB1.out.size))
 have HX1 : Hid (TermAt W1 W1.heap.size x T) := Lib.hid (by rw [HT.out]; exact hx.at (B := W1.heap.size) fun q hq => hq.2)
 clear hx hb1
 go_wp2_with fail
 have hE2 := HE.out.later HB2.out
 refine (made_any W1 A2 n2 c2 l2 (HD.out.lat HB2.out) (by omega) hE2.rd.kinds hE2.rd.tab).mono ?_
 rintro e W2 ⟨bt, bm, rfl, hM⟩
 rw [← HES.out] at hM
 obtain ⟨U, hU⟩ : ∃ U, U = W2.alloc (.cells #[.int .i64 x.k, .int .i64 x.n, .string ⟨x.s.toArray⟩, .slice x.A x.len x.cap] 28) := ⟨_, rfl⟩
 obtain ⟨bx, hbx⟩ : ∃ b, b = W2.heap.size := ⟨_, rfl⟩
 have hbU : Below W2.heap.size W2 U := by rw [hU]; exact (Below.refl _ _).alloc (Nat.le_refl _) _
 have hx0 : U.heap[bx]? = some (.cells #[.int .i64 x.k, .int .i64 x.n, .string ⟨x.s.toArray⟩, .slice x.A x.len x.cap] 28 (0, 0)) := by rw [hU, hbx]; exact heap_alloc_new _ _
 have hb12 := hM.below
 have hbu : Below w.heap.size w U := HB2.out.trans ((hb12.trans (hbU.mono hb12.size)).mono HB2.out.size)
 have HU := Lib.hid (And.intro hbu hx0)
 have HTAB : Hid (TabAt U bt bm es) := Lib.hid (hM.tab.later hbU)
 have HXU : Hid (TermAt U U.heap.size x T) := Lib.hid ((HX1.out.later hb12).later hbU)
 have HOK : Hid (TabOk (opsOf es)) := Lib.hid (by rw [HES.out]; refine tabOk_made l2 ?_; rw [← HES.out]; exact hM.tab.good)
 have HEU : Hid (WrEnv U) := Lib.hid (HE.out.later hbu)
 obtain ⟨y0, y1, y2, y3, -⟩ := four_at hx0
 clear hM hbU hx0 hb12 hbu hE2
 go_upto_region 6 with fail
 rw [← hU, ← hbx]
 clear hU hbx
 go_wp2_with fail
 have hput := wput_any U x T bt bm es 1 HXU.out HWF.out.1.fits (by have := HWF.out.2.1; omega) (by have := HWF.out.2.2.1; omega) HEU.out.wr HTAB.out
 rw [HP1.out, tvV_lit] at hput
 refine hput.mono ?_
 rintro e U2 ⟨rfl, hb2⟩
 have HB3 : Hid (Below w.heap.size w U2) := Lib.hid (HU.out.1.trans (hb2.mono HU.out.1.size))
 have hx2 := (hb2.block bx (Array.getElem?_eq_some_iff.1 HU.out.2).1).trans HU.out.2
 have hbk := back_put U2 (HEU.out.later hb2).rd es es 1 (by decide) bt bm (HTAB.out.later hb2) HOK.out (fun _ => rfl) x T (HXU.out.later hb2) HWF.out.1 (by have := HWF.out.2.2.1; omega) (by have := HWF.out.2.1; omega) (by have := HWF.out.2.2.2; omega)
 rw [← HX.out, tvV_lit] at hbk
 have HBK := Lib.hid hbk
 clear hbk hput hb2 y0 y1 y2 y3
 obtain ⟨y0, y1, y2, y3, -⟩ := four_at hx2
 clear hx2
 go_wp2_with fail
 refine HBK.out.mono ?_
 rintro e U3 ⟨rfl, hb3⟩
 have HF := Lib.hid (HB3.out.trans (hb3.mono HB3.out.size))
 clear hb3
 go_wp2_with fail
 go_ret
 exact ⟨rfl, HF.out⟩
end Go.Proofs.YtcallkljcjimiaaGreatDoor
