import Derived.Test.YtiffopheamnngaaGreatDoorJT16
namespace Go.Proofs.YtiffopheamnngaaGreatDoor
open Go.RowKit Go.Maps
set_option maxRecDepth 100000
set_option maxHeartbeats 16000000 in
theorem read_someQ (hTA : ∀ n, RTermC n) (hCK : ∀ (u : World) (x : TV) (t : Tm), TermAt u u.heap.size x t → t.size ≤ 1000000000 → Calls Tryz.prog 38 #[.agg #[.int .i64 x.k, .int .i64 x.n, .string ⟨x.s.toArray⟩, .slice x.A x.len x.cap]] u fun e u' => e = .returned (.int .i64 (if t.may = false then 2 else if 2000 < t.deep then 4 else if 20000 < t.size then 3 else 0)) ∧ Below u.heap.size u u') (w : World) (A : Option Addr) (n c : Nat) (ts : List Tok) (hT : ToksAt w w.heap.size A n ts) (hf : ts.length ≤ 20000) (k : Nat) (hkl : k < ts.length) (hkd : (peekF ts k).kind ≠ 0) (rt : Nat) (es : List (OpK × OpV)) (L : List DefT) (hTab : RTab w rt L) (hag : Agree es L) (hL : L.length ≤ 1000)
    (hsh : ∀ t ∈ ts, t.s.length ≤ 1000000) (hnm : ∀ t ∈ ts, -9223372036854775808 ≤ t.n ∧ t.n ≤ 9223372036854775807) (hsz : ∀ x q, termQ (opsQ es) ts (ts.length + 1) 1200 ⟨k, 0, []⟩ = .ok (x, q) → (peekF ts q.at').kind = 7 → x.1.size ≤ 1000000000) (hbq : badQ (opsQ es) ts k = false) :
    Calls Tryz.prog 9 #[.slice A n c, .int .i64 (k : Nat), .pointer (some ⟨rt, 0, none⟩)] w fun e w' => ReadQ w w' (readQ (opsQ es) ts (k : Nat)) e := by
 obtain rfl : ts.length = n := hT.len
 have HBQ0 := Lib.hid hbq
 clear hbq
 have hfk := tok_kindQ
 have hfn := tok_lineQ
 obtain ⟨U, hU⟩ : ∃ U, U = (w.alloc (.cells #[.int .i64 0, .int .i64 0, .string ⟨#[]⟩, .slice none 0 0, .slice none 0 0, .int .i64 0, .int .i64 0] 42)).alloc (.cells #[.slice A ts.length c, .int .i64 (k : Nat), .pointer (some ⟨rt, 0, none⟩), .int .i64 0, .slice none 0 0, .bool false] 79) := ⟨_, rfl⟩
 have hA0 := start_rq hT hf hkl hTab hag hL hsh hnm _ hU
 have HTM := Lib.hid (hTA (ts.length + 1) _ U _ ⟨k, 0, []⟩ 1200 hA0 (by simp only; omega))
 have HA0 := Lib.hid hA0
 have hbU : Below w.heap.size w U := by rw [hU]; exact ((Below.refl _ _).alloc (Nat.le_refl _) _).alloc (by simp) _
 have HBU := Lib.hid hbU
 have hr0 : U.heap[w.heap.size]? = some (.cells #[.int .i64 0, .int .i64 0, .string ⟨#[]⟩, .slice none 0 0, .slice none 0 0, .int .i64 0, .int .i64 0] 42 (0, 0)) := by
  rw [hU, Below.heap_alloc _ _ _ (by rw [World.size_alloc]; omega)]
  exact heap_alloc_new _ _
 have HR0 := Lib.hid hr0
 have hp : peekF ts k = ts[k] := by unfold peekF; rw [List.getD_eq_getElem?_getD, List.getElem?_eq_getElem hkl]; rfl
 have HT := Lib.hid hT
 obtain ⟨b, off, e1, e2, d0, d1, -, -, -, -⟩ := hT.at' k _ (List.getElem?_eq_getElem hkl)
 rw [← hp] at d0 d1
 have hkb : ((peekF ts k).kind == 0) = false := beq_eq_false_iff_ne.2 hkd
 obtain ⟨R, hR⟩ : ∃ R : Ending → World → Prop, R = fun e w' => ReadQ w w' (readQ (opsQ es) ts (k : Nat)) e := ⟨_, rfl⟩
 rw [← hR]
 have HR := Lib.hid hR
 have HKD := Lib.hid (And.intro hkl hkd)
 generalize (peekF ts k).kind = K9 at d0 hkb
 have hk0 : (0 : Int) ≤ (k : Int) := by omega
 have hkn : (k : Int) < (ts.length : Int) := by omega
 subst e1
 clear hT hR hp hkd hA0 hbU hr0 hTab hag hsh hnm hTA d1
 have HCK := Lib.hid hCK
 have HSZ0 := Lib.hid hsz
 clear hCK hsz
 go_enter Tryz.func9, Tryz.ntmps9
 go_upto_region 4 with fail
 rw [← hU]
 clear hU
 go_wp2_with fail
 refine HTM.out.mono ?_
 rintro e w1 ⟨x, t, p, nv1, q1, bad1, rfl, hA1, hF1, ht1, hs1⟩
 rw [tvQ_lit]
 obtain ⟨V, hV⟩ : ∃ V, V = w1.alloc (.cells #[.int .i64 x.k, .int .i64 x.n, .string ⟨x.s.toArray⟩, .slice x.A x.len x.cap] 34) := ⟨_, rfl⟩
 obtain ⟨bx, hbx⟩ : ∃ b, b = w1.heap.size := ⟨_, rfl⟩
 have hbV : Below w1.heap.size w1 V := by rw [hV]; exact (Below.refl _ _).alloc (Nat.le_refl _) _
 have hxV : V.heap[bx]? = some (.cells #[.int .i64 x.k, .int .i64 x.n, .string ⟨x.s.toArray⟩, .slice x.A x.len x.cap] 34 (0, 0)) := by rw [hV, hbx]; exact heap_alloc_new _ _
 have HXV := Lib.hid hxV
 have HAV := Lib.hid (hA1.later hbV)
 have HBQ := Lib.hid ((badQ_is hs1).symm.trans HBQ0.out)
 clear HBQ0
 have HRQ := Lib.hid (readQ_at HKD.out.1 HKD.out.2 hs1)
 have HSZ : Hid (bad1 = false → (peekF ts q1.at').kind = 7 → t.size ≤ 1000000000) := Lib.hid fun e h7 => by
  subst e
  cases hx : termQ (opsQ es) ts (ts.length + 1) 1200 ⟨k, 0, []⟩ with
  | error a => rw [hx] at hs1; exact absurd hs1.1 (by decide)
  | ok r => rw [hx] at hs1; obtain ⟨-, rfl⟩ := hs1; exact HSZ0.out _ _ hx h7
 have HRV := Lib.hid ((hbV.block w.heap.size (by have := (Array.getElem?_eq_some_iff.1 HR0.out).1; have := hF1.size; omega)).trans (hF1.box HA0.out HR0.out (by decide) (by decide)))
 have HYV : Hid (TermS V (TyQ V 34) x t) := Lib.hid ((ht1.go' (NewX.below hbV)).keep (fun b hb => hb.2.1) fun _ _ => rfl)
 have HTV : Hid (TermAt V V.heap.size x t) := Lib.hid (TermS.at (ht1.go' (NewX.below hbV)) fun b hb => hb.2.1.lt)
 have HFV := Lib.hid (hF1.below hbV)
 clear hs1 hA1 hF1 ht1 hbV hxV
 go_upto_region 5 with fail
 rw [← hV, ← hbx]
 clear hV hbx
 obtain ⟨⟨c0, c1, -, -, c4, c5⟩, cf⟩ := HAV.out.cells
 obtain ⟨fl, hfl⟩ : ∃ b, b = (bad1 || (peekF ts q1.at').kind != 7) := ⟨_, rfl⟩
 have HFL := Lib.hid hfl
 clear hfl
 go_cut [50] (fun v wx => v = .bool fl ∧ Below V.heap.size V wx)
 case first =>
  cases bad1 with
  | true =>
   go_wp2_with fail
   go_meet
   exact ⟨by rw [HFL.out]; rfl, Below.refl _ _⟩
  | false =>
   go_wp2_with fail
   refine (look_any HAV.out).mono ?_
   rintro e w2 ⟨rfl, hb2⟩
   simp only [tokW]
   cases h7 : ((peekF ts q1.at').kind != 7)
   all_goals
    have h8 := h7
    rw [bne, Bool.not_eq_eq_eq_not] at h8
    have HF7 := Lib.hid (HFL.out.trans (by rw [h7]))
    go_wp2_with fail
    go_meet
    exact ⟨by rw [HF7.out]; rfl, hb2⟩
 case rest =>
  obtain ⟨rfl, hb⟩ := hcut
  obtain ⟨w2, rfl⟩ : ∃ w2 : World, w2 = wc := ⟨_, rfl⟩
  have HB := Lib.hid hb
  clear c0 c1 c4 c5 cf hb
  cases fl with
  | true =>
   have h1 := HFL.out.trans HBQ.out
   exact Bool.noConfusion h1
  | false =>
   have hfl := HFL.out
   have hrq := HRQ.out
   rw [← hfl, if_neg (by decide)] at hrq
   have HRQ2 := Lib.hid hrq
   have HA2 := Lib.hid (HAV.out.later HB.out)
   have HX2 := Lib.hid ((HB.out.block bx (Array.getElem?_eq_some_iff.1 HXV.out).1).trans HXV.out)
   have HR2 := Lib.hid ((HB.out.block w.heap.size (Array.getElem?_eq_some_iff.1 HRV.out).1).trans HRV.out)
   have HT2 := Lib.hid (HTV.out.later HB.out)
   have HY2 : Hid (TermS w2 (TyQ w2 34) x t) := Lib.hid (HYV.out.keep (fun b hb => hb.keep (HB.out.block b hb.lt)) fun b hb => HB.out.block b hb.lt)
   have HF2 := Lib.hid (HFV.out.below HB.out)
   clear hfl hrq HRQ HAV HXV HRV HTV HYV HFV HB
   have hp : peekF ts k = ts[k] := by unfold peekF; rw [List.getD_eq_getElem?_getD, List.getElem?_eq_getElem hkl]; rfl
   obtain ⟨b', off', e1', -, -, d1, -, -, -, -⟩ := HA2.out.toks.at' k _ (List.getElem?_eq_getElem hkl)
   injection e1' with e1'
   injection e1' with e1' e3' e4'
   subst e1' e3'
   rw [← hp] at d1
   obtain ⟨L9, hL9⟩ : ∃ l, l = (peekF ts k).line := ⟨_, rfl⟩
   rw [← hL9] at d1
   have HL9 := Lib.hid hL9
   clear hp e4' hL9
   obtain ⟨⟨c0, c1, -, -, c4, c5⟩, cf⟩ := HA2.out.cells
   have hbl : b < w2.heap.size := by have := HA2.out.lt; have := HA2.out.base; simp only at *; omega
   have hrl : w.heap.size + 1 < w2.heap.size := HA2.out.lt
   have hwr : IntKind.i64.wrap ((q1.at' : Int) + 1) = (q1.at' : Int) + 1 := IntWalk.i64_in _ (by have := HA2.out.few; have := HA2.out.in'; simp only at *; omega)
   have HSV : Hid (∀ v, Below w2.heap.size w2 v → v.cell? ⟨b, off + k * 6 + 1, none⟩ = some (.int .i64 L9) ∧ v.cell? ⟨w.heap.size + 1, 1, none⟩ = some (.int .i64 (q1.at' : Int))) := Lib.hid fun v hv => ⟨(hv.cell (p := ⟨b, _, none⟩) hbl).trans d1, (hv.cell (p := ⟨w.heap.size + 1, 1, none⟩) hrl).trans c1⟩
   have hb0 := Below.refl w2.heap.size w2
   have hbd : Below w2.heap.size w2 w2.drew := hb0.drew
   go_upto_region 12 with fail
   go_region_held3 (fun v => v.cell? ⟨b, off + k * 6 + 1, none⟩ = some (.int .i64 L9) ∧ v.cell? ⟨w.heap.size + 1, 1, none⟩ = some (.int .i64 (q1.at' : Int)))
    (first | (with_reducible exact HSV.out _ (by first | assumption | exact ((Below.refl _ _).alloc (Nat.le_refl _) _).drew)))
    (first | fail)
   clear d1 c0 c1 c4 c5 cf hb0 hbd HSV
   obtain ⟨Y, hY⟩ : ∃ V, V = (w2.alloc (.cells #[.int .i64 0, .int .i64 0, .string ⟨#[]⟩, .slice none 0 0, .slice none 0 0, .int .i64 L9, .int .i64 ((q1.at' : Int) + 1)] 42)).drew := ⟨_, rfl⟩
   obtain ⟨bc, hbc⟩ : ∃ b, b = w2.heap.size := ⟨_, rfl⟩
   have hbY : Below w2.heap.size w2 Y := by rw [hY]; exact ((Below.refl _ _).alloc (Nat.le_refl _) _).drew
   have HCY : Hid (Y.heap[bc]? = some (.cells #[.int .i64 0, .int .i64 0, .string ⟨#[]⟩, .slice none 0 0, .slice none 0 0, .int .i64 L9, .int .i64 ((q1.at' : Int) + 1)] 42 (0, 0))) := Lib.hid (by rw [hY, hbc]; exact heap_alloc_new _ _)
   have HAY := Lib.hid (HA2.out.later hbY)
   have HXY := Lib.hid ((hbY.block bx (Array.getElem?_eq_some_iff.1 HX2.out).1).trans HX2.out)
   have HRY := Lib.hid ((hbY.block w.heap.size (Array.getElem?_eq_some_iff.1 HR2.out).1).trans HR2.out)
   have HTY := Lib.hid (HT2.out.later hbY)
   have HYY : Hid (TermS Y (TyQ Y 34) x t) := Lib.hid (HY2.out.keep (fun b hb => hb.keep (hbY.block b hb.lt)) fun b hb => hbY.block b hb.lt)
   have HBC : Hid (bx < bc ∧ w.heap.size + 1 < bc) := Lib.hid ⟨by rw [hbc]; exact (Array.getElem?_eq_some_iff.1 HX2.out).1, by rw [hbc]; exact hrl⟩
   have HFY := Lib.hid (HF2.out.below hbY)
   rw [← hY, ← hbc]
   clear hY hbc hbY HA2 HX2 HR2 HT2 HY2 HF2 hbl hrl hwr
   have hbf : bad1 = false ∧ (peekF ts q1.at').kind = 7 := by
    have h1 := HFL.out
    cases bad1 with
    | false =>
     refine ⟨rfl, Decidable.byContradiction fun e => ?_⟩
     rw [bne_iff_ne.2 e] at h1
     exact Bool.noConfusion h1
    | true => exact Bool.noConfusion h1
   have hck := HCK.out Y x t HTY.out (HSZ.out hbf.1 hbf.2)
   clear hbf
   obtain ⟨ck, hk9⟩ : ∃ z : Int, z = (if t.may = false then 2 else if 2000 < t.deep then 4 else if 20000 < t.size then 3 else 0) := ⟨_, rfl⟩
   rw [← hk9] at hck
   have HK9 := Lib.hid hk9
   clear hk9
   have HCC := Lib.hid hck
   obtain ⟨y0, y1, y2, y3, yf⟩ := four_at HXY.out
   clear hck
   go_wp2_with fail
   refine HCC.out.mono ?_
   rintro e w5 ⟨rfl, hb5⟩
   have HC5 := Lib.hid ((hb5.block bc (Array.getElem?_eq_some_iff.1 HCY.out).1).trans HCY.out)
   have HA5 := Lib.hid (HAY.out.later hb5)
   have HX5 := Lib.hid ((hb5.block bx (Array.getElem?_eq_some_iff.1 HXY.out).1).trans HXY.out)
   have HR5 := Lib.hid ((hb5.block w.heap.size (Array.getElem?_eq_some_iff.1 HRY.out).1).trans HRY.out)
   have HY5 : Hid (TermS w5 (TyQ w5 34) x t) := Lib.hid (HYY.out.keep (fun b hb => hb.keep (hb5.block b hb.lt)) fun b hb => hb5.block b hb.lt)
   have HF5 := Lib.hid (HFY.out.below hb5)
   clear hb5 HCY HAY HXY HRY HTY HYY HFY HCC y0 y1 y2 y3 yf HCK HSZ HSZ0 HTM HFL
   have hways := ways_at HK9.out HRQ2.out
   rw [← HL9.out] at hways
   have HBW : Hid (Below w.heap.size w w5) := Lib.hid (HBU.out.trans (HF5.out.fr.below (B := w.heap.size) HBU.out.size fun q hq e => by
    rcases e with e | e
    ·have e : q = w.heap.size + 1 := e
     omega
    ·cases e))
   clear HRQ2 HK9 HL9
   obtain ⟨N1, hN1⟩ : ∃ z : Int, z = (q1.at' : Int) + 1 := ⟨_, rfl⟩
   rw [← hN1] at hways HC5
   clear hN1
   obtain ⟨s0, s1, s2, s3, s4, s5, s6, sf⟩ := seven_at HC5.out
   obtain ⟨r0, r1, r2, r3, r4, r5, r6, rf⟩ := seven_at HR5.out
   rcases hways with ⟨hw, hr⟩ | ⟨hw, hr⟩ | ⟨hw, hr⟩ | ⟨hw, hr⟩
   ·obtain rfl := hw
    have HRR := Lib.hid hr
    clear hr
    go_wp2_with fail
    have hC7 := blk_set7 HR5.out (.int .i64 0) (.int .i64 0) (.string ⟨#[]⟩) (.slice none 0 0) (.slice none 0 0) (.int .i64 L9) (.int .i64 N1)
    obtain ⟨WF, hWF⟩ : ∃ WF, WF = (((((((w5.setCell ⟨w.heap.size, 0, none⟩ (.int .i64 0)).setCell ⟨w.heap.size, 1, none⟩ (.int .i64 0)).setCell ⟨w.heap.size, 2, none⟩ (.string ⟨#[]⟩)).setCell ⟨w.heap.size, 3, none⟩ (.slice none 0 0)).setCell ⟨w.heap.size, 4, none⟩ (.slice none 0 0)).setCell ⟨w.heap.size, 5, none⟩ (.int .i64 L9)).setCell ⟨w.heap.size, 6, none⟩ (.int .i64 N1)) := ⟨_, rfl⟩
    rw [← hWF] at hC7 ⊢
    refine ret_seven (b := w.heap.size) (er := 3) rfl rfl rfl hC7 ?_
    rw [HR.out, hWF]
    exact none_out HBW.out HRR.out _ _ _ _ _ _ _
   ·obtain rfl := hw
    have HRR := Lib.hid hr
    clear hr
    go_wp2_with fail
    have hC7 := blk_set7 HR5.out (.int .i64 0) (.int .i64 0) (.string ⟨#[]⟩) (.slice none 0 0) (.slice none 0 0) (.int .i64 L9) (.int .i64 N1)
    obtain ⟨WF, hWF⟩ : ∃ WF, WF = (((((((w5.setCell ⟨w.heap.size, 0, none⟩ (.int .i64 0)).setCell ⟨w.heap.size, 1, none⟩ (.int .i64 0)).setCell ⟨w.heap.size, 2, none⟩ (.string ⟨#[]⟩)).setCell ⟨w.heap.size, 3, none⟩ (.slice none 0 0)).setCell ⟨w.heap.size, 4, none⟩ (.slice none 0 0)).setCell ⟨w.heap.size, 5, none⟩ (.int .i64 L9)).setCell ⟨w.heap.size, 6, none⟩ (.int .i64 N1)) := ⟨_, rfl⟩
    rw [← hWF] at hC7 ⊢
    refine ret_seven (b := w.heap.size) (er := 4) rfl rfl rfl hC7 ?_
    rw [HR.out, hWF]
    exact none_out HBW.out HRR.out _ _ _ _ _ _ _
   ·obtain rfl := hw
    have HRR := Lib.hid hr
    clear hr
    go_wp2_with fail
    have hC7 := blk_set7 HR5.out (.int .i64 0) (.int .i64 0) (.string ⟨#[]⟩) (.slice none 0 0) (.slice none 0 0) (.int .i64 L9) (.int .i64 N1)
    obtain ⟨WF, hWF⟩ : ∃ WF, WF = (((((((w5.setCell ⟨w.heap.size, 0, none⟩ (.int .i64 0)).setCell ⟨w.heap.size, 1, none⟩ (.int .i64 0)).setCell ⟨w.heap.size, 2, none⟩ (.string ⟨#[]⟩)).setCell ⟨w.heap.size, 3, none⟩ (.slice none 0 0)).setCell ⟨w.heap.size, 4, none⟩ (.slice none 0 0)).setCell ⟨w.heap.size, 5, none⟩ (.int .i64 L9)).setCell ⟨w.heap.size, 6, none⟩ (.int .i64 N1)) := ⟨_, rfl⟩
    rw [← hWF] at hC7 ⊢
    refine ret_seven (b := w.heap.size) (er := 3) rfl rfl rfl hC7 ?_
    rw [HR.out, hWF]
    exact none_out HBW.out HRR.out _ _ _ _ _ _ _
   ·obtain rfl := hw
    have HRR := Lib.hid hr
    clear hr
    obtain ⟨An, cn, rfl⟩ := HA5.out.names.shape
    obtain ⟨x0, x1, x2, x3, -⟩ := four_at HX5.out
    obtain ⟨⟨-, -, -, -, c4, -⟩, -⟩ := HA5.out.cells
    dsimp only at c4
    have nb : bx ≠ bc := Nat.ne_of_lt HBC.out.1
    have nr : w.heap.size + 1 ≠ bc := Nat.ne_of_lt HBC.out.2
    have ne : w.heap.size ≠ bc := by have := HBC.out.2; omega
    have ne' : bc ≠ w.heap.size := fun e => ne e.symm
    have bl9 : bc < w5.heap.size := (Array.getElem?_eq_some_iff.1 HC5.out).1
    have xl9 : bx < w5.heap.size := (Array.getElem?_eq_some_iff.1 HX5.out).1
    have rl9 : w.heap.size + 1 < w5.heap.size := HA5.out.lt
    have HS5 := Lib.hid (And.intro x0 (And.intro x1 (And.intro x2 (And.intro x3 c4))))
    have HST := Lib.hid (q5_keep (w' := (((w5.setCell ⟨bc, 0, none⟩ (.int .i64 x.k)).setCell ⟨bc, 1, none⟩ (.int .i64 x.n)).setCell ⟨bc, 2, none⟩ (.string ⟨x.s.toArray⟩)).setCell ⟨bc, 3, none⟩ (.slice x.A x.len x.cap)) HS5.out (fun k hk => blk_set4_ne _ _ _ _ hk) nb nb nb nb nr)
    have HSM := Lib.hid (q5_keep (w' := w5.setCell ⟨bc, 4, none⟩ (.slice An q1.names.length cn)) HS5.out (fun k hk => Below.heap_setCell _ _ _ _ hk) nb nb nb nb nr)
    have HSTM := Lib.hid (q5_keep (w' := ((((w5.setCell ⟨bc, 0, none⟩ (.int .i64 x.k)).setCell ⟨bc, 1, none⟩ (.int .i64 x.n)).setCell ⟨bc, 2, none⟩ (.string ⟨x.s.toArray⟩)).setCell ⟨bc, 3, none⟩ (.slice x.A x.len x.cap)).setCell ⟨bc, 4, none⟩ (.slice An q1.names.length cn)) HST.out (fun k hk => Below.heap_setCell _ _ _ _ hk) nb nb nb nb nr)
    have HSMT := Lib.hid (q5_keep (w' := ((((w5.setCell ⟨bc, 4, none⟩ (.slice An q1.names.length cn)).setCell ⟨bc, 0, none⟩ (.int .i64 x.k)).setCell ⟨bc, 1, none⟩ (.int .i64 x.n)).setCell ⟨bc, 2, none⟩ (.string ⟨x.s.toArray⟩)).setCell ⟨bc, 3, none⟩ (.slice x.A x.len x.cap)) HSM.out (fun k hk => blk_set4_ne _ _ _ _ hk) nb nb nb nb nr)
    go_upto_region 18 with fail
    go_region_held3 (fun u' => u'.cell? ⟨bx, 0, none⟩ = some (.int .i64 x.k) ∧ u'.cell? ⟨bx, 1, none⟩ = some (.int .i64 x.n) ∧ u'.cell? ⟨bx, 2, none⟩ = some (.string ⟨x.s.toArray⟩) ∧ u'.cell? ⟨bx, 3, none⟩ = some (.slice x.A x.len x.cap) ∧ u'.cell? ⟨w.heap.size + 1, 4, none⟩ = some (.slice An q1.names.length cn))
     (first | (with_reducible exact HS5.out) | (with_reducible exact HST.out) | (with_reducible exact HSM.out) | (with_reducible exact HSTM.out) | (with_reducible exact HSMT.out) | (with_reducible exact q5_drew HS5.out) | (with_reducible exact q5_drew HST.out) | (with_reducible exact q5_drew HSM.out) | (with_reducible exact q5_drew HSTM.out) | (with_reducible exact q5_drew HSMT.out))
     (fail)
    all_goals
     have hcw : w.heap.size ≤ bc := by have := HBC.out.2; omega
     have hB5 := (((((HBW.out.setCell (p := ⟨bc, 0, none⟩) hcw (.int .i64 x.k)).setCell (p := ⟨bc, 1, none⟩) hcw (.int .i64 x.n)).setCell (p := ⟨bc, 2, none⟩) hcw (.string ⟨x.s.toArray⟩)).setCell (p := ⟨bc, 3, none⟩) hcw (.slice x.A x.len x.cap)).setCell (p := ⟨bc, 4, none⟩) hcw (.slice An q1.names.length cn)).drew
     have hW5 : ∀ k, k ≠ bc → (((((w5.setCell ⟨bc, 0, none⟩ (.int .i64 x.k)).setCell ⟨bc, 1, none⟩ (.int .i64 x.n)).setCell ⟨bc, 2, none⟩ (.string ⟨x.s.toArray⟩)).setCell ⟨bc, 3, none⟩ (.slice x.A x.len x.cap)).setCell ⟨bc, 4, none⟩ (.slice An q1.names.length cn)).drew.heap[k]? = w5.heap[k]? := fun k h1 => (Below.heap_setCell _ _ _ _ h1).trans (blk_set4_ne _ _ _ _ h1)
     have hc5 : (((((w5.setCell ⟨bc, 0, none⟩ (.int .i64 x.k)).setCell ⟨bc, 1, none⟩ (.int .i64 x.n)).setCell ⟨bc, 2, none⟩ (.string ⟨x.s.toArray⟩)).setCell ⟨bc, 3, none⟩ (.slice x.A x.len x.cap)).setCell ⟨bc, 4, none⟩ (.slice An q1.names.length cn)).drew.heap[bc]? = _ := blk_put (blk_put (blk_put (blk_put (blk_put HC5.out (.int .i64 x.k)) (.int .i64 x.n)) (.string ⟨x.s.toArray⟩)) (.slice x.A x.len x.cap)) (.slice An q1.names.length cn)
     obtain ⟨W5, hW⟩ : ∃ W, W = (((((w5.setCell ⟨bc, 0, none⟩ (.int .i64 x.k)).setCell ⟨bc, 1, none⟩ (.int .i64 x.n)).setCell ⟨bc, 2, none⟩ (.string ⟨x.s.toArray⟩)).setCell ⟨bc, 3, none⟩ (.slice x.A x.len x.cap)).setCell ⟨bc, 4, none⟩ (.slice An q1.names.length cn)).drew := ⟨_, rfl⟩
     rw [← hW] at hB5 hW5 hc5 ⊢
     have hr5 := (hW5 _ ne).trans HR5.out
     have HW5 := Lib.hid hW5
     have HB5 := Lib.hid hB5
     clear hW hB5 hW5 s0 s1 s2 s3 s4 s5 s6 sf r0 r1 r2 r3 r4 r5 r6 rf x0 x1 x2 x3 c4 HS5 HST HSM HSTM HSMT nb nr bl9 xl9 rl9
     obtain ⟨s0, s1, s2, s3, s4, s5, s6, sf⟩ := seven_at hc5
     obtain ⟨r0, r1, r2, r3, r4, r5, r6, rf⟩ := seven_at hr5
     have HR9 := Lib.hid hr5
     clear hc5 hr5
     go_wp2_with fail
     have hC7 := blk_set7 HR9.out (.int .i64 x.k) (.int .i64 x.n) (.string ⟨x.s.toArray⟩) (.slice x.A x.len x.cap) (.slice An q1.names.length cn) (.int .i64 L9) (.int .i64 N1)
     have hW7 : ∀ k, k ≠ w.heap.size → (((((((W5.setCell ⟨w.heap.size, 0, none⟩ (.int .i64 x.k)).setCell ⟨w.heap.size, 1, none⟩ (.int .i64 x.n)).setCell ⟨w.heap.size, 2, none⟩ (.string ⟨x.s.toArray⟩)).setCell ⟨w.heap.size, 3, none⟩ (.slice x.A x.len x.cap)).setCell ⟨w.heap.size, 4, none⟩ (.slice An q1.names.length cn)).setCell ⟨w.heap.size, 5, none⟩ (.int .i64 L9)).setCell ⟨w.heap.size, 6, none⟩ (.int .i64 N1)).heap[k]? = W5.heap[k]? := fun k h2 => blk_set7_ne _ _ _ _ _ _ _ h2
     have hB7 := cl_below HB5.out w.heap.size (Nat.le_refl _) (.int .i64 x.k) (.int .i64 x.n) (.string ⟨x.s.toArray⟩) (.slice x.A x.len x.cap) (.slice An q1.names.length cn) (.int .i64 L9) (.int .i64 N1)
     obtain ⟨WF, hWF⟩ : ∃ WF, WF = (((((((W5.setCell ⟨w.heap.size, 0, none⟩ (.int .i64 x.k)).setCell ⟨w.heap.size, 1, none⟩ (.int .i64 x.n)).setCell ⟨w.heap.size, 2, none⟩ (.string ⟨x.s.toArray⟩)).setCell ⟨w.heap.size, 3, none⟩ (.slice x.A x.len x.cap)).setCell ⟨w.heap.size, 4, none⟩ (.slice An q1.names.length cn)).setCell ⟨w.heap.size, 5, none⟩ (.int .i64 L9)).setCell ⟨w.heap.size, 6, none⟩ (.int .i64 N1)) := ⟨_, rfl⟩
     rw [← hWF] at hC7 hW7 hB7 ⊢
     clear hWF
     refine ret_seven (b := w.heap.size) (er := 0) rfl rfl rfl hC7 ?_
     rw [HR.out]
     exact some_out HRR.out ⟨_, HC5.out⟩ ⟨_, HR5.out⟩ HY5.out HA5.out.names (fun k h1 h2 => (hW7 k h2).trans (HW5.out k h1)) hB7
end Go.Proofs.YtiffopheamnngaaGreatDoor
