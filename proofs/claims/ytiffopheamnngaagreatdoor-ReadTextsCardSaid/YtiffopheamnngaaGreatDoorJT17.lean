import Derived.Test.YtiffopheamnngaaGreatDoorJT16
namespace Go.Proofs.YtiffopheamnngaaGreatDoor
open Go.RowKit Go.Maps
set_option maxRecDepth 100000
set_option maxHeartbeats 16000000 in
theorem read_noneQ (hTA : ∀ n, RTermC n) (hCK : ∀ (u : World) (x : TV) (t : Tm), TermAt u u.heap.size x t → t.size ≤ 1000000000 → Calls Tryz.prog 38 #[.agg #[.int .i64 x.k, .int .i64 x.n, .string ⟨x.s.toArray⟩, .slice x.A x.len x.cap]] u fun e u' => e = .returned (.int .i64 (if t.may = false then 2 else if 2000 < t.deep then 4 else if 20000 < t.size then 3 else 0)) ∧ Below u.heap.size u u') (w : World) (A : Option Addr) (n c : Nat) (ts : List Tok) (hT : ToksAt w w.heap.size A n ts) (hf : ts.length ≤ 20000) (k : Nat) (hkl : k < ts.length) (hkd : (peekF ts k).kind ≠ 0) (rt : Nat) (es : List (OpK × OpV)) (L : List DefT) (hTab : RTab w rt L) (hag : Agree es L) (hL : L.length ≤ 1000)
    (hsh : ∀ t ∈ ts, t.s.length ≤ 1000000) (hnm : ∀ t ∈ ts, -9223372036854775808 ≤ t.n ∧ t.n ≤ 9223372036854775807) (hsz : ∀ x q, termQ (opsQ es) ts (ts.length + 1) 1200 ⟨k, 0, []⟩ = .ok (x, q) → (peekF ts q.at').kind = 7 → x.1.size ≤ 1000000000) (hbq : badQ (opsQ es) ts k = true) :
    Calls Tryz.prog 9 #[.slice A n c, .int .i64 (k : Nat), .pointer (some ⟨rt, 0, none⟩)] w fun e w' => ReadQ w w' (readQ (opsQ es) ts (k : Nat)) e := by
 obtain rfl : ts.length = n := hT.len
 have HBQ0 := Lib.hid hbq
 clear hbq
 have hfk := tok_kindQ
 have hfn := tok_lineQ
 obtain ⟨U, hU⟩ : ∃ U, U = (w.alloc (.cells #[.int .i64 0, .int .i64 0, .string ⟨#[]⟩, .slice none 0 0, .slice none 0 0, .int .i64 0, .int .i64 0] 42)).alloc (.cells #[.slice A ts.length c, .int .i64 (k : Nat), .pointer (some ⟨rt, 0, none⟩), .int .i64 0, .slice none 0 0, .bool false] 79) := ⟨_, rfl⟩
 have hA0 := start_rq hT hf hkl hTab hag hL hsh hnm _ hU
 have HTM := Lib.hid (hTA (ts.length + 1) _ U _ ⟨k, 0, []⟩ 1200 hA0 (by simp only; omega))
 have HA0 := Lib.hid hA0
 have hbU : Below w.heap.size w U := by rw [hU]; exact ((Below.refl _ _).alloc (Nat.le_refl _) _).alloc (by simp) _
 have HBU := Lib.hid hbU
 have hr0 : U.heap[w.heap.size]? = some (.cells #[.int .i64 0, .int .i64 0, .string ⟨#[]⟩, .slice none 0 0, .slice none 0 0, .int .i64 0, .int .i64 0] 42 (0, 0)) := by
  rw [hU, Below.heap_alloc _ _ _ (by rw [World.size_alloc]; omega)]
  exact heap_alloc_new _ _
 have HR0 := Lib.hid hr0
 have hp : peekF ts k = ts[k] := by unfold peekF; rw [List.getD_eq_getElem?_getD, List.getElem?_eq_getElem hkl]; rfl
 have HT := Lib.hid hT
 obtain ⟨b, off, e1, e2, d0, d1, -, -, -, -⟩ := hT.at' k _ (List.getElem?_eq_getElem hkl)
 rw [← hp] at d0 d1
 have hkb : ((peekF ts k).kind == 0) = false := beq_eq_false_iff_ne.2 hkd
 obtain ⟨R, hR⟩ : ∃ R : Ending → World → Prop, R = fun e w' => ReadQ w w' (readQ (opsQ es) ts (k : Nat)) e := ⟨_, rfl⟩
 rw [← hR]
 have HR := Lib.hid hR
 have HKD := Lib.hid (And.intro hkl hkd)
 generalize (peekF ts k).kind = K9 at d0 hkb
 have hk0 : (0 : Int) ≤ (k : Int) := by omega
 have hkn : (k : Int) < (ts.length : Int) := by omega
 subst e1
 clear hT hR hp hkd hA0 hbU hr0 hTab hag hsh hnm hTA d1
 have HCK := Lib.hid hCK
 have HSZ0 := Lib.hid hsz
 clear hCK hsz
 go_enter Tryz.func9, Tryz.ntmps9
 go_upto_region 4 with fail
 rw [← hU]
 clear hU
 go_wp2_with fail
 refine HTM.out.mono ?_
 rintro e w1 ⟨x, t, p, nv1, q1, bad1, rfl, hA1, hF1, ht1, hs1⟩
 rw [tvQ_lit]
 obtain ⟨V, hV⟩ : ∃ V, V = w1.alloc (.cells #[.int .i64 x.k, .int .i64 x.n, .string ⟨x.s.toArray⟩, .slice x.A x.len x.cap] 34) := ⟨_, rfl⟩
 obtain ⟨bx, hbx⟩ : ∃ b, b = w1.heap.size := ⟨_, rfl⟩
 have hbV : Below w1.heap.size w1 V := by rw [hV]; exact (Below.refl _ _).alloc (Nat.le_refl _) _
 have hxV : V.heap[bx]? = some (.cells #[.int .i64 x.k, .int .i64 x.n, .string ⟨x.s.toArray⟩, .slice x.A x.len x.cap] 34 (0, 0)) := by rw [hV, hbx]; exact heap_alloc_new _ _
 have HXV := Lib.hid hxV
 have HAV := Lib.hid (hA1.later hbV)
 have HBQ := Lib.hid ((badQ_is hs1).symm.trans HBQ0.out)
 clear HBQ0
 have HRQ := Lib.hid (readQ_at HKD.out.1 HKD.out.2 hs1)
 have HSZ : Hid (bad1 = false → (peekF ts q1.at').kind = 7 → t.size ≤ 1000000000) := Lib.hid fun e h7 => by
  subst e
  cases hx : termQ (opsQ es) ts (ts.length + 1) 1200 ⟨k, 0, []⟩ with
  | error a => rw [hx] at hs1; exact absurd hs1.1 (by decide)
  | ok r => rw [hx] at hs1; obtain ⟨-, rfl⟩ := hs1; exact HSZ0.out _ _ hx h7
 have HRV := Lib.hid ((hbV.block w.heap.size (by have := (Array.getElem?_eq_some_iff.1 HR0.out).1; have := hF1.size; omega)).trans (hF1.box HA0.out HR0.out (by decide) (by decide)))
 have HYV : Hid (TermS V (TyQ V 34) x t) := Lib.hid ((ht1.go' (NewX.below hbV)).keep (fun b hb => hb.2.1) fun _ _ => rfl)
 have HTV : Hid (TermAt V V.heap.size x t) := Lib.hid (TermS.at (ht1.go' (NewX.below hbV)) fun b hb => hb.2.1.lt)
 have HFV := Lib.hid (hF1.below hbV)
 clear hs1 hA1 hF1 ht1 hbV hxV
 go_upto_region 5 with fail
 rw [← hV, ← hbx]
 clear hV hbx
 obtain ⟨⟨c0, c1, -, -, c4, c5⟩, cf⟩ := HAV.out.cells
 obtain ⟨fl, hfl⟩ : ∃ b, b = (bad1 || (peekF ts q1.at').kind != 7) := ⟨_, rfl⟩
 have HFL := Lib.hid hfl
 clear hfl
 go_cut [50] (fun v wx => v = .bool fl ∧ Below V.heap.size V wx)
 case first =>
  cases bad1 with
  | true =>
   go_wp2_with fail
   go_meet
   exact ⟨by rw [HFL.out]; rfl, Below.refl _ _⟩
  | false =>
   go_wp2_with fail
   refine (look_any HAV.out).mono ?_
   rintro e w2 ⟨rfl, hb2⟩
   simp only [tokW]
   cases h7 : ((peekF ts q1.at').kind != 7)
   all_goals
    have h8 := h7
    rw [bne, Bool.not_eq_eq_eq_not] at h8
    have HF7 := Lib.hid (HFL.out.trans (by rw [h7]))
    go_wp2_with fail
    go_meet
    exact ⟨by rw [HF7.out]; rfl, hb2⟩
 case rest =>
  obtain ⟨rfl, hb⟩ := hcut
  obtain ⟨w2, rfl⟩ : ∃ w2 : World, w2 = wc := ⟨_, rfl⟩
  have HB := Lib.hid hb
  clear c0 c1 c4 c5 cf hb
  cases fl with
  | true =>
   have hrq := HRQ.out
   rw [← HFL.out, if_pos rfl, failed_is HAV.out.in'] at hrq
   have HRQ2 := Lib.hid hrq
   have HA2 := Lib.hid (HAV.out.later HB.out)
   have HR2 := Lib.hid ((HB.out.block w.heap.size (Array.getElem?_eq_some_iff.1 HRV.out).1).trans HRV.out)
   have HW2 : Hid (Below w.heap.size w w2) := Lib.hid (HBU.out.trans ((HFV.out.below HB.out).fr.below (B := w.heap.size) HBU.out.size fun q hq e => by
    rcases e with e | e
    ·have e : q = w.heap.size + 1 := e
     omega
    ·cases e))
   clear hrq HRQ HAV HXV HRV HTV HYV HFV HB HCK HSZ HSZ0 HTM
   obtain ⟨a, ha⟩ : ∃ a, a = q1.at' := ⟨_, rfl⟩
   obtain ⟨L6, hL6⟩ : ∃ l, l = (peekF ts a).line := ⟨_, rfl⟩
   obtain ⟨X, hX⟩ : ∃ X, X = behindF (ts.drop a) a := ⟨_, rfl⟩
   have hrl : w.heap.size + 1 < w2.heap.size := HA2.out.lt
   obtain ⟨⟨-, c1, -, -, -, -⟩, cf⟩ := HA2.out.cells
   rw [← ha] at HRQ2 c1
   have hal : a ≤ ts.length := by rw [ha]; exact HA2.out.in'
   have HLK : Hid (∀ v, Below w2.heap.size w2 v → Calls Tryz.prog 37 #[.pointer (some ⟨w.heap.size + 1, 0, none⟩)] v fun e u' => e = .returned (.agg #[.int .i64 (peekF ts a).kind, .int .i64 L6, .int .i64 (peekF ts a).n, .string ⟨(peekF ts a).s.toArray⟩, .bool (peekF ts a).opn, .bool (peekF ts a).tight]) ∧ Below v.heap.size v u' ∧ Below w2.heap.size w2 u') := Lib.hid fun v hv => (look_any (HA2.out.later hv)).mono (by
    rintro e u' ⟨rfl, hb'⟩
    exact ⟨by rw [hL6, ha]; rfl, hb', hv.trans (hb'.mono hv.size)⟩)
   have HSV : Hid (∀ v, Below w2.heap.size w2 v → v.cell? ⟨w.heap.size + 1, 1, none⟩ = some (.int .i64 (a : Int))) := Lib.hid fun v hv => (hv.cell (p := ⟨w.heap.size + 1, 1, none⟩) hrl).trans c1
   rw [← hL6, ← hX] at HRQ2
   have HX := Lib.hid (And.intro hX hal)
   have hb0 := Below.refl w2.heap.size w2
   have hbd : Below w2.heap.size w2 w2.drew := hb0.drew
   clear hX hL6 ha
   go_upto_region 6 with fail
   go_cut [11] (fun v wx => ∃ bc, v = .pointer (some ⟨bc, 0, none⟩) ∧ Hid (w2.heap.size ≤ bc ∧ Below w2.heap.size w2 wx ∧ wx.heap[bc]? = some (.cells #[.int .i64 0, .int .i64 0, .string ⟨#[]⟩, .slice none 0 0, .slice none 0 0, .int .i64 L6, .int .i64 (a : Int)] 42 (0, 0))))
   case first =>
    go_region_held3 (fun v => v.cell? ⟨w.heap.size + 1, 1, none⟩ = some (.int .i64 (a : Int)))
     (first | (with_reducible exact HSV.out _ (by first | assumption | exact Below.drew (by assumption) | exact ((Below.refl _ _).alloc (Nat.le_refl _) _).drew | exact (Below.refl _ _).alloc (Nat.le_refl _) _ | exact Below.alloc hb3 hb3.size _ | exact (Below.alloc hb3 hb3.size _).drew | exact cl_belowW hb3 _ _ _ _ _ _ _)))
     (first | (go_at_call 37; refine (HLK.out _ (by first | assumption | exact Below.drew (by assumption) | exact ((Below.refl _ _).alloc (Nat.le_refl _) _).drew | exact (Below.refl _ _).alloc (Nat.le_refl _) _)).mono ?_; rintro e w3 ⟨rfl, hv3, hb3⟩; (first | (have hz3 := alloc_kept hv3; have HZ3 := Lib.hid hz3; obtain ⟨z0, z1, z2, z3, z4, z5, z6, zf⟩ := seven_at hz3; clear hz3) | (have hz3 := alloc_keptD hv3; have HZ3 := Lib.hid hz3; obtain ⟨z0, z1, z2, z3, z4, z5, z6, zf⟩ := seven_at hz3; clear hz3) | skip)))
    all_goals
     go_wp2_with fail
     go_meet
     first
      | exact ⟨_, rfl, Lib.hid ⟨hb3.size, hb3.alloc hb3.size _, heap_alloc_new _ _⟩⟩
      | exact ⟨_, rfl, Lib.hid ⟨Nat.le_refl _, cl_belowW hb3 _ _ _ _ _ _ _, blk_set7 HZ3.out _ _ _ _ _ _ _⟩⟩
   case rest =>
    obtain ⟨bc, rfl, HC⟩ := hcut
    obtain ⟨w3, rfl⟩ : ∃ w3 : World, w3 = wc := ⟨_, rfl⟩
    have HI0 : Hid (FlInv w ts X L6 bc a w3) := Lib.hid ⟨HW2.out.trans (HC.out.2.1.mono HW2.out.size), (HC.out.2.1.block _ (Array.getElem?_eq_some_iff.1 HR2.out).1).trans HR2.out, HC.out.2.2, by have := HC.out.1; omega, HX.out.2, HX.out.1⟩
    clear HC HA2 HR2 HW2 HLK HSV HX hb0 hbd c1 cf hrl hal
    go_wp2_with fail
    go_loopg [] (ts.length - a) (fun gk wr => ∃ k : Nat, Hid (FlInv w ts X L6 bc k wr ∧ ts.length - k = gk))
    case atStart => exact ⟨a, Lib.hid ⟨HI0.out, rfl⟩⟩
    case round =>
     obtain ⟨m, HI⟩ := hrel
     clear HI0
     obtain ⟨s0, s1, s2, s3, s4, s5, s6, sf⟩ := seven_at HI.out.1.blk
     obtain ⟨r0, r1, r2, r3, r4, r5, r6, rf⟩ := seven_at HI.out.1.res
     have hne : w.heap.size ≠ bc := Nat.ne_of_lt HI.out.1.ge
     have hne' : bc ≠ w.heap.size := fun e => hne e.symm
     by_cases hml : m = ts.length
     ·subst hml
      have hX9 : X = ts.length := HI.out.1.ans.trans (behind_end rfl)
      go_wp2_with fail
      have hC7 := blk_set7 HI.out.1.res (.int .i64 0) (.int .i64 0) (.string ⟨#[]⟩) (.slice none 0 0) (.slice none 0 0) (.int .i64 L6) (.int .i64 (ts.length : Int))
      obtain ⟨WF, hWF⟩ : ∃ WF, WF = (((((((wr.setCell ⟨w.heap.size, 0, none⟩ (.int .i64 0)).setCell ⟨w.heap.size, 1, none⟩ (.int .i64 0)).setCell ⟨w.heap.size, 2, none⟩ (.string ⟨#[]⟩)).setCell ⟨w.heap.size, 3, none⟩ (.slice none 0 0)).setCell ⟨w.heap.size, 4, none⟩ (.slice none 0 0)).setCell ⟨w.heap.size, 5, none⟩ (.int .i64 L6)).setCell ⟨w.heap.size, 6, none⟩ (.int .i64 (ts.length : Int))) := ⟨_, rfl⟩
      rw [← hWF] at hC7 ⊢
      refine ret_seven (b := w.heap.size) (er := 6) rfl rfl rfl hC7 ?_
      rw [HR.out, hWF]
      exact none_out HI.out.1.below (by rw [HRQ2.out, hX9]) _ _ _ _ _ _ _
     have hm2 : m < ts.length := by have := HI.out.1.le; omega
     obtain ⟨b', off', e1', -, d0', -, -, -, -, -⟩ := HT.out.at' m _ (List.getElem?_eq_getElem hm2)
     injection e1' with e1'
     injection e1' with e1' e3' e4'
     subst e1' e3'
     have q0 : wr.cell? ⟨b, off + m * 6, none⟩ = some (.int .i64 ts[m].kind) := (HI.out.1.below.cell (p := ⟨b, off + m * 6, none⟩) e2).trans d0'
     have hbh := behind_at hm2
     have hm0 : (0 : Int) ≤ (m : Int) := by omega
     have hm1 : (m : Int) < (ts.length : Int) := by omega
     have hwm : IntKind.i64.wrap ((m : Int) + 1) = (m : Int) + 1 := IntWalk.i64_in _ (by omega)
     clear d0' e4'
     obtain ⟨kd, hkd⟩ : ∃ z, z = ts[m].kind := ⟨_, rfl⟩
     rw [← hkd] at q0 hbh
     by_cases h7 : kd = 7
     ·subst h7
      rw [if_pos rfl] at hbh
      have hX9 : X = m + 1 := HI.out.1.ans.trans hbh
      clear hbh hkd
      go_wp2_with fail
      have hres : (wr.setCell ⟨bc, 6, none⟩ (.int .i64 ((m : Int) + 1))).heap[w.heap.size]? = _ := (Below.heap_setCell _ _ _ _ hne).trans HI.out.1.res
      have hC7 := blk_set7 hres (.int .i64 0) (.int .i64 0) (.string ⟨#[]⟩) (.slice none 0 0) (.slice none 0 0) (.int .i64 L6) (.int .i64 ((m : Int) + 1))
      obtain ⟨WF, hWF⟩ : ∃ WF, WF = ((((((((wr.setCell ⟨bc, 6, none⟩ (.int .i64 ((m : Int) + 1))).setCell ⟨w.heap.size, 0, none⟩ (.int .i64 0)).setCell ⟨w.heap.size, 1, none⟩ (.int .i64 0)).setCell ⟨w.heap.size, 2, none⟩ (.string ⟨#[]⟩)).setCell ⟨w.heap.size, 3, none⟩ (.slice none 0 0)).setCell ⟨w.heap.size, 4, none⟩ (.slice none 0 0)).setCell ⟨w.heap.size, 5, none⟩ (.int .i64 L6)).setCell ⟨w.heap.size, 6, none⟩ (.int .i64 ((m : Int) + 1))) := ⟨_, rfl⟩
      rw [← hWF] at hC7 ⊢
      refine ret_seven (b := w.heap.size) (er := 6) rfl rfl rfl hC7 ?_
      rw [HR.out, hWF]
      exact none_out (HI.out.1.below.setCell (p := ⟨bc, 6, none⟩) (Nat.le_of_lt HI.out.1.ge) _) (by rw [HRQ2.out, hX9]; rfl) _ _ _ _ _ _ _
     by_cases h0 : kd = 0
     ·subst h0
      rw [if_neg (by decide), if_pos rfl] at hbh
      have hX9 : X = m := HI.out.1.ans.trans hbh
      clear hbh hkd
      go_wp2_with fail
      have hC7 := blk_set7 HI.out.1.res (.int .i64 0) (.int .i64 0) (.string ⟨#[]⟩) (.slice none 0 0) (.slice none 0 0) (.int .i64 L6) (.int .i64 (m : Int))
      obtain ⟨WF, hWF⟩ : ∃ WF, WF = (((((((wr.setCell ⟨w.heap.size, 0, none⟩ (.int .i64 0)).setCell ⟨w.heap.size, 1, none⟩ (.int .i64 0)).setCell ⟨w.heap.size, 2, none⟩ (.string ⟨#[]⟩)).setCell ⟨w.heap.size, 3, none⟩ (.slice none 0 0)).setCell ⟨w.heap.size, 4, none⟩ (.slice none 0 0)).setCell ⟨w.heap.size, 5, none⟩ (.int .i64 L6)).setCell ⟨w.heap.size, 6, none⟩ (.int .i64 (m : Int))) := ⟨_, rfl⟩
      rw [← hWF] at hC7 ⊢
      refine ret_seven (b := w.heap.size) (er := 6) rfl rfl rfl hC7 ?_
      rw [HR.out, hWF]
      exact none_out HI.out.1.below (by rw [HRQ2.out, hX9]) _ _ _ _ _ _ _
     have b7 : (kd != 7) = true := bne_iff_ne.2 h7
     have b0 : (kd != 0) = true := bne_iff_ne.2 h0
     have HST := Lib.hid (HI.out.1.step hm2 (fun e => h7 (hkd.trans e)) (fun e => h0 (hkd.trans e)))
     have hgk : ts.length - (m + 1) < gk := by have := HI.out.2; omega
     clear hbh hkd h7 h0
     go_wp2_with fail
     go_roundg (ts.length - (m + 1))
     case measure => exact hgk
     case rel => exact ⟨m + 1, Lib.hid ⟨HST.out, rfl⟩⟩
  | false =>
   have h1 := HFL.out.trans HBQ.out
   exact Bool.noConfusion h1
end Go.Proofs.YtiffopheamnngaaGreatDoor
