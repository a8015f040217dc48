import Derived.Test.YtjdnigepnfeboaaGreatDoorJG26
namespace Go.Proofs.YtjdnigepnfeboaaGreatDoor
open Go.RowKit Go.Maps
set_option maxRecDepth 100000
variable [Base]
set_option linter.unusedSectionVars false
theorem RunSt.spend {u : World} {rb : Nat} {r : RC} {l : List (Int × List UInt8)} {db ob : Nat} {spent : Int} {over : List UInt8} (h : RunSt u rb r l db ob spent over) :
    RunSt (u.setCell ⟨r.mb, 6, none⟩ (.int .i64 (spent + 1))) rb r l db ob (spent + 1) over ∧ TF [90] u (u.setCell ⟨r.mb, 6, none⟩ (.int .i64 (spent + 1))) := by
 have hf : TF [90] u (u.setCell ⟨r.mb, 6, none⟩ (.int .i64 (spent + 1))) := (TF.refl _ u).set (p := ⟨r.mb, 6, none⟩) (t := 90) ⟨_, h.mach⟩ (by decide) h.few.2.2 _
 exact ⟨⟨(hf.block h.run.ty (by decide)).trans h.run, hf.row h.ev (by decide), blk_put h.mach _, h.few⟩, hf⟩
set_option maxHeartbeats 4000000 in
theorem next_goal (u : World) (rb room fb i j : Nat) (r : RC) (l : List (Int × List UInt8)) (db ob : Nat) (spent : Int) (over : List UInt8) (cv bv : Value) (xs : List ScM) (cs : List Sc) (ys : List (Nat × Int)) (c : Sc) (m : Nat) (Q : Ending → World → Prop)
    (h : RunSt u rb r l db ob spent over) (hs : StAt r.sb room u cv bv xs cs ys) (hfr : r.fr = .pointer (some ⟨fb, 0, none⟩)) (hf : FrameAt u fb (i : Nat) 0) (hroot : Root cs i j) (hc : cs[j]? = some c) (hk : c.k = 4) (ha : c.args.length = m) (hm : 1 ≤ m ∧ m ≤ 3) (hkd : kindF 4 c.s m = 0) (hsl : c.s.length ≤ maxLen) (hsp : 0 ≤ spent ∧ spent < 300)
    (hQ : ∀ e w, Q e w → ∃ o : Int, e = .returned (.int .i64 o))
    (hC : ∀ v A c', RunSt v rb { r with fr := .pointer none, loose := 0 } l db ob (spent + 1) over → StAt r.sb room v cv bv xs cs ys → ArgsAt v A c.args → TF [112, 90] u v → Calls Tryz.prog 69 #[.pointer (some ⟨rb, 0, none⟩), .pointer (some ⟨fb, 0, none⟩), tvV (shF j c), .slice A m c'] v Q) :
    Calls Tryz.prog 96 #[.pointer (some ⟨rb, 0, none⟩)] u Q := by
 have c7 : u.cell? ⟨rb, 7, none⟩ = some (.pointer (some ⟨fb, 0, none⟩)) := (h.run.get 7).trans (by show some r.fr = _; rw [hfr])
 have cf := h.run.fz
 have hc' : ∀ k, u.cell? ⟨fb, k, none⟩ = (#[.int .i64 0, .int .i64 (i : Nat), .int .i64 0, .pointer none, .pointer none, .pointer none] : Array Value)[k]? := fun k => cell_of_row _ _ k _ _ _ hf
 have d0 := (hc' 0).trans rfl
 have d1 := (hc' 1).trans rfl
 have d4 := (hc' 4).trans rfl
 have hne : fb ≠ rb := TyB.ne (t := 226) ⟨_, hf⟩ h.run.ty (by decide)
 have hne2 : rb ≠ fb := hne.symm
 have hlt := h.run.lt
 obtain ⟨V, hV⟩ : ∃ V, V = u.setCell ⟨rb, 7, none⟩ (.pointer none) := ⟨_, rfl⟩
 have h9 := h.put (r' := { r with fr := .pointer none }) 7 (.pointer none) rfl rfl rfl
 rw [← hV] at h9
 have HV := Lib.hid (And.intro h9.1 (And.intro (hs.tf h9.2 (by decide)) (And.intro ((h9.2.block (t := 226) ⟨_, hf⟩ (by decide)).trans hf) h9.2)))
 have HH := Lib.hid (And.intro hroot (And.intro hc (And.intro hk (And.intro ha (And.intro hkd (And.intro hsl (And.intro hsp (And.intro hQ hC))))))))
 have HMM := Lib.hid hm
 clear hm h hs hfr hf hroot hc hk ha hkd hsl hsp hQ hC hc' h9
 go_enter Tryz.func96, Tryz.ntmps96
 go_upto_region 5 with fail
 rw [← hV]
 clear hV c7 cf d0 d1 d4 hlt
 have hc' : ∀ k, V.cell? ⟨fb, k, none⟩ = (#[.int .i64 0, .int .i64 (i : Nat), .int .i64 0, .pointer none, .pointer none, .pointer none] : Array Value)[k]? := fun k => cell_of_row _ _ k _ _ _ HV.out.2.2.1
 have d0 := (hc' 0).trans rfl
 have d1 := (hc' 1).trans rfl
 have c1 : V.cell? ⟨rb, 1, none⟩ = some (.pointer (some ⟨r.sb, 0, none⟩)) := HV.out.1.run.get 1
 clear hc'
 go_upto_region 15 with fail
 obtain ⟨sb, hsb⟩ : ∃ sb, sb = r.sb := ⟨_, rfl⟩
 have HE : Hid (∀ w, Below V.heap.size V w → w.cell? ⟨rb, 1, none⟩ = some (.pointer (some ⟨sb, 0, none⟩)) ∧ w.cell? ⟨fb, 1, none⟩ = some (.int .i64 (i : Nat))) := Lib.hid fun w hb => by
  refine ⟨by rw [(HV.out.1.run.later hb).get 1, hsb]; rfl, ?_⟩
  have h1 : FrameAt w fb (i : Nat) 0 := FrameAt.later HV.out.2.2.1 hb
  exact (cell_of_row _ _ 1 _ _ _ h1).trans rfl
 have HLK : Hid (∀ W, Below V.heap.size V W → Calls Tryz.prog 147 #[.pointer (some ⟨sb, 0, none⟩), .int .i64 (i : Nat)] W fun e w1 => ∃ A' c', e = .returned (.tuple #[.agg #[.int .i64 4, .int .i64 c.n, .string ⟨c.s.toArray⟩, .slice none 0 0], .slice A' m c']) ∧ ArgsAt w1 A' c.args ∧ Below W.heap.size W w1 ∧ Below V.heap.size V w1) := Lib.hid fun W hb => by
  have hs := HV.out.2.1.later hb
  rw [← hsb] at hs
  refine (look_st hs HH.out.1 HH.out.2.1 (by have := HH.out.2.2.2.1; have := HMM.out; omega)).mono ?_
  rintro e w1 ⟨A', c', rfl, h1, -, h3⟩
  have hk := HH.out.2.2.1
  refine ⟨A', c', ?_, h1, h3, hb.trans (h3.mono hb.size)⟩
  rw [HH.out.2.2.2.1]
  unfold shF
  rw [if_neg (by rw [hk]; decide), hk]
  rfl
 have HB1 := Lib.hid (Below.refl V.heap.size V).drew
 have HB2 := Lib.hid ((Below.refl V.heap.size V).alloc (Nat.le_refl _) (.cells #[.int .i64 0, .int .i64 0, .string ⟨#[]⟩, .slice none 0 0] 27)).drew
 have HD2 := Lib.hid (HE.out _ HB2.out)
 have HZ2 : Hid ((V.alloc (.cells #[.int .i64 0, .int .i64 0, .string ⟨#[]⟩, .slice none 0 0] 27)).drew.heap[V.heap.size]? = some (.cells #[.int .i64 0, .int .i64 0, .string ⟨#[]⟩, .slice none 0 0] 27 (0, 0))) := Lib.hid (heap_alloc_new V _)
 have HL2 : Hid (V.heap.size < (V.alloc (.cells #[.int .i64 0, .int .i64 0, .string ⟨#[]⟩, .slice none 0 0] 27)).drew.heap.size) := Lib.hid (Array.getElem?_eq_some_iff.1 HZ2.out).1
 have HD := Lib.hid (HE.out _ (Below.refl _ _).drew)
 have HSB := Lib.hid hsb
 clear hsb c1 d0 d1
 go_region_held3 (fun w => w.cell? ⟨rb, 1, none⟩ = some (.pointer (some ⟨sb, 0, none⟩)) ∧ w.cell? ⟨fb, 1, none⟩ = some (.int .i64 (i : Nat)))
  (first | (with_reducible exact HA4.out) | (with_reducible exact HA3.out) | (with_reducible exact HA2.out) | (with_reducible exact HA1.out) | (with_reducible exact HD2.out) | (with_reducible exact HD.out))
  (first | (go_at_call 147; with_reducible (refine (HLK.out _ HB2.out).mono ?_; rintro e w1 ⟨A', c', rfl, g1, g2, g3⟩); have HZ1 := Lib.hid ((g2.block V.heap.size HL2.out).trans HZ2.out); obtain ⟨x0, x1, x2, x3, xf⟩ := four_at HZ1.out; have HA1 := Lib.hid (HE.out w1 g3); have HA4 := Lib.hid (HE.out _ ((((g3.setCell (p := ⟨V.heap.size, 0, none⟩) (Nat.le_refl _) (.int .i64 4)).setCell (p := ⟨V.heap.size, 1, none⟩) (Nat.le_refl _) (.int .i64 c.n)).setCell (p := ⟨V.heap.size, 2, none⟩) (Nat.le_refl _) (.string ⟨c.s.toArray⟩)).setCell (p := ⟨V.heap.size, 3, none⟩) (Nat.le_refl _) (.slice none 0 0))); have HG := Lib.hid (And.intro g1 g3); clear g1 g2 g3) | (go_at_call 147; with_reducible (refine (HLK.out _ HB1.out).mono ?_; rintro e w1 ⟨A', c', rfl, g1, g2, g3⟩); have HA1 := Lib.hid (HE.out w1 g3); have HA2 := Lib.hid (HE.out _ (g3.alloc g3.size (.cells #[.int .i64 0, .int .i64 0, .string ⟨#[]⟩, .slice none 0 0] 27))); have HA3 := Lib.hid (HE.out _ (g3.alloc g3.size (.cells #[.int .i64 4, .int .i64 c.n, .string ⟨c.s.toArray⟩, .slice none 0 0] 27))); have HG := Lib.hid (And.intro g1 g3); clear g1 g2 g3))
 focus
  obtain ⟨tb, htb⟩ : ∃ tb, tb = w1.heap.size := ⟨_, rfl⟩
  obtain ⟨W, hW⟩ : ∃ W, W = w1.alloc (.cells #[.int .i64 4, .int .i64 c.n, .string ⟨c.s.toArray⟩, .slice none 0 0] 27) := ⟨_, rfl⟩
  have HX : Hid (W.heap[tb]? = some (.cells #[.int .i64 4, .int .i64 c.n, .string ⟨c.s.toArray⟩, .slice none 0 0] 27 (0, 0)) ∧ ArgsAt W A' c.args ∧ Below V.heap.size V W) := Lib.hid (by
   rw [hW, htb]
   exact ⟨heap_alloc_new _ _, HG.out.1.keep fun b hb => Below.heap_alloc _ _ _ hb.lt, HG.out.2.alloc HG.out.2.size _⟩)
  rw [← hW, ← htb]
  clear hW htb HG HA1 HA2 HA3
 rotate_left
 focus
  obtain ⟨tb, htb⟩ : ∃ tb, tb = V.heap.size := ⟨_, rfl⟩
  obtain ⟨W, hW⟩ : ∃ W, W = ((((w1.setCell ⟨V.heap.size, 0, none⟩ (.int .i64 4)).setCell ⟨V.heap.size, 1, none⟩ (.int .i64 c.n)).setCell ⟨V.heap.size, 2, none⟩ (.string ⟨c.s.toArray⟩)).setCell ⟨V.heap.size, 3, none⟩ (.slice none 0 0)) := ⟨_, rfl⟩
  have HX : Hid (W.heap[tb]? = some (.cells #[.int .i64 4, .int .i64 c.n, .string ⟨c.s.toArray⟩, .slice none 0 0] 27 (0, 0)) ∧ ArgsAt W A' c.args ∧ Below V.heap.size V W) := Lib.hid (by
   rw [hW, htb]
   exact ⟨blk_set4 HZ1.out rfl _ _ _ _, HG.out.1.keep fun b hb => blk_set4_ne _ _ _ _ (hb.ne (t' := 27) ⟨_, HZ1.out⟩ (by decide)), (((HG.out.2.setCell (p := ⟨V.heap.size, 0, none⟩) (Nat.le_refl _) _).setCell (p := ⟨V.heap.size, 1, none⟩) (Nat.le_refl _) _).setCell (p := ⟨V.heap.size, 2, none⟩) (Nat.le_refl _) _).setCell (p := ⟨V.heap.size, 3, none⟩) (Nat.le_refl _) _⟩)
  rw [← hW, ← htb]
  clear hW htb HG HA1 HA4 HZ1 x0 x1 x2 x3 xf
 all_goals
  clear HLK HB1 HB2 HD HD2 HZ2 HL2 HE
  obtain ⟨b0, b1, b2, b3, -⟩ := four_at HX.out.1
  go_upto_region 18 with fail
  go_wp2_with fail
  refine (kind_any W 4 c.n c.s none 0 0 m (.inr rfl) HH.out.2.2.2.2.2.1 HMM.out.1 HMM.out.2).mono ?_
  rintro e w3 ⟨rfl, hb3⟩
  rw [HH.out.2.2.2.2.1]
  have hVw := HX.out.2.2.trans (hb3.mono HX.out.2.2.size)
  have HR3 := Lib.hid (HV.out.1.later hVw)
  have HY := Lib.hid (And.intro ((hb3.block _ (Array.getElem?_eq_some_iff.1 HX.out.1).1).trans HX.out.1) (And.intro (HX.out.2.1.keep fun b hb => hb3.block b hb.lt) hVw))
  clear b0 b1 b2 b3 hb3 hVw HX
  go_upto_region 33 with fail
  have m0 : w3.cell? ⟨rb, 0, none⟩ = some (.pointer (some ⟨r.mb, 0, none⟩)) := HR3.out.run.get 0
  obtain ⟨⟨-, -, -, p3, -, -, p6, -⟩, pf⟩ := HR3.out.mach.cells
  have hsp1 : ¬ (300 : Int) ≤ spent := by have := HH.out.2.2.2.2.2.2.1; omega
  have hws : IntKind.i64.wrap (spent + 1) = spent + 1 := IntWalk.i64_in _ (by have := HH.out.2.2.2.2.2.2.1; omega)
  have hnm : rb ≠ r.mb := HR3.out.ne
  have hnm2 : r.mb ≠ rb := hnm.symm
  have m13 : w3.cell? ⟨rb, 13, none⟩ = some (.int .i64 r.loose) := HR3.out.run.get 13
  have mf := HR3.out.run.fz
  have hl3 := HR3.out.run.lt
  have hl4 := HR3.out.mach.lt
  go_region
  go_upto_region 37 with fail
  have HSP := Lib.hid HR3.out.spend
  have HPT := Lib.hid (HSP.out.1.put (r' := { r with fr := .pointer none, loose := 0 }) 13 (.int .i64 0) rfl rfl rfl)
  clear m0 p3 p6 pf hsp1 hws hnm hnm2 m13 mf hl3 hl4
  obtain ⟨X, hX⟩ : ∃ X, X = (w3.setCell ⟨r.mb, 6, none⟩ (.int .i64 (spent + 1))).setCell ⟨rb, 13, none⟩ (.int .i64 0) := ⟨_, rfl⟩
  have HX : Hid (RunSt X rb { r with fr := .pointer none, loose := 0 } l db ob (spent + 1) over ∧ TF [112, 90] w3 X) := Lib.hid (by
   rw [hX]
   exact ⟨HPT.out.1, (HSP.out.2.mono (by decide)).trans (HPT.out.2.mono (by decide))⟩)
  rw [← hX]
  clear hX HPT HSP
  have hbX : Below X.heap.size X X.drew.drew := (Below.refl _ _).drew.drew
  have HCS : Hid (Calls Tryz.prog 69 #[.pointer (some ⟨rb, 0, none⟩), .pointer (some ⟨fb, 0, none⟩), tvV (shF j c), .slice A' m c'] X.drew.drew Q) := Lib.hid (HH.out.2.2.2.2.2.2.2.2 _ _ _ (HX.out.1.later hbX) (((HV.out.2.1.later HY.out.2.2).tf HX.out.2 (by decide)).later hbX) ((HY.out.2.1.keep fun b hb => HX.out.2.block hb (by decide)).keep fun b hb => hbX.block b hb.lt) (((HV.out.2.2.2.mono (by decide)).later HY.out.2.2).trans (HX.out.2.later hbX)))
  have n14 : X.drew.cell? ⟨rb, 14, none⟩ = some (.func (Fn.func 69) #[] #[]) := HX.out.1.run.get 14
  obtain ⟨t0, t1, t2, t3, -⟩ := four_at ((HX.out.2.block (t := 27) ⟨_, HY.out.1⟩ (by decide)).trans HY.out.1)
  rw [show tvV (shF j c) = .agg #[.int .i64 4, .int .i64 c.n, .string ⟨c.s.toArray⟩, .slice none 0 0] by unfold shF; rw [if_neg (by rw [HH.out.2.2.1]; decide), HH.out.2.2.1]; rfl] at HCS
  have HQI := Lib.hid HH.out.2.2.2.2.2.2.2.1
  clear HH HV HR3 HY HX hbX HSB
  go_region_with (refine HCS.out.mono ?_; intro e w9 hq; obtain ⟨o, rfl⟩ := HQI.out _ _ hq; have HQQ := Lib.hid hq; clear hq)
  all_goals
   go_wp2_with fail
   go_ret
   exact HQQ.out
end Go.Proofs.YtjdnigepnfeboaaGreatDoor
