import Derived.Test.YtjdnigepnfeboaaGreatDoorJG40
namespace Go.Proofs.YtjdnigepnfeboaaGreatDoor
open Go.RowKit Go.Maps
set_option maxRecDepth 100000
variable [Base]
set_option linter.unusedSectionVars false
theorem blt_p : mget bltL (([112] : List UInt8), (1 : Int)) = none := by decide
def StepP (rb db ob c : Nat) (A : Option Addr) (r : RC) (l : List (Int × List UInt8)) (spent : Int) (over : List UInt8) (u : World) (e : Ending) (u' : World) : Prop :=
 e = .returned (.int .i64 0) ∧ ∃ hb Bn nv ch, RunSt u' rb { r with ch := ch, fr := .pointer none } l db ob spent over ∧ ChRow u' rb ch [hb] ∧ ChAt Bn u' hb A c nv 1 ∧ (∃ cv bv xs tp, StAt r.sb 40000 u' cv bv xs (boundC [ppS 1, pvS] 1) [(1, tp)]) ∧ TF tryT u u'
set_option maxHeartbeats 8000000 in
theorem step_p {Bd dmb pb : Nat} {Ad : Option Addr} {cd : Nat} {cls : List ClV} {ver : Int} {ov : Value} {spent : Int} {over : List UInt8} {db ob : Nat} {l : List (Int × List UInt8)} (u : World) (rb fb : Nat) (r : RC) (cv bv : Value) (xs : List ScM) (A : Option Addr) (c : Nat)
    (hR : RunSt u rb r l db ob spent over) (hfr : r.fr = .pointer none) (hch : r.ch = .slice none 0 0) (hs : StAt r.sb 40000 u cv bv xs [ppS 1, pvS] []) (hB : BltAt u r.bb rb) (hD : DbP Bd db dmb pb Ad cd cls ver ov u) (hA : ArgsAt u A [1]) (hf : FrameAt u fb 0 0) :
    Calls Tryz.prog 69 #[.pointer (some ⟨rb, 0, none⟩), .pointer (some ⟨fb, 0, none⟩), .agg #[.int .i64 4, .int .i64 0, .string ⟨#[112]⟩, .slice none 0 0], .slice A 1 c] u (StepP rb db ob c A r l spent over u) := by
 obtain ⟨P, hP⟩ : ∃ P : Ending → World → Prop, P = StepP rb db ob c A r l spent over u := ⟨_, rfl⟩
 rw [← hP]
 have HP := Lib.hid hP
 obtain ⟨V, hV⟩ : ∃ V, V = (u.alloc (.cells #[.int .i64 4, .int .i64 0, .string ⟨#[112]⟩, .slice none 0 0] 27)).alloc (.cells #[.string ⟨#[112]⟩, .int .i64 1] 153) := ⟨_, rfl⟩
 have hbV : Below u.heap.size u V := by rw [hV]; exact ((Below.refl _ _).alloc (Nat.le_refl _) _).alloc (by simp) _
 have hz : V.heap[u.heap.size + 1]? = some (.cells #[.string ⟨#[112]⟩, .int .i64 1] 153 (0, 0)) := by
  have := heap_alloc_new (u.alloc (.cells #[.int .i64 4, .int .i64 0, .string ⟨#[112]⟩, .slice none 0 0] 27)) (.cells #[.string ⟨#[112]⟩, .int .i64 1] 153)
  rw [World.size_alloc] at this
  rw [hV]; exact this
 obtain ⟨qb, hqb⟩ : ∃ qb, qb = u.heap.size + 1 := ⟨_, rfl⟩
 rw [← hqb] at hz
 have k0 : V.cell? ⟨qb, 0, none⟩ = some (.string ⟨#[112]⟩) := (cell_of_row _ _ 0 _ _ _ hz).trans rfl
 have k1 : V.cell? ⟨qb, 1, none⟩ = some (.int .i64 1) := (cell_of_row _ _ 1 _ _ _ hz).trans rfl
 have k2 : V.cell? ⟨rb, 26, none⟩ = some (.map (some r.bb)) := (hR.later hbV).run.get 26
 have hlk := (hB.later hbV.drew).look [112] 1 ⟨by decide, (by decide : (-9223372036854775808 : Int) ≤ 1), (by decide : (1 : Int) ≤ 9223372036854775807)⟩
 rw [blt_p] at hlk
 replace hlk : (Instr.lookup 110 (.map (some r.bb)) (.agg #[.string ⟨#[112]⟩, .int .i64 1]) true).run Tryz.prog V.drew = .ok (.tuple #[.nilFunc, .bool false]) V.drew := hlk
 obtain ⟨mb, hmb⟩ : ∃ mb, mb = r.mb := ⟨_, rfl⟩
 obtain ⟨sb, hsb⟩ : ∃ sb, sb = r.sb := ⟨_, rfl⟩
 have HSV : Hid (∀ w, Below u.heap.size u w → w.heap[qb]? = V.heap[qb]? → (w.cell? ⟨rb, 0, none⟩ = some (.pointer (some ⟨mb, 0, none⟩)) ∧ w.cell? ⟨rb, 1, none⟩ = some (.pointer (some ⟨sb, 0, none⟩)) ∧ w.cell? ⟨rb, 7, none⟩ = some (.pointer none) ∧ w.cell? ⟨fb, 1, none⟩ = some (.int .i64 0)) ∧ (w.cell? ⟨mb, 0, none⟩ = some (.pointer (some ⟨db, 0, none⟩)) ∧ w.cell? ⟨mb, 2, none⟩ = some (.pointer none) ∧ w.cell? ⟨mb, 6, none⟩ = some (.int .i64 spent)) ∧ w.cell? ⟨qb, 0, none⟩ = some (.string ⟨#[112]⟩) ∧ w.cell? ⟨qb, 1, none⟩ = some (.int .i64 1)) := Lib.hid fun w hw hq => by
  have hr := hR.later hw
  obtain ⟨⟨m0, -, m2, -, -, -, m6, -⟩, -⟩ := hr.mach.cells
  rw [← hmb] at m0 m2 m6
  exact ⟨⟨(hr.run.get 0).trans (by rw [hmb]; rfl), (hr.run.get 1).trans (by rw [hsb]; rfl), (hr.run.get 7).trans (by show some r.fr = _; rw [hfr]), (cell_of_row _ _ 1 _ _ _ (show w.heap[fb]? = _ from hf.later hw)).trans rfl⟩, ⟨m0, m2, m6⟩, (cell_of_row _ _ 0 _ _ _ (hq.trans hz)).trans rfl, (cell_of_row _ _ 1 _ _ _ (hq.trans hz)).trans rfl⟩
 have HI := Lib.hid (And.intro hR (And.intro hfr (And.intro hch (And.intro hs (And.intro hD (And.intro hA (show u.heap.size < qb by omega)))))))
 have HBV := Lib.hid hbV
 have HZ := Lib.hid hz
 have HMS := Lib.hid (And.intro hmb hsb)
 obtain ⟨⟨c0, c1, c7, f1⟩, ⟨m0, m2, m6⟩, -, -⟩ := HSV.out V hbV rfl
 clear hR hfr hch hs hB hD hA hf hP hbV hz hmb hsb
 go_enter Tryz.func69, Tryz.ntmps69
 go_upto_region 2 with fail
 rw [← hqb, ← hV]
 clear hV hqb
 go_region
 clear hlk k2
 go_wp2_with fail
 refine (tdoes_p _).mono ?_
 rintro e w1 ⟨rfl, rfl⟩
 go_wp2_with fail
 refine (sdoes_p _).mono ?_
 rintro e w1 ⟨rfl, rfl⟩
 go_wp2_with fail
 refine ((HI.out.2.2.2.2.1.later HBV.out.drew).kind).mono ?_
 rintro e w1 ⟨rfl, rfl⟩
 go_upto_region 13 with fail
 go_region
 obtain ⟨hb, hhb⟩ : ∃ hb, hb = V.heap.size := ⟨_, rfl⟩
 obtain ⟨X, hX⟩ : ∃ X, X = (V.alloc (.cells #[.int .i64 2, .int .i64 0, .int .i64 0, .pointer none, .int .i64 0, .int .i64 0, .slice A 1 c, .slice none 0 0, .slice none 0 0, .int .i64 0, .slice none 0 0, .int .i64 0, .bool false] 229)).drew.drew := ⟨_, rfl⟩
 have hbX : Below V.heap.size V X := by rw [hX]; exact ((Below.refl _ _).alloc (Nat.le_refl _) _).drew.drew
 have hXb : X.heap[hb]? = some (.cells (chL A c (.slice none 0 0) 0 0 0).toArray 229 (0, 0)) := by rw [hX, hhb]; exact heap_alloc_new _ _
 have hXq := hbX.block _ (Array.getElem?_eq_some_iff.1 HZ.out).1
 have hhu : u.heap.size ≤ hb := by rw [hhb]; exact HBV.out.size
 have huX : Below u.heap.size u X := HBV.out.trans (hbX.mono HBV.out.size)
 rw [← hhb, ← hX]
 have x1 : X.cell? ⟨hb, 1, none⟩ = some (.int .i64 0) := (cell_of_row _ _ 1 _ _ _ hXb).trans rfl
 have x2 : X.cell? ⟨hb, 2, none⟩ = some (.int .i64 0) := (cell_of_row _ _ 2 _ _ _ hXb).trans rfl
 have xf : ∀ o, X.frozen? ⟨hb, o, none⟩ = false := fun o => by simp [World.frozen?, hXb]
 have hlX := (Array.getElem?_eq_some_iff.1 hXb).1
 have HR1 : Hid (∀ w, Below u.heap.size u w → w.cell? ⟨rb, 1, none⟩ = some (.pointer (some ⟨sb, 0, none⟩))) := Lib.hid fun w hw => ((HI.out.1.later hw).run.get 1).trans (by rw [HMS.out.2]; rfl)
 have hs0 : StAt sb 40000 X.drew cv bv xs [ppS 1, pvS] [] := by rw [HMS.out.2]; exact HI.out.2.2.2.1.later huX.drew
 have HMK : Hid (Calls Tryz.prog 141 #[.pointer (some ⟨sb, 0, none⟩)] X.drew fun e u' => e = .returned (.int .i64 0) ∧ u' = X.drew) := Lib.hid (Mark_st hs0)
 have HCE : Hid (Calls Tryz.prog 142 #[.pointer (some ⟨sb, 0, none⟩)] X.drew fun e u' => e = .returned (.int .i64 2) ∧ u' = X.drew) := Lib.hid (Cells_st hs0)
 have b0 := huX.drew
 have b1' := huX.setCell (p := ⟨hb, 1, none⟩) hhu (.int .i64 0)
 have b2' := huX.setCell (p := ⟨hb, 2, none⟩) hhu (.int .i64 2)
 have b1 := b1'.drew
 have b2 := b2'.drew
 have b12 := (b1'.setCell (p := ⟨hb, 2, none⟩) hhu (.int .i64 2)).drew
 have b21 := (b2'.setCell (p := ⟨hb, 1, none⟩) hhu (.int .i64 0)).drew
 have HHU := Lib.hid hhu
 have HXX := Lib.hid (And.intro hXb (And.intro hXq hhu))
 clear hX hhb hbX hXb hXq huX hs0 c0 c1 c7 f1 m0 m2 m6 k0 k1
 go_upto_region 14 with fail
 go_cut [] from 90 to 105 (fun v => Hid (v.heap[hb]? = some (.cells (chL A c (.slice none 0 0) 0 2 0).toArray 229 (0, 0)) ∧ Below u.heap.size u v ∧ v.heap[qb]? = V.heap[qb]?))
 case first =>
  go_region_held3 (fun w => w.cell? ⟨rb, 1, none⟩ = some (.pointer (some ⟨sb, 0, none⟩)))
   (first | (with_reducible exact HR1.out _ (by assumption)))
   (first | (go_at_call 141; with_reducible refine HMK.out.mono ?_; rintro e w1 ⟨rfl, rfl⟩) | (go_at_call 142; with_reducible refine HCE.out.mono ?_; rintro e w1 ⟨rfl, rfl⟩))
  all_goals
   go_wp2_with fail
   go_meet
   have hqb : qb ≠ hb := TyB.ne (t := 153) ⟨_, HXX.out.2.1.trans HZ.out⟩ (t' := 229) ⟨_, HXX.out.1⟩ (by decide)
   first
    | exact Lib.hid ⟨blk_put (blk_put HXX.out.1 _) _, b12, (Below.heap_setCell _ _ _ _ hqb).trans ((Below.heap_setCell _ _ _ _ hqb).trans HXX.out.2.1)⟩
    | exact Lib.hid ⟨blk_put (blk_put HXX.out.1 _) _, b21, (Below.heap_setCell _ _ _ _ hqb).trans ((Below.heap_setCell _ _ _ _ hqb).trans HXX.out.2.1)⟩
 case rest =>
  obtain ⟨v, rfl⟩ : ∃ v : World, v = wc := ⟨_, rfl⟩
  have HV := hcut
  clear hcut x1 x2 xf hlX HR1 HMK HCE b0 b1 b2 b1' b2' b12 b21 HXX
  have HS5 : Hid (∀ w, Below v.heap.size v w → w.cell? ⟨rb, 0, none⟩ = some (.pointer (some ⟨mb, 0, none⟩)) ∧ w.cell? ⟨mb, 2, none⟩ = some (.pointer none) ∧ w.cell? ⟨mb, 6, none⟩ = some (.int .i64 spent) ∧ w.cell? ⟨qb, 0, none⟩ = some (.string ⟨#[112]⟩) ∧ w.cell? ⟨qb, 1, none⟩ = some (.int .i64 1)) := Lib.hid fun w hw => by
   have hq := (hw.block _ (Array.getElem?_eq_some_iff.1 (HV.out.2.2.trans HZ.out)).1).trans HV.out.2.2
   obtain ⟨⟨e0, -⟩, ⟨-, e2, e3⟩, e4, e5⟩ := HSV.out w (HV.out.2.1.trans (hw.mono HV.out.2.1.size)) hq
   exact ⟨e0, e2, e3, e4, e5⟩
  have HEN : Hid (∀ W, Below v.heap.size v W → Calls Tryz.prog 143 #[.pointer none, .pointer (some ⟨db, 0, none⟩), .int .i64 spent, .string ⟨#[112]⟩, .int .i64 1] W fun e w1 => e = .returned (.tuple #[.agg #[.int .i64 0, .slice none 0 0, .slice none 0 0], .bool false]) ∧ Below W.heap.size W w1 ∧ Below v.heap.size v w1) := Lib.hid fun W hW => by
   refine (Enter_nil W _ _ [112] 1).mono ?_
   rintro e w1 ⟨rfl, h1⟩
   exact ⟨rfl, h1, hW.trans (h1.mono hW.size)⟩
  have d0 := (Below.refl v.heap.size v).drew
  have d1 := ((Below.refl v.heap.size v).alloc (Nat.le_refl _) (.cells #[.int .i64 0, .slice none 0 0, .slice none 0 0] 232)).drew
  have HZ1 : Hid ((v.alloc (.cells #[.int .i64 0, .slice none 0 0, .slice none 0 0] 232)).drew.heap[v.heap.size]? = some (.cells #[.int .i64 0, .slice none 0 0, .slice none 0 0] 232 (0, 0))) := Lib.hid (heap_alloc_new v _)
  have HL1 : Hid (v.heap.size < (v.alloc (.cells #[.int .i64 0, .slice none 0 0, .slice none 0 0] 232)).drew.heap.size) := Lib.hid (Array.getElem?_eq_some_iff.1 HZ1.out).1
  go_upto_region 15 with fail
  go_cut [11] from 14 to 128 (fun b v' => b = .bool false ∧ Hid (Below v.heap.size v v'))
  case first =>
   go_region_held3 (fun w => w.cell? ⟨rb, 0, none⟩ = some (.pointer (some ⟨mb, 0, none⟩)) ∧ w.cell? ⟨mb, 2, none⟩ = some (.pointer none) ∧ w.cell? ⟨mb, 6, none⟩ = some (.int .i64 spent) ∧ w.cell? ⟨qb, 0, none⟩ = some (.string ⟨#[112]⟩) ∧ w.cell? ⟨qb, 1, none⟩ = some (.int .i64 1))
    (first | (with_reducible exact HS5.out _ (by assumption)))
    (first | (go_at_call 143; with_reducible refine (HEN.out _ d1).mono ?_; rintro e w1 ⟨rfl, g0, g1⟩; have z1 := (g0.block _ HL1.out).trans HZ1.out; obtain ⟨y0, y1, y2, yf⟩ := three_at z1; have yl := (Array.getElem?_eq_some_iff.1 z1).1; have g2 := ((g1.setCell (p := ⟨v.heap.size, 0, none⟩) (Nat.le_refl _) (.int .i64 0)).setCell (p := ⟨v.heap.size, 1, none⟩) (Nat.le_refl _) (.slice none 0 0)).setCell (p := ⟨v.heap.size, 2, none⟩) (Nat.le_refl _) (.slice none 0 0)) | (go_at_call 143; with_reducible refine (HEN.out _ d0).mono ?_; rintro e w1 ⟨rfl, g0, g1⟩; have g2 := g1.alloc g1.size (.cells #[.int .i64 0, .slice none 0 0, .slice none 0 0] 232)))
   all_goals
    go_wp2_with fail
    go_meet
    exact ⟨rfl, Lib.hid g2⟩
  case rest =>
   obtain ⟨v2, rfl⟩ : ∃ v : World, v = wc := ⟨_, rfl⟩
   obtain ⟨rfl, HV2⟩ := hcut
   clear HEN HS5 d0 d1 HZ1 HL1 HSV
   have hv := HV.out.2.1.trans (HV2.out.mono HV.out.2.1.size)
   have hbv := (HV2.out.block _ (Array.getElem?_eq_some_iff.1 HV.out.1).1).trans HV.out.1
   have hqv := (HV2.out.block _ (Array.getElem?_eq_some_iff.1 (HV.out.2.2.trans HZ.out)).1).trans HV.out.2.2
   have hDv := (HI.out.2.2.2.2.1.later hv.drew)
   have HTI := Lib.hid hDv.time
   have HSQ : Hid (∀ w : World, w.heap[qb]? = V.heap[qb]? → w.cell? ⟨qb, 0, none⟩ = some (.string ⟨#[112]⟩) ∧ w.cell? ⟨qb, 1, none⟩ = some (.int .i64 1)) := Lib.hid fun w h => ⟨(cell_of_row _ _ 0 _ _ _ (h.trans HZ.out)).trans rfl, (cell_of_row _ _ 1 _ _ _ (h.trans HZ.out)).trans rfl⟩
   have HAL : Hid (Calls Tryz.prog 144 #[.pointer (some ⟨db, 0, none⟩), .string ⟨#[112]⟩, .int .i64 1, .int .i64 2] v2.drew fun e w1 => ∃ A3 c3, e = .returned (.slice A3 2 c3) ∧ (Row w1 v2.heap.size 3 1 encI (.slice A3 2 c3) [0, 1] ∧ w1.heap[hb]? = some (.cells (chL A c (.slice none 0 0) 0 2 0).toArray 229 (0, 0)) ∧ Below u.heap.size u w1) ∧ (w1.cell? ⟨qb, 0, none⟩ = some (.string ⟨#[112]⟩) ∧ w1.cell? ⟨qb, 1, none⟩ = some (.int .i64 1)) ∧ ((w1.setCell ⟨hb, 8, none⟩ (.slice A3 2 c3)).cell? ⟨qb, 0, none⟩ = some (.string ⟨#[112]⟩) ∧ (w1.setCell ⟨hb, 8, none⟩ (.slice A3 2 c3)).cell? ⟨qb, 1, none⟩ = some (.int .i64 1)) ∧ w1.cell? ⟨hb, 8, none⟩ = some (.slice none 0 0) ∧ (∀ o, w1.frozen? ⟨hb, o, none⟩ = false) ∧ hb < w1.heap.size) := Lib.hid (by
    refine hDv.alive.mono ?_
    rintro e w1 ⟨nv, rfl, h1, h2⟩
    obtain ⟨A3, c3, rfl⟩ := h1.shape
    have k2 := (h2.block _ (Array.getElem?_eq_some_iff.1 hbv).1).trans hbv
    have k3 := (h2.block _ (Array.getElem?_eq_some_iff.1 (hqv.trans HZ.out)).1).trans hqv
    have hqh : qb ≠ hb := TyB.ne (t := 153) ⟨_, k3.trans HZ.out⟩ (t' := 229) ⟨_, k2⟩ (by decide)
    exact ⟨A3, c3, rfl, ⟨h1, k2, hv.drew.trans (h2.mono hv.size)⟩, HSQ.out w1 k3, HSQ.out _ ((Below.heap_setCell _ _ _ _ hqh).trans k3), (cell_of_row _ _ 8 _ _ _ k2).trans rfl, fun o => by simp [World.frozen?, k2], (Array.getElem?_eq_some_iff.1 k2).1⟩)
   have HA0 := Lib.hid (HSQ.out v2.drew hqv)
   clear hv hbv hqv hDv
   go_upto_region 17 with fail
   go_region_held3 (fun w => w.cell? ⟨qb, 0, none⟩ = some (.string ⟨#[112]⟩) ∧ w.cell? ⟨qb, 1, none⟩ = some (.int .i64 1))
    (first | (with_reducible exact HA2.out) | (with_reducible exact HA1.out) | (with_reducible exact HA0.out))
    (first | (go_at_call 145; with_reducible refine HTI.out.mono ?_; rintro e w1 ⟨rfl, rfl⟩) | (go_at_call 144; with_reducible refine HAL.out.mono ?_; rintro e w1 ⟨A3, c3, rfl, k1, k2, k3, x8, xf, xl⟩; have HA1 := Lib.hid k2; have HA2 := Lib.hid k3; have HG := Lib.hid k1; clear k1 k2 k3))
   obtain ⟨Y, hY⟩ : ∃ Y, Y = w1.setCell ⟨hb, 8, none⟩ (.slice A3 2 c3) := ⟨_, rfl⟩
   have hbY : Below u.heap.size u Y := by rw [hY]; exact HG.out.2.2.setCell (p := ⟨hb, 8, none⟩) HHU.out _
   have hCY : ChAt v2.heap.size Y hb A c (.slice A3 2 c3) ((0 : Nat) : Int) := by
    refine ⟨by rw [hY]; exact blk_put HG.out.2.1 _, HI.out.2.2.2.2.2.1.later hbY, ?_, Nat.le_trans (Nat.le_trans HI.out.1.few.2.1 (Nat.le_of_lt HI.out.1.run.lt)) HHU.out⟩
    rw [hY]
    exact HG.out.1.keep fun k hk => Below.heap_setCell _ _ _ _ ((HG.out.1.ty hk).ne (t' := 229) ⟨_, HG.out.2.1⟩ (by decide))
   rw [← hY]
   have HTR := Lib.hid (try_p Y rb r cv bv xs [ppS 1, pvS] 0 (.inl rfl) (HI.out.1.later hbY) ⟨none, 0, HI.out.2.2.1, fun _ => ⟨rfl, rfl⟩⟩ (HI.out.2.2.2.1.later hbY) PCs.first (by decide) (HI.out.2.2.2.2.1.later hbY) hCY)
   have HBY := Lib.hid hbY
   clear hY hbY hCY HG HTI HAL HSQ HA0 HA1 HA2 x8 xf xl
   go_wp2_with fail
   refine HTR.out.mono ?_
   rintro e w3 ⟨rfl, ⟨ch, k1, k2⟩, k3, ⟨cv3, bv3, xs3, tp3, k4⟩, k5⟩
   rw [if_pos rfl] at k2
   have HQ : Hid (P (.returned (.int .i64 0)) w3) := Lib.hid (by
    rw [HP.out]
    exact ⟨rfl, hb, _, _, ch, k1, k2, k3, ⟨cv3, bv3, xs3, tp3, k4⟩, (TF.of_below _ HBY.out).trans k5⟩)
   clear k1 k2 k3 k4 k5
   go_wp2_with fail
   exact HQ.out
end Go.Proofs.YtjdnigepnfeboaaGreatDoor
