import Derived.Test.YtiffopheamnngaaGreatDoorJT27
namespace Go.Proofs.YtiffopheamnngaaGreatDoor
open Go.RowKit Go.Maps
set_option maxRecDepth 100000
section
variable {E : RdE} {u u' : World} {v : RdV} {s : RdS} {fl : List FrV} {fv : FrV} {f : WaitF} {r : List WaitF}
set_option maxHeartbeats 16000000 in
theorem back_u2 (h : RdInv E u v s (fl ++ [fv])) (hvv : s.hv = true) (hw : s.wait = f :: r) (hu : f.use = 2) :
    Calls Tryz.prog 64 #[.pointer (some ⟨E.rb, 0, none⟩)] u fun e u' => RdOut E u u' (backF E.ts s f r) e := by
 obtain ⟨res, hres⟩ : ∃ res, res = backF E.ts s f r := ⟨_, rfl⟩
 have HRES := Lib.hid hres
 rw [← hres]
 clear hres
 obtain ⟨R, hR⟩ : ∃ R : Ending → World → Prop, R = fun e u' => RdOut E u u' res e := ⟨_, rfl⟩
 rw [← hR]
 have HRR := Lib.hid hR
 clear hR
 have HI := Lib.hid h
 have hwt := h.waits
 have htie := (h.popTies hw).1
 have HT := Lib.hid htie
 obtain ⟨g, cap, hsh, hg0, hg1, hcap, hcs⟩ := h.row.cells encFr_len (by simp)
 have e0 := (hcs fl.length fv (by simp) 0 _ rfl).1
 have e1 := (hcs fl.length fv (by simp) 1 _ rfl).1
 have e2 := (hcs fl.length fv (by simp) 2 _ rfl).1
 have e3 := (hcs fl.length fv (by simp) 3 _ rfl).1
 have e4 := (hcs fl.length fv (by simp) 4 _ rfl).1
 simp only [Nat.add_zero] at e0
 rw [List.length_append, List.length_cons, List.length_nil, Nat.zero_add] at hsh hcap hwt
 have c4 : u.cell? ⟨E.rb, 4, none⟩ = some (.slice (some ⟨g, 0, none⟩) (fl.length + 1) cap) := (h.r.blk.cell (i := 4) rfl).trans (congrArg some hsh)
 have c5 : u.cell? ⟨E.rb, 5, none⟩ = some (.int .i64 s.most) := h.r.blk.cell (i := 5) rfl
 have cf := h.r.blk.free
 have hrl := h.r.blk.lt
 have hN0 : (0 : Int) ≤ (fl.length : Int) := by omega
 have hN1 : (fl.length : Int) < (fl.length : Int) + 1 := by omega
 have hN2 : (fl.length : Int) ≤ (cap : Int) := by omega
 have hN3 : (fl.length : Int) + 1 ≤ (cap : Int) := by omega
 have hw1 : IntKind.i64.wrap ((fl.length : Int) + 1) = (fl.length : Int) + 1 := IntWalk.i64_in _ (by omega)
 have hw2 : IntKind.i64.wrap ((fl.length : Int) + 1 - 1) = (fl.length : Int) := by rw [show (fl.length : Int) + 1 - 1 = (fl.length : Int) by omega]; exact IntWalk.i64_in _ (by omega)
 obtain ⟨W, hW⟩ : ∃ W, W = (((u.setCell ⟨E.rb, 4, none⟩ (.slice (some ⟨g, 0, none⟩) fl.length cap)).setCell ⟨E.rb, 5, none⟩ (.int .i64 fv.most)).alloc (.cells #[.int .i64 fv.use, .int .i64 fv.most, .string ⟨fv.name.toArray⟩, .int .i64 fv.pri, .slice fv.A fv.len fv.cap] 120)).drew.drew := ⟨_, rfl⟩
 have HPA := Lib.hid (h.popped hw hsh hW)
 have HSH := Lib.hid hsh
 have hfu : fv.use = 2 := htie.use.trans hu
 have HU := Lib.hid hu
 have HG1 := Lib.hid hg1
 have HWT := Lib.hid hw
 clear h htie hcs hsh hu
 go_enter Tryz.func64, Tryz.ntmps64
 go_wp2_with fail
 go_region
 go_upto_region 1 with fail
 go_region
 rw [hfu] at hW
 clear e0 e1 e2 e3 e4 c4 hN0 hN1 hN2 hN3 hw1 hw2 hg0 hg1 hcap
 go_upto_region 15 with fail
 rw [← hW]
 clear hW c5 cf
 obtain ⟨m0, m1, m2, m3, m4, mf⟩ := five_at HPA.out.blk
 rw [hfu] at m0
 have hul : u.heap.size < W.heap.size := World.block_lt_of_cell? W _ m0
 have d7 : W.cell? ⟨E.rb, 7, none⟩ = some (.int .i64 v.x.k) := HPA.out.r.blk.cell (i := 7) rfl
 have d8 : W.cell? ⟨E.rb, 8, none⟩ = some (.int .i64 v.x.n) := HPA.out.r.blk.cell (i := 8) rfl
 have d9 : W.cell? ⟨E.rb, 9, none⟩ = some (.string ⟨v.x.s.toArray⟩) := HPA.out.r.blk.cell (i := 9) rfl
 have d10 : W.cell? ⟨E.rb, 10, none⟩ = some (.slice v.x.A v.x.len v.x.cap) := HPA.out.r.blk.cell (i := 10) rfl
 have drl := HPA.out.r.blk.lt
 obtain ⟨xs, g9, cap9, w9, hr9, hp9⟩ := HI.out.pushX (by assumption) HPA.out
 unfold oneB at hr9
 obtain ⟨w10, hw10⟩ : ∃ w10, w10 = w9.setCell ⟨u.heap.size, 4, none⟩ (.slice (some ⟨g9, 0, none⟩) (fv.len + 1) cap9) := ⟨_, rfl⟩
 have hs10 := hp9.set hrl (fun k hk => by injection hk with hk; subst hk; exact HG1.out)
 rw [← hw10] at hs10
 have HS := Lib.hid hs10
 obtain ⟨p0, p1, p2, p3, p4, pf⟩ := five_at hp9.blk
 rw [hfu] at p0
 obtain ⟨q0, q1, q2, q3, q4, qf⟩ := five_at hs10.blk
 rw [hfu] at q0
 clear hp9 hs10
 go_region_law (first | (refine step_run rfl (.tmp 92) (.tmp 97) 32 rfl (by rfl) (by rfl) hr9 ?_))
 all_goals
  clear m0 m1 m2 m3 m4 mf d7 d8 d9 d10 drl p0 p1 p2 p3 p4 pf hr9
  go_wp2_with fail
  rw [← hw10]
  refine (accept_any w10 E.rb _ E.ts _ E.B HS.out.r 44).mono ?_
  rintro e w11 ⟨rfl, h1, hF1⟩
  rw [show ({ s with wait := r, most := f.most } : RdS).at' = s.at' from rfl] at h1 ⊢
  have hne := frame_ne HS.out.blk HS.out.r.blk
  have HNE := Lib.hid hne
  have hb1 := (hF1.block u.heap.size (Array.getElem?_eq_some_iff.1 HS.out.blk).1 hne).trans HS.out.blk
  rw [hfu] at hb1
  have HB1 := Lib.hid hb1
  have HF1 := Lib.hid hF1
  clear q0 q1 q2 q3 q4 qf
  obtain ⟨m0, m1, m2, m3, m4, mf⟩ := five_at hb1
  clear hF1 hne hb1
  cases hq : isP E.ts s.at' 44 with
  | true =>
   rw [hq, if_pos rfl] at h1
   have H1 := Lib.hid h1
   have HB : Hid (backF E.ts s f r = .ok ((({ s with wait := r, most := f.most } : RdS).go 1).again { f with use := 2, l := f.l ++ [s.t] } 999)) := Lib.hid (by
    have hu := HU.out
    obtain ⟨fu, fm, fn, fp, flst⟩ := f
    simp only at hu
    subst hu
    unfold backF backG
    dsimp only
    rw [if_neg (by decide), if_neg (by decide), if_neg (by decide), if_neg (by decide), if_pos rfl, hq]
    rfl)
   have HW1 := Lib.hid (WRow.fr HS.out.wrow HF1.out)
   clear h1
   go_wp2_with fail
   refine (again_any w11 E.rb _ E.ts _ E.B H1.out fl HW1.out (by omega) (frN fv 2 g9 cap9) 999 { f with use := 2, l := f.l ++ [s.t] }).mono ?_
   rintro e w12 ⟨rfl, wv', r1, r2, r3⟩
   have R1 := Lib.hid r1
   have R2 := Lib.hid r2
   have R3 := Lib.hid r3
   clear r1 r2 r3
   go_wp2_with fail
   refine bodyPost_end (v := .tuple #[]) (by simp [results, Tryz.results64, go_sem]) rfl ?_
   rw [HRR.out, HRES.out, HB.out]
   have hd := HI.out.popOn hvv HWT.out HSH.out HS.out ((HF1.out.weak fun _ hk => .inl hk).trans R3.out) R1.out R2.out HB.out rfl rfl rfl rfl rfl
   exact ⟨hd.1, rfl, hd.2⟩
  | false =>
   rw [hq, if_neg (by simp)] at h1
   have H1 := Lib.hid h1
   have HB0 : Hid (backF E.ts s f r = (({ s with wait := r, most := f.most } : RdS).expect E.ts 41).map fun q => q.done (compT fv.name (f.l ++ [s.t])) 0) := Lib.hid (by
    have hu := HU.out
    have hn := HT.out.name
    obtain ⟨fu, fm, fn, fp, flst⟩ := f
    simp only at hu hn
    subst hu
    rw [hn]
    unfold backF backG
    dsimp only
    rw [if_neg (by decide), if_neg (by decide), if_neg (by decide), if_neg (by decide), if_pos rfl, hq]
    rfl)
   clear h1
   go_wp2_with fail
   refine (expect_any w11 E.rb _ E.ts _ E.B H1.out 41).mono ?_
   rintro e w12 ⟨hF1, h1⟩
   rw [show ({ s with wait := r, most := f.most } : RdS).at' = s.at' from rfl] at h1
   have hb2 := (hF1.block u.heap.size (Array.getElem?_eq_some_iff.1 HB1.out).1 HNE.out).trans HB1.out
   have HF2 := Lib.hid (HF1.out.trans hF1)
   clear m0 m1 m2 m3 m4 mf
   obtain ⟨m0, m1, m2, m3, m4, mf⟩ := five_at hb2
   clear hF1 hb2
   have HF5 : Hid (Fr (WP E v (opL [fv])) u w12) := Lib.hid (HS.out.fr.trans (wp_rb HF2.out))
   cases hq2 : isP E.ts s.at' 41 with
   | false =>
    rw [hq2, if_neg (by simp)] at h1
    obtain ⟨rfl, h1⟩ := h1
    have h2 := HB0.out
    unfold RdS.expect at h2
    rw [show ({ s with wait := r, most := f.most } : RdS).at' = s.at' from rfl, hq2] at h2
    refine ⟨rfl, ?_⟩
    rw [HRR.out, HRES.out, h2]
    exact ⟨HI.out.below opL_one (wp_set HF5.out), rfl, ({ s with wait := r, most := f.most } : RdS), _, rfl, h1⟩
   | true =>
    rw [hq2, if_pos rfl] at h1
    obtain ⟨rfl, h1⟩ := h1
    have h2 := HB0.out
    unfold RdS.expect at h2
    rw [show ({ s with wait := r, most := f.most } : RdS).at' = s.at' from rfl, hq2] at h2
    have HB : Hid (backF E.ts s f r = .ok ((({ s with wait := r, most := f.most } : RdS).go 1).done (compT fv.name (f.l ++ [s.t])) 0)) := Lib.hid h2
    have H2 := Lib.hid h1
    clear h1 h2
    go_wp2_with fail
    refine (done_any w12 E.rb _ E.ts _ E.B H2.out ⟨4, 0, fv.name, some ⟨g9, 0, none⟩, fv.len + 1, cap9⟩ (compT fv.name (f.l ++ [s.t])) 0).mono ?_
    rintro e w13 ⟨rfl, r1, r2⟩
    have R1 := Lib.hid r1
    have R2 := Lib.hid r2
    clear r1 r2
    go_wp2_with fail
    refine bodyPost_end (v := .tuple #[]) (by simp [results, Tryz.results64, go_sem]) rfl ?_
    rw [HRR.out, HRES.out, HB.out]
    have hF13 : Fr (WP E v (opL [fv])) u w13 := HF5.out.trans (wp_rb R2.out)
    have hrb : Fr (· = E.rb) w10 w13 := HF2.out.trans R2.out
    have hr2 := Row.keep HS.out.row (w' := w13) fun k hk => hrb.block k (HS.out.row.lt k hk).2 (by have := (HS.out.row.lt k hk).1; omega)
    have hx2 := HI.out.popComp hF13 HS.out.terms hr2 HS.out.own fv.name (by rw [HT.out.name]; exact HT.out.short)
    have hd := HI.out.popDone hvv HWT.out hF13 R1.out (WRow.fr HS.out.wrow hrb) hx2 HB.out rfl rfl rfl rfl
    exact ⟨hd.1, rfl, hd.2⟩
end
end Go.Proofs.YtiffopheamnngaaGreatDoor
namespace Go.Proofs.YtiffopheamnngaaGreatDoor
open Go.RowKit Go.Maps
set_option maxRecDepth 100000
section
variable {E : RdE} {u u' : World} {v : RdV} {s : RdS} {fl : List FrV} {fv : FrV} {f : WaitF} {r : List WaitF}
set_option maxHeartbeats 16000000 in
theorem back_u3 (h : RdInv E u v s (fl ++ [fv])) (hvv : s.hv = true) (hw : s.wait = f :: r) (hu : f.use = 3) :
    Calls Tryz.prog 64 #[.pointer (some ⟨E.rb, 0, none⟩)] u fun e u' => RdOut E u u' (backF E.ts s f r) e := by
 obtain ⟨res, hres⟩ : ∃ res, res = backF E.ts s f r := ⟨_, rfl⟩
 have HRES := Lib.hid hres
 rw [← hres]
 clear hres
 obtain ⟨R, hR⟩ : ∃ R : Ending → World → Prop, R = fun e u' => RdOut E u u' res e := ⟨_, rfl⟩
 rw [← hR]
 have HRR := Lib.hid hR
 clear hR
 have HI := Lib.hid h
 have hwt := h.waits
 have htie := (h.popTies hw).1
 have HT := Lib.hid htie
 obtain ⟨g, cap, hsh, hg0, hg1, hcap, hcs⟩ := h.row.cells encFr_len (by simp)
 have e0 := (hcs fl.length fv (by simp) 0 _ rfl).1
 have e1 := (hcs fl.length fv (by simp) 1 _ rfl).1
 have e2 := (hcs fl.length fv (by simp) 2 _ rfl).1
 have e3 := (hcs fl.length fv (by simp) 3 _ rfl).1
 have e4 := (hcs fl.length fv (by simp) 4 _ rfl).1
 simp only [Nat.add_zero] at e0
 rw [List.length_append, List.length_cons, List.length_nil, Nat.zero_add] at hsh hcap hwt
 have c4 : u.cell? ⟨E.rb, 4, none⟩ = some (.slice (some ⟨g, 0, none⟩) (fl.length + 1) cap) := (h.r.blk.cell (i := 4) rfl).trans (congrArg some hsh)
 have c5 : u.cell? ⟨E.rb, 5, none⟩ = some (.int .i64 s.most) := h.r.blk.cell (i := 5) rfl
 have cf := h.r.blk.free
 have hrl := h.r.blk.lt
 have hN0 : (0 : Int) ≤ (fl.length : Int) := by omega
 have hN1 : (fl.length : Int) < (fl.length : Int) + 1 := by omega
 have hN2 : (fl.length : Int) ≤ (cap : Int) := by omega
 have hN3 : (fl.length : Int) + 1 ≤ (cap : Int) := by omega
 have hw1 : IntKind.i64.wrap ((fl.length : Int) + 1) = (fl.length : Int) + 1 := IntWalk.i64_in _ (by omega)
 have hw2 : IntKind.i64.wrap ((fl.length : Int) + 1 - 1) = (fl.length : Int) := by rw [show (fl.length : Int) + 1 - 1 = (fl.length : Int) by omega]; exact IntWalk.i64_in _ (by omega)
 obtain ⟨W, hW⟩ : ∃ W, W = (((u.setCell ⟨E.rb, 4, none⟩ (.slice (some ⟨g, 0, none⟩) fl.length cap)).setCell ⟨E.rb, 5, none⟩ (.int .i64 fv.most)).alloc (.cells #[.int .i64 fv.use, .int .i64 fv.most, .string ⟨fv.name.toArray⟩, .int .i64 fv.pri, .slice fv.A fv.len fv.cap] 120)).drew.drew := ⟨_, rfl⟩
 have HPA := Lib.hid (h.popped hw hsh hW)
 have HSH := Lib.hid hsh
 have hfu : fv.use = 3 := htie.use.trans hu
 have HU := Lib.hid hu
 have HG1 := Lib.hid hg1
 have HWT := Lib.hid hw
 clear h htie hcs hsh hu
 go_enter Tryz.func64, Tryz.ntmps64
 go_wp2_with fail
 go_region
 go_upto_region 1 with fail
 go_region
 rw [hfu] at hW
 clear e0 e1 e2 e3 e4 c4 hN0 hN1 hN2 hN3 hw1 hw2 hg0 hg1 hcap
 go_upto_region 21 with fail
 rw [← hW]
 clear hW c5 cf
 obtain ⟨m0, m1, m2, m3, m4, mf⟩ := five_at HPA.out.blk
 rw [hfu] at m0
 have hul : u.heap.size < W.heap.size := World.block_lt_of_cell? W _ m0
 have d7 : W.cell? ⟨E.rb, 7, none⟩ = some (.int .i64 v.x.k) := HPA.out.r.blk.cell (i := 7) rfl
 have d8 : W.cell? ⟨E.rb, 8, none⟩ = some (.int .i64 v.x.n) := HPA.out.r.blk.cell (i := 8) rfl
 have d9 : W.cell? ⟨E.rb, 9, none⟩ = some (.string ⟨v.x.s.toArray⟩) := HPA.out.r.blk.cell (i := 9) rfl
 have d10 : W.cell? ⟨E.rb, 10, none⟩ = some (.slice v.x.A v.x.len v.x.cap) := HPA.out.r.blk.cell (i := 10) rfl
 have drl := HPA.out.r.blk.lt
 obtain ⟨xs, g9, cap9, w9, hr9, hp9⟩ := HI.out.pushX (by assumption) HPA.out
 unfold oneB at hr9
 obtain ⟨w10, hw10⟩ : ∃ w10, w10 = w9.setCell ⟨u.heap.size, 4, none⟩ (.slice (some ⟨g9, 0, none⟩) (fv.len + 1) cap9) := ⟨_, rfl⟩
 have hs10 := hp9.set hrl (fun k hk => by injection hk with hk; subst hk; exact HG1.out)
 rw [← hw10] at hs10
 have HS := Lib.hid hs10
 obtain ⟨p0, p1, p2, p3, p4, pf⟩ := five_at hp9.blk
 rw [hfu] at p0
 obtain ⟨q0, q1, q2, q3, q4, qf⟩ := five_at hs10.blk
 rw [hfu] at q0
 clear hp9 hs10
 go_region_law (first | (refine step_run rfl (.tmp 117) (.tmp 122) 32 rfl (by rfl) (by rfl) hr9 ?_))
 all_goals
  clear m0 m1 m2 m3 m4 mf d7 d8 d9 d10 drl p0 p1 p2 p3 p4 pf hr9
  have HIT := Lib.hid (items_any HI.out hvv HWT.out HU.out HSH.out HS.out)
  unfold frV frN at HIT
  go_upto_region 22 with fail
  rw [← hw10]
  clear hw10
  go_wp2_with fail
  refine HIT.out.mono ?_
  rintro e w11 ho
  rw [← HRES.out] at ho
  have HO := Lib.hid ho
  cases hr : res with
  | error a =>
   rw [hr] at ho
   obtain ⟨ho1, rfl, ho2⟩ := ho
   refine ⟨rfl, ?_⟩
   rw [HRR.out, hr]
   exact ⟨ho1, rfl, ho2⟩
  | ok s' =>
   rw [hr] at ho
   obtain ⟨ho1, rfl, ho2⟩ := ho
   have HO1 := Lib.hid ho1
   have HO2 := Lib.hid ho2
   have HR9 := Lib.hid hr
   clear ho1 ho2 hr
   go_wp2_with fail
   refine bodyPost_end (v := .tuple #[]) (by simp [results, Tryz.results64, go_sem]) rfl ?_
   rw [HRR.out, HR9.out]
   exact ⟨HO1.out, rfl, HO2.out⟩
end
end Go.Proofs.YtiffopheamnngaaGreatDoor
namespace Go.Proofs.YtiffopheamnngaaGreatDoor
open Go.RowKit Go.Maps
set_option maxRecDepth 100000
section
variable {E : RdE} {u u' : World} {v : RdV} {s : RdS} {fl : List FrV} {fv : FrV} {f : WaitF} {r : List WaitF}
set_option maxHeartbeats 16000000 in
theorem back_u4 (h : RdInv E u v s (fl ++ [fv])) (hvv : s.hv = true) (hw : s.wait = f :: r) (hu : f.use = 4) :
    Calls Tryz.prog 64 #[.pointer (some ⟨E.rb, 0, none⟩)] u fun e u' => RdOut E u u' (backF E.ts s f r) e := by
 obtain ⟨res, hres⟩ : ∃ res, res = backF E.ts s f r := ⟨_, rfl⟩
 have HRES := Lib.hid hres
 rw [← hres]
 clear hres
 obtain ⟨R, hR⟩ : ∃ R : Ending → World → Prop, R = fun e u' => RdOut E u u' res e := ⟨_, rfl⟩
 rw [← hR]
 have HRR := Lib.hid hR
 clear hR
 have HI := Lib.hid h
 have hwt := h.waits
 have htie := (h.popTies hw).1
 have HT := Lib.hid htie
 obtain ⟨g, cap, hsh, hg0, hg1, hcap, hcs⟩ := h.row.cells encFr_len (by simp)
 have e0 := (hcs fl.length fv (by simp) 0 _ rfl).1
 have e1 := (hcs fl.length fv (by simp) 1 _ rfl).1
 have e2 := (hcs fl.length fv (by simp) 2 _ rfl).1
 have e3 := (hcs fl.length fv (by simp) 3 _ rfl).1
 have e4 := (hcs fl.length fv (by simp) 4 _ rfl).1
 simp only [Nat.add_zero] at e0
 rw [List.length_append, List.length_cons, List.length_nil, Nat.zero_add] at hsh hcap hwt
 have c4 : u.cell? ⟨E.rb, 4, none⟩ = some (.slice (some ⟨g, 0, none⟩) (fl.length + 1) cap) := (h.r.blk.cell (i := 4) rfl).trans (congrArg some hsh)
 have c5 : u.cell? ⟨E.rb, 5, none⟩ = some (.int .i64 s.most) := h.r.blk.cell (i := 5) rfl
 have cf := h.r.blk.free
 have hrl := h.r.blk.lt
 have hN0 : (0 : Int) ≤ (fl.length : Int) := by omega
 have hN1 : (fl.length : Int) < (fl.length : Int) + 1 := by omega
 have hN2 : (fl.length : Int) ≤ (cap : Int) := by omega
 have hN3 : (fl.length : Int) + 1 ≤ (cap : Int) := by omega
 have hw1 : IntKind.i64.wrap ((fl.length : Int) + 1) = (fl.length : Int) + 1 := IntWalk.i64_in _ (by omega)
 have hw2 : IntKind.i64.wrap ((fl.length : Int) + 1 - 1) = (fl.length : Int) := by rw [show (fl.length : Int) + 1 - 1 = (fl.length : Int) by omega]; exact IntWalk.i64_in _ (by omega)
 obtain ⟨W, hW⟩ : ∃ W, W = (((u.setCell ⟨E.rb, 4, none⟩ (.slice (some ⟨g, 0, none⟩) fl.length cap)).setCell ⟨E.rb, 5, none⟩ (.int .i64 fv.most)).alloc (.cells #[.int .i64 fv.use, .int .i64 fv.most, .string ⟨fv.name.toArray⟩, .int .i64 fv.pri, .slice fv.A fv.len fv.cap] 120)).drew.drew := ⟨_, rfl⟩
 have HPA := Lib.hid (h.popped hw hsh hW)
 have HSH := Lib.hid hsh
 have hfu : fv.use = 4 := htie.use.trans hu
 have HU := Lib.hid hu
 have HG1 := Lib.hid hg1
 have HWT := Lib.hid hw
 clear h htie hcs hsh hu
 go_enter Tryz.func64, Tryz.ntmps64
 go_wp2_with fail
 go_region
 go_upto_region 1 with fail
 go_region
 rw [hfu] at hW
 clear e0 e1 e2 e3 e4 c4 hN0 hN1 hN2 hN3 hw1 hw2 hg0 hg1 hcap
 go_wp2_with fail
 rw [← hW]
 clear hW c5 cf
 refine (expect_any W E.rb _ E.ts _ E.B HPA.out.r 93).mono ?_
 rintro e w1 ⟨hF1, h1⟩
 have hF1u := HPA.out.fr.trans hF1
 have HF1 := Lib.hid hF1
 have HF1u := Lib.hid hF1u
 rw [show ({ s with wait := r, most := f.most } : RdS).at' = s.at' from rfl] at h1
 clear hF1 hF1u
 cases hq : isP E.ts s.at' 93 with
 | false =>
  rw [hq, if_neg (by simp)] at h1
  obtain ⟨rfl, h1⟩ := h1
  have hb : backF E.ts s f r = .error s.at' := (Lib.hid (by unfold backF backG; dsimp only; rw [if_neg (by rw [HU.out]; decide), if_neg (by rw [HU.out]; decide), if_neg (by rw [HU.out]; decide), if_neg (by rw [HU.out]; decide), if_neg (by rw [HU.out]; decide), if_neg (by rw [HU.out]; decide), if_pos HU.out]; unfold RdS.expect; rw [show ({ s with wait := r, most := f.most } : RdS).at' = s.at' from rfl, hq]; rfl)).out
  refine ⟨rfl, ?_⟩
  rw [HRR.out, HRES.out, hb]
  exact ⟨HI.out.below opL_one (wp_set (wp_rb HF1u.out)), rfl, ({ s with wait := r, most := f.most } : RdS), _, rfl, h1⟩
 | true =>
  rw [hq, if_pos rfl] at h1
  obtain ⟨rfl, h1⟩ := h1
  have H1 := Lib.hid h1
  have d7 : w1.cell? ⟨E.rb, 7, none⟩ = some (.int .i64 v.x.k) := h1.blk.cell (i := 7) rfl
  have d8 : w1.cell? ⟨E.rb, 8, none⟩ = some (.int .i64 v.x.n) := h1.blk.cell (i := 8) rfl
  have d9 : w1.cell? ⟨E.rb, 9, none⟩ = some (.string ⟨v.x.s.toArray⟩) := h1.blk.cell (i := 9) rfl
  have d10 : w1.cell? ⟨E.rb, 10, none⟩ = some (.slice v.x.A v.x.len v.x.cap) := h1.blk.cell (i := 10) rfl
  have drl := h1.blk.lt
  have HB : Hid (backF E.ts s f r = .ok ((({ s with wait := r, most := f.most } : RdS).go 1).done (listT f.l s.t) 0)) := Lib.hid (by unfold backF backG; dsimp only; rw [if_neg (by rw [HU.out]; decide), if_neg (by rw [HU.out]; decide), if_neg (by rw [HU.out]; decide), if_neg (by rw [HU.out]; decide), if_neg (by rw [HU.out]; decide), if_neg (by rw [HU.out]; decide), if_pos HU.out]; unfold RdS.expect; rw [show ({ s with wait := r, most := f.most } : RdS).at' = s.at' from rfl, hq]; rfl)
  have hne := frame_ne HPA.out.blk HPA.out.r.blk
  have hb1 := (HF1.out.block u.heap.size (Array.getElem?_eq_some_iff.1 HPA.out.blk).1 hne).trans HPA.out.blk
  rw [hfu] at hb1
  obtain ⟨m0, m1, m2, m3, m4, mf⟩ := five_at hb1
  obtain ⟨xs, hr, hx⟩ := HT.out.row
  have hr1 : Row w1 (E.rb + 1) 34 4 encTV (.slice fv.A fv.len fv.cap) xs := Row.keep hr fun k hk => HF1u.out.block k (hr.lt k hk).2 (by have := (hr.lt k hk).1; omega)
  have hSS := HI.out.keepS opL_one (wp_set (wp_rb HF1u.out)) (fl' := fl) fun b hb => .inl (by rw [opL_app]; exact List.mem_append_left _ hb)
  have hL : ∀ k ∈ opE E fl, k < w1.heap.size := fun k hk => Nat.lt_of_lt_of_le (HI.out.exl k (opE_sub k hk)) HF1u.out.size
  have hll := HI.out.ll f (by rw [HWT.out]; exact List.mem_cons_self)
  have hfl : fv.len = f.l.length := hr.len.trans hx.1
  have HL3 : Hid (∀ w, Below w1.heap.size w1 w → Calls Tryz.prog 54 #[.slice fv.A fv.len fv.cap, tvV v.x] w fun e u' => ∃ y', e = .returned (tvV y') ∧ TermS u' (SOf u' (opE E fl)) y' (listT f.l s.t) ∧ Below w.heap.size w u') := Lib.hid fun w hb =>
   list_any w (opE E fl) (fun k hk => Nat.lt_of_lt_of_le (hL k hk) hb.size) fv.A fv.len fv.cap xs f.l ((SlTerms.row hr1).later hb) ((hx.step hSS).step (SOf.later hb)) v.x s.t ((HI.out.x.step hSS).step (SOf.later hb)) (by omega)
  clear h1 hne hb1 hr hx hr1 hSS hL hll hfl
  unfold tvV at HL3
  go_wp2_with fail
  go_region_with (first | (refine (HL3.out _ (by repeat (first | exact Below.refl _ _ | refine Below.drew ?_ | refine Below.alloc ?_ (Nat.le_refl _) _))).mono ?_; rintro e w4 ⟨y', rfl, ht2, hb2⟩; have HT2 := Lib.hid ht2; have HB2 := Lib.hid (below_call' (by repeat (first | exact Below.refl _ _ | refine Below.drew ?_ | refine Below.alloc ?_ (Nat.le_refl _) _)) hb2 : Below w1.heap.size w1 w4); clear ht2 hb2) | (refine (done_any w4 E.rb _ E.ts _ E.B (H1.out.later HB2.out) y' (listT f.l s.t) 0).mono ?_; rintro e w5 ⟨rfl, r1, r2⟩; have R1 := Lib.hid r1; have R2 := Lib.hid r2; clear r1 r2))
  all_goals
   go_wp2_with fail
   refine bodyPost_end (v := .tuple #[]) (by simp [results, Tryz.results64, go_sem]) rfl ?_
   rw [HRR.out, HRES.out, HB.out]
   have hx5 : TermS w5 (SOf w5 (opE E fl)) y' (listT f.l s.t) := HT2.out.step fun b hb => by
    have hne : b ≠ E.rb := hb.1.ne ⟨_, (H1.out.later HB2.out).blk⟩ (by decide)
    have hk := R2.out.block b hb.1.lt hne
    exact ⟨⟨hb.1.keep hk, hb.2⟩, hk⟩
   have hF5 : Fr (· = E.rb) u w5 := (HF1u.out.step HB2.out).trans R2.out
   have hd := HI.out.popDone hvv HWT.out (wp_rb hF5) R1.out (WRow.fr (WRow.fr (WRow.fr HPA.out.row HF1.out) (.of_below _ HB2.out)) R2.out) hx5 HB.out rfl rfl rfl rfl
   exact ⟨hd.1, rfl, hd.2⟩
end
end Go.Proofs.YtiffopheamnngaaGreatDoor
