import Derived.Test.YtiffopheamnngaaGreatDoorJT27
import Derived.Deep.DrawnRows
namespace Go.Proofs.YtiffopheamnngaaGreatDoor
open Go.RowKit Go.Maps
set_option maxRecDepth 100000
attribute [local go_sem ↓] Go.wp_at_zero Go.wp_at_succ
section
variable {E : RdE} {u u' : World} {v : RdV} {s : RdS} {fl : List FrV} {fv : FrV} {f : WaitF} {r : List WaitF}
set_option maxHeartbeats 16000000 in
theorem back_u0 (h : RdInv E u v s (fl ++ [fv])) (hvv : s.hv = true) (hw : s.wait = f :: r) (hu : f.use = 0) :
    Calls Tryz.prog 64 #[.pointer (some ⟨E.rb, 0, none⟩)] u fun e u' => RdOut E u u' (backF E.ts s f r) e := by
 obtain ⟨res, hres⟩ : ∃ res, res = backF E.ts s f r := ⟨_, rfl⟩
 have HRES := Lib.hid hres
 rw [← hres]
 clear hres
 obtain ⟨R, hR⟩ : ∃ R : Ending → World → Prop, R = fun e u' => RdOut E u u' res e := ⟨_, rfl⟩
 rw [← hR]
 have HRR := Lib.hid hR
 clear hR
 have HI := Lib.hid h
 have hwt := h.waits
 have htie := (h.popTies hw).1
 have HT := Lib.hid htie
 obtain ⟨g, cap, hsh, hg0, hg1, hcap, hcs⟩ := h.row.cells encFr_len (by simp)
 have e0 := (hcs fl.length fv (by simp) 0 _ rfl).1
 have e1 := (hcs fl.length fv (by simp) 1 _ rfl).1
 have e2 := (hcs fl.length fv (by simp) 2 _ rfl).1
 have e3 := (hcs fl.length fv (by simp) 3 _ rfl).1
 have e4 := (hcs fl.length fv (by simp) 4 _ rfl).1
 simp only [Nat.add_zero] at e0
 rw [List.length_append, List.length_cons, List.length_nil, Nat.zero_add] at hsh hcap hwt
 have c4 : u.cell? ⟨E.rb, 4, none⟩ = some (.slice (some ⟨g, 0, none⟩) (fl.length + 1) cap) := (h.r.blk.cell (i := 4) rfl).trans (congrArg some hsh)
 have c5 : u.cell? ⟨E.rb, 5, none⟩ = some (.int .i64 s.most) := h.r.blk.cell (i := 5) rfl
 have cf := h.r.blk.free
 have hrl := h.r.blk.lt
 have hN0 : (0 : Int) ≤ (fl.length : Int) := by omega
 have hN1 : (fl.length : Int) < (fl.length : Int) + 1 := by omega
 have hN2 : (fl.length : Int) ≤ (cap : Int) := by omega
 have hN3 : (fl.length : Int) + 1 ≤ (cap : Int) := by omega
 have hw1 : IntKind.i64.wrap ((fl.length : Int) + 1) = (fl.length : Int) + 1 := IntWalk.i64_in _ (by omega)
 have hw2 : IntKind.i64.wrap ((fl.length : Int) + 1 - 1) = (fl.length : Int) := by rw [show (fl.length : Int) + 1 - 1 = (fl.length : Int) by omega]; exact IntWalk.i64_in _ (by omega)
 obtain ⟨W, hW⟩ : ∃ W, W = (((u.setCell ⟨E.rb, 4, none⟩ (.slice (some ⟨g, 0, none⟩) fl.length cap)).setCell ⟨E.rb, 5, none⟩ (.int .i64 fv.most)).alloc (.cells #[.int .i64 fv.use, .int .i64 fv.most, .string ⟨fv.name.toArray⟩, .int .i64 fv.pri, .slice fv.A fv.len fv.cap] 120)).drew.drew := ⟨_, rfl⟩
 have HPA := Lib.hid (h.popped hw hsh hW)
 have HSH := Lib.hid hsh
 have hfu : fv.use = 0 := htie.use.trans hu
 have HU := Lib.hid hu
 clear h htie hcs hsh hu
 go_enter Tryz.func64, Tryz.ntmps64
 go_wp2_with fail
 go_region
 go_upto_region 1 with fail
 go_region
 rw [hfu] at hW
 clear e0 e1 e2 e3 e4 c4 hN0 hN1 hN2 hN3 hw1 hw2 hg0 hg1 hcap
 go_wp2_with fail
 rw [← hW]
 clear hW c5 cf
 refine (expect_any W E.rb _ E.ts _ E.B HPA.out.r 41).mono ?_
 rintro e w1 ⟨hF1, h1⟩
 have hF1u := HPA.out.fr.trans hF1
 have HF1 := Lib.hid hF1
 have HF1u := Lib.hid hF1u
 rw [show ({ s with wait := r, most := f.most } : RdS).at' = s.at' from rfl] at h1
 clear hF1 hF1u
 cases hq : isP E.ts s.at' 41 with
 | false =>
  rw [hq, if_neg (by simp)] at h1
  obtain ⟨rfl, h1⟩ := h1
  have hb : backF E.ts s f r = .error s.at' := (Lib.hid (by unfold backF backG; dsimp only; rw [if_pos HU.out]; unfold RdS.expect; rw [show ({ s with wait := r, most := f.most } : RdS).at' = s.at' from rfl, hq]; rfl)).out
  refine ⟨rfl, ?_⟩
  rw [HRR.out, HRES.out, hb]
  exact ⟨HI.out.below opL_one (wp_set (wp_rb HF1u.out)), rfl, ({ s with wait := r, most := f.most } : RdS), _, rfl, h1⟩
 | true =>
  rw [hq, if_pos rfl] at h1
  obtain ⟨rfl, h1⟩ := h1
  have H1 := Lib.hid h1
  have d7 : w1.cell? ⟨E.rb, 7, none⟩ = some (.int .i64 v.x.k) := h1.blk.cell (i := 7) rfl
  have d8 : w1.cell? ⟨E.rb, 8, none⟩ = some (.int .i64 v.x.n) := h1.blk.cell (i := 8) rfl
  have d9 : w1.cell? ⟨E.rb, 9, none⟩ = some (.string ⟨v.x.s.toArray⟩) := h1.blk.cell (i := 9) rfl
  have d10 : w1.cell? ⟨E.rb, 10, none⟩ = some (.slice v.x.A v.x.len v.x.cap) := h1.blk.cell (i := 10) rfl
  have drl := h1.blk.lt
  have HB : Hid (backF E.ts s f r = .ok ((({ s with wait := r, most := f.most } : RdS).go 1).done s.t 0)) := Lib.hid (by unfold backF backG; dsimp only; rw [if_pos HU.out]; unfold RdS.expect; rw [show ({ s with wait := r, most := f.most } : RdS).at' = s.at' from rfl, hq]; rfl)
  clear h1
  go_wp2_with fail
  refine (done_any w1 E.rb _ E.ts _ E.B H1.out v.x s.t 0).mono ?_
  rintro e w2 ⟨rfl, r1, r2⟩
  have R1 := Lib.hid r1
  have R2 := Lib.hid r2
  clear r1 r2
  go_wp2_with fail
  refine bodyPost_end (v := .tuple #[]) (by simp [results, Tryz.results64, go_sem]) rfl ?_
  rw [HRR.out, HRES.out, HB.out]
  have hF2 : Fr (· = E.rb) u w2 := HF1u.out.trans R2.out
  have hd := HI.out.popDone hvv (by assumption) (wp_rb hF2) R1.out (WRow.fr (WRow.fr HPA.out.row HF1.out) R2.out) (HI.out.popX (wp_rb hF2)) HB.out rfl rfl rfl rfl
  exact ⟨hd.1, rfl, hd.2⟩
set_option maxHeartbeats 16000000 in
theorem back_u1 (h : RdInv E u v s (fl ++ [fv])) (hvv : s.hv = true) (hw : s.wait = f :: r) (hu : f.use = 1) :
    Calls Tryz.prog 64 #[.pointer (some ⟨E.rb, 0, none⟩)] u fun e u' => RdOut E u u' (backF E.ts s f r) e := by
 obtain ⟨res, hres⟩ : ∃ res, res = backF E.ts s f r := ⟨_, rfl⟩
 have HRES := Lib.hid hres
 rw [← hres]
 clear hres
 obtain ⟨R, hR⟩ : ∃ R : Ending → World → Prop, R = fun e u' => RdOut E u u' res e := ⟨_, rfl⟩
 rw [← hR]
 have HRR := Lib.hid hR
 clear hR
 have HI := Lib.hid h
 have hwt := h.waits
 have htie := (h.popTies hw).1
 have HT := Lib.hid htie
 obtain ⟨g, cap, hsh, hg0, hg1, hcap, hcs⟩ := h.row.cells encFr_len (by simp)
 have e0 := (hcs fl.length fv (by simp) 0 _ rfl).1
 have e1 := (hcs fl.length fv (by simp) 1 _ rfl).1
 have e2 := (hcs fl.length fv (by simp) 2 _ rfl).1
 have e3 := (hcs fl.length fv (by simp) 3 _ rfl).1
 have e4 := (hcs fl.length fv (by simp) 4 _ rfl).1
 simp only [Nat.add_zero] at e0
 rw [List.length_append, List.length_cons, List.length_nil, Nat.zero_add] at hsh hcap hwt
 have c4 : u.cell? ⟨E.rb, 4, none⟩ = some (.slice (some ⟨g, 0, none⟩) (fl.length + 1) cap) := (h.r.blk.cell (i := 4) rfl).trans (congrArg some hsh)
 have c5 : u.cell? ⟨E.rb, 5, none⟩ = some (.int .i64 s.most) := h.r.blk.cell (i := 5) rfl
 have cf := h.r.blk.free
 have hrl := h.r.blk.lt
 have hN0 : (0 : Int) ≤ (fl.length : Int) := by omega
 have hN1 : (fl.length : Int) < (fl.length : Int) + 1 := by omega
 have hN2 : (fl.length : Int) ≤ (cap : Int) := by omega
 have hN3 : (fl.length : Int) + 1 ≤ (cap : Int) := by omega
 have hw1 : IntKind.i64.wrap ((fl.length : Int) + 1) = (fl.length : Int) + 1 := IntWalk.i64_in _ (by omega)
 have hw2 : IntKind.i64.wrap ((fl.length : Int) + 1 - 1) = (fl.length : Int) := by rw [show (fl.length : Int) + 1 - 1 = (fl.length : Int) by omega]; exact IntWalk.i64_in _ (by omega)
 obtain ⟨W, hW⟩ : ∃ W, W = (((u.setCell ⟨E.rb, 4, none⟩ (.slice (some ⟨g, 0, none⟩) fl.length cap)).setCell ⟨E.rb, 5, none⟩ (.int .i64 fv.most)).alloc (.cells #[.int .i64 fv.use, .int .i64 fv.most, .string ⟨fv.name.toArray⟩, .int .i64 fv.pri, .slice fv.A fv.len fv.cap] 120)).drew.drew := ⟨_, rfl⟩
 have HPA := Lib.hid (h.popped hw hsh hW)
 have HSH := Lib.hid hsh
 have hfu : fv.use = 1 := htie.use.trans hu
 have HU := Lib.hid hu
 clear h htie hcs hsh hu
 go_enter Tryz.func64, Tryz.ntmps64
 go_wp2_with fail
 go_region
 go_upto_region 1 with fail
 go_region
 rw [hfu] at hW
 clear e0 e1 e2 e3 e4 c4 hN0 hN1 hN2 hN3 hw1 hw2 hg0 hg1 hcap
 go_wp2_with fail
 rw [← hW]
 clear hW c5 cf
 refine (expect_any W E.rb _ E.ts _ E.B HPA.out.r 125).mono ?_
 rintro e w1 ⟨hF1, h1⟩
 have hF1u := HPA.out.fr.trans hF1
 have HF1 := Lib.hid hF1
 have HF1u := Lib.hid hF1u
 rw [show ({ s with wait := r, most := f.most } : RdS).at' = s.at' from rfl] at h1
 clear hF1 hF1u
 cases hq : isP E.ts s.at' 125 with
 | false =>
  rw [hq, if_neg (by simp)] at h1
  obtain ⟨rfl, h1⟩ := h1
  have hb : backF E.ts s f r = .error s.at' := (Lib.hid (by unfold backF backG; dsimp only; rw [if_neg (by rw [HU.out]; decide), if_pos HU.out]; unfold RdS.expect; rw [show ({ s with wait := r, most := f.most } : RdS).at' = s.at' from rfl, hq]; rfl)).out
  refine ⟨rfl, ?_⟩
  rw [HRR.out, HRES.out, hb]
  exact ⟨HI.out.below opL_one (wp_set (wp_rb HF1u.out)), rfl, ({ s with wait := r, most := f.most } : RdS), _, rfl, h1⟩
 | true =>
  rw [hq, if_pos rfl] at h1
  obtain ⟨rfl, h1⟩ := h1
  have H1 := Lib.hid h1
  have d7 : w1.cell? ⟨E.rb, 7, none⟩ = some (.int .i64 v.x.k) := h1.blk.cell (i := 7) rfl
  have d8 : w1.cell? ⟨E.rb, 8, none⟩ = some (.int .i64 v.x.n) := h1.blk.cell (i := 8) rfl
  have d9 : w1.cell? ⟨E.rb, 9, none⟩ = some (.string ⟨v.x.s.toArray⟩) := h1.blk.cell (i := 9) rfl
  have d10 : w1.cell? ⟨E.rb, 10, none⟩ = some (.slice v.x.A v.x.len v.x.cap) := h1.blk.cell (i := 10) rfl
  have drl := h1.blk.lt
  have HB : Hid (backF E.ts s f r = .ok ((({ s with wait := r, most := f.most } : RdS).go 1).done (compT [123, 125] [s.t]) 0)) := Lib.hid (by unfold backF backG; dsimp only; rw [if_neg (by rw [HU.out]; decide), if_pos HU.out]; unfold RdS.expect; rw [show ({ s with wait := r, most := f.most } : RdS).at' = s.at' from rfl, hq]; rfl)
  clear h1
  go_wp2_with fail
  refine (done_any _ E.rb _ E.ts _ E.B (H1.out.later ((Below.refl _ _).alloc (Nat.le_refl _) _)) ⟨4, 0, [123, 125], some ⟨w1.heap.size, 0, none⟩, 1, 1⟩ (compT [123, 125] [s.t]) 0).mono ?_
  rintro e w2 ⟨rfl, r1, r2⟩
  have R1 := Lib.hid r1
  have R2 := Lib.hid r2
  clear r1 r2
  go_wp2_with fail
  refine bodyPost_end (v := .tuple #[]) (by simp [results, Tryz.results64, go_sem]) rfl ?_
  rw [HRR.out, HRES.out, HB.out]
  have hs := HI.out.popOne ⟨_, H1.out.blk⟩ (wp_rb HF1u.out) R2.out [123, 125] (by unfold maxLen; simp)
  have hd := HI.out.popDone hvv (by assumption) hs.2 R1.out (WRow.fr (WRow.fr HPA.out.row HF1.out) ((Fr.of_below _ ((Below.refl _ _).alloc (Nat.le_refl _) _)).trans R2.out)) hs.1 HB.out rfl rfl rfl rfl
  exact ⟨hd.1, rfl, hd.2⟩
set_option maxHeartbeats 16000000 in
theorem back_u5 (h : RdInv E u v s (fl ++ [fv])) (hvv : s.hv = true) (hw : s.wait = f :: r) (hu : f.use = 5) :
    Calls Tryz.prog 64 #[.pointer (some ⟨E.rb, 0, none⟩)] u fun e u' => RdOut E u u' (backF E.ts s f r) e := by
 obtain ⟨res, hres⟩ : ∃ res, res = backF E.ts s f r := ⟨_, rfl⟩
 have HRES := Lib.hid hres
 rw [← hres]
 clear hres
 obtain ⟨R, hR⟩ : ∃ R : Ending → World → Prop, R = fun e u' => RdOut E u u' res e := ⟨_, rfl⟩
 rw [← hR]
 have HRR := Lib.hid hR
 clear hR
 have HI := Lib.hid h
 have hwt := h.waits
 have htie := (h.popTies hw).1
 have HT := Lib.hid htie
 obtain ⟨g, cap, hsh, hg0, hg1, hcap, hcs⟩ := h.row.cells encFr_len (by simp)
 have e0 := (hcs fl.length fv (by simp) 0 _ rfl).1
 have e1 := (hcs fl.length fv (by simp) 1 _ rfl).1
 have e2 := (hcs fl.length fv (by simp) 2 _ rfl).1
 have e3 := (hcs fl.length fv (by simp) 3 _ rfl).1
 have e4 := (hcs fl.length fv (by simp) 4 _ rfl).1
 simp only [Nat.add_zero] at e0
 rw [List.length_append, List.length_cons, List.length_nil, Nat.zero_add] at hsh hcap hwt
 have c4 : u.cell? ⟨E.rb, 4, none⟩ = some (.slice (some ⟨g, 0, none⟩) (fl.length + 1) cap) := (h.r.blk.cell (i := 4) rfl).trans (congrArg some hsh)
 have c5 : u.cell? ⟨E.rb, 5, none⟩ = some (.int .i64 s.most) := h.r.blk.cell (i := 5) rfl
 have cf := h.r.blk.free
 have hrl := h.r.blk.lt
 have hN0 : (0 : Int) ≤ (fl.length : Int) := by omega
 have hN1 : (fl.length : Int) < (fl.length : Int) + 1 := by omega
 have hN2 : (fl.length : Int) ≤ (cap : Int) := by omega
 have hN3 : (fl.length : Int) + 1 ≤ (cap : Int) := by omega
 have hw1 : IntKind.i64.wrap ((fl.length : Int) + 1) = (fl.length : Int) + 1 := IntWalk.i64_in _ (by omega)
 have hw2 : IntKind.i64.wrap ((fl.length : Int) + 1 - 1) = (fl.length : Int) := by rw [show (fl.length : Int) + 1 - 1 = (fl.length : Int) by omega]; exact IntWalk.i64_in _ (by omega)
 obtain ⟨W, hW⟩ : ∃ W, W = (((u.setCell ⟨E.rb, 4, none⟩ (.slice (some ⟨g, 0, none⟩) fl.length cap)).setCell ⟨E.rb, 5, none⟩ (.int .i64 fv.most)).alloc (.cells #[.int .i64 fv.use, .int .i64 fv.most, .string ⟨fv.name.toArray⟩, .int .i64 fv.pri, .slice fv.A fv.len fv.cap] 120)).drew.drew := ⟨_, rfl⟩
 have HPA := Lib.hid (h.popped hw hsh hW)
 have HSH := Lib.hid hsh
 have hfu : fv.use = 5 := htie.use.trans hu
 have HU := Lib.hid hu
 clear h htie hcs hsh hu
 go_enter Tryz.func64, Tryz.ntmps64
 go_wp2_with fail
 go_region
 go_upto_region 1 with fail
 go_region
 rw [hfu] at hW
 clear e0 e1 e2 e3 e4 c4 hN0 hN1 hN2 hN3 hw1 hw2 hg0 hg1 hcap
 go_upto_region 11 with fail
 rw [← hW]
 clear hW c5 cf
 obtain ⟨m0, m1, m2, m3, m4, mf⟩ := five_at HPA.out.blk
 rw [hfu] at m0
 have hul : u.heap.size < W.heap.size := World.block_lt_of_cell? W _ m0
 have d7 : W.cell? ⟨E.rb, 7, none⟩ = some (.int .i64 v.x.k) := HPA.out.r.blk.cell (i := 7) rfl
 have d8 : W.cell? ⟨E.rb, 8, none⟩ = some (.int .i64 v.x.n) := HPA.out.r.blk.cell (i := 8) rfl
 have d9 : W.cell? ⟨E.rb, 9, none⟩ = some (.string ⟨v.x.s.toArray⟩) := HPA.out.r.blk.cell (i := 9) rfl
 have d10 : W.cell? ⟨E.rb, 10, none⟩ = some (.slice v.x.A v.x.len v.x.cap) := HPA.out.r.blk.cell (i := 10) rfl
 have drl := HPA.out.r.blk.lt
 have HB : Hid (backF E.ts s f r = .ok (({ s with wait := r, most := f.most } : RdS).done (compT fv.name [s.t]) fv.pri)) := Lib.hid (by unfold backF backG; dsimp only; rw [if_neg (by rw [HU.out]; decide), if_neg (by rw [HU.out]; decide), if_pos HU.out]; rw [HT.out.name, HT.out.pri])
 go_region_with (refine (done_any _ E.rb _ E.ts _ E.B (HPA.out.r.later (by repeat (first | exact Below.refl _ _ | refine Below.drew ?_ | refine Below.alloc ?_ (Nat.le_refl _) _))) ⟨4, 0, fv.name, some ⟨W.heap.size, 0, none⟩, 1, 1⟩ (compT fv.name [s.t]) fv.pri).mono ?_; rintro e w2 ⟨rfl, r1, r2⟩; have R1 := Lib.hid r1; have R2 := Lib.hid r2; clear r1 r2)
 all_goals
  go_wp2_with fail
  refine bodyPost_end (v := .tuple #[]) (by simp [results, Tryz.results64, go_sem]) rfl ?_
  rw [HRR.out, HRES.out, HB.out]
  have hs := HI.out.popOne ⟨_, HPA.out.r.blk⟩ (wp_rb HPA.out.fr) ⟨R2.out.os, R2.out.tape, R2.out.output, R2.out.size, R2.out.block⟩ fv.name (by rw [HT.out.name]; exact HT.out.short)
  have hd := HI.out.popDone hvv (by assumption) hs.2 R1.out (WRow.fr HPA.out.row (((Fr.of_below _ ((Below.refl _ _).alloc (Nat.le_refl _) _)).drew).trans R2.out)) hs.1 HB.out rfl rfl rfl rfl
  exact ⟨hd.1, rfl, hd.2⟩
end
end Go.Proofs.YtiffopheamnngaaGreatDoor
