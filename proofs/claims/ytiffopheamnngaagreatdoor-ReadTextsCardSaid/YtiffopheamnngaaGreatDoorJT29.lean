import Derived.Test.YtiffopheamnngaaGreatDoorJT27
import Derived.Deep.DrawnRows
namespace Go.Proofs.YtiffopheamnngaaGreatDoor
open Go.RowKit Go.Maps
set_option maxRecDepth 100000
attribute [local go_sem ↓] Go.wp_at_zero Go.wp_at_succ
section
variable {E : RdE} {u u' : World} {v : RdV} {s : RdS} {fl : List FrV} {fv : FrV} {f : WaitF} {r : List WaitF}
set_option maxHeartbeats 16000000 in
theorem back_u6 (h : RdInv E u v s (fl ++ [fv])) (hvv : s.hv = true) (hw : s.wait = f :: r) (hu : f.use = 6) :
    Calls Tryz.prog 64 #[.pointer (some ⟨E.rb, 0, none⟩)] u fun e u' => RdOut E u u' (backF E.ts s f r) e := by
 obtain ⟨res, hres⟩ : ∃ res, res = backF E.ts s f r := ⟨_, rfl⟩
 have HRES := Lib.hid hres
 rw [← hres]
 clear hres
 obtain ⟨R, hR⟩ : ∃ R : Ending → World → Prop, R = fun e u' => RdOut E u u' res e := ⟨_, rfl⟩
 rw [← hR]
 have HRR := Lib.hid hR
 clear hR
 have HI := Lib.hid h
 have hwt := h.waits
 have htie := (h.popTies hw).1
 have HT := Lib.hid htie
 obtain ⟨g, cap, hsh, hg0, hg1, hcap, hcs⟩ := h.row.cells encFr_len (by simp)
 have e0 := (hcs fl.length fv (by simp) 0 _ rfl).1
 have e1 := (hcs fl.length fv (by simp) 1 _ rfl).1
 have e2 := (hcs fl.length fv (by simp) 2 _ rfl).1
 have e3 := (hcs fl.length fv (by simp) 3 _ rfl).1
 have e4 := (hcs fl.length fv (by simp) 4 _ rfl).1
 simp only [Nat.add_zero] at e0
 rw [List.length_append, List.length_cons, List.length_nil, Nat.zero_add] at hsh hcap hwt
 have c4 : u.cell? ⟨E.rb, 4, none⟩ = some (.slice (some ⟨g, 0, none⟩) (fl.length + 1) cap) := (h.r.blk.cell (i := 4) rfl).trans (congrArg some hsh)
 have c5 : u.cell? ⟨E.rb, 5, none⟩ = some (.int .i64 s.most) := h.r.blk.cell (i := 5) rfl
 have cf := h.r.blk.free
 have hrl := h.r.blk.lt
 have hN0 : (0 : Int) ≤ (fl.length : Int) := by omega
 have hN1 : (fl.length : Int) < (fl.length : Int) + 1 := by omega
 have hN2 : (fl.length : Int) ≤ (cap : Int) := by omega
 have hN3 : (fl.length : Int) + 1 ≤ (cap : Int) := by omega
 have hw1 : IntKind.i64.wrap ((fl.length : Int) + 1) = (fl.length : Int) + 1 := IntWalk.i64_in _ (by omega)
 have hw2 : IntKind.i64.wrap ((fl.length : Int) + 1 - 1) = (fl.length : Int) := by rw [show (fl.length : Int) + 1 - 1 = (fl.length : Int) by omega]; exact IntWalk.i64_in _ (by omega)
 obtain ⟨W, hW⟩ : ∃ W, W = (((u.setCell ⟨E.rb, 4, none⟩ (.slice (some ⟨g, 0, none⟩) fl.length cap)).setCell ⟨E.rb, 5, none⟩ (.int .i64 fv.most)).alloc (.cells #[.int .i64 fv.use, .int .i64 fv.most, .string ⟨fv.name.toArray⟩, .int .i64 fv.pri, .slice fv.A fv.len fv.cap] 120)).drew.drew := ⟨_, rfl⟩
 have HPA := Lib.hid (h.popped hw hsh hW)
 have HSH := Lib.hid hsh
 have hfu : fv.use = 6 := htie.use.trans hu
 have HU := Lib.hid hu
 clear h htie hcs hsh hu
 go_enter Tryz.func64, Tryz.ntmps64
 go_wp2_with fail
 go_region
 go_upto_region 1 with fail
 go_region
 rw [hfu] at hW
 clear e0 e1 e2 e3 e4 c4 hN0 hN1 hN2 hN3 hw1 hw2 hg0 hg1 hcap
 go_upto_region 13 with fail
 rw [← hW]
 clear hW c5 cf
 obtain ⟨m0, m1, m2, m3, m4, mf⟩ := five_at HPA.out.blk
 rw [hfu] at m0
 have hul : u.heap.size < W.heap.size := World.block_lt_of_cell? W _ m0
 have d7 : W.cell? ⟨E.rb, 7, none⟩ = some (.int .i64 v.x.k) := HPA.out.r.blk.cell (i := 7) rfl
 have d8 : W.cell? ⟨E.rb, 8, none⟩ = some (.int .i64 v.x.n) := HPA.out.r.blk.cell (i := 8) rfl
 have d9 : W.cell? ⟨E.rb, 9, none⟩ = some (.string ⟨v.x.s.toArray⟩) := HPA.out.r.blk.cell (i := 9) rfl
 have d10 : W.cell? ⟨E.rb, 10, none⟩ = some (.slice v.x.A v.x.len v.x.cap) := HPA.out.r.blk.cell (i := 10) rfl
 have drl := HPA.out.r.blk.lt
 have HB : Hid (backF E.ts s f r = .ok (({ s with wait := r, most := f.most } : RdS).done (compT fv.name (f.l ++ [s.t])) fv.pri)) := Lib.hid (by unfold backF backG; dsimp only; rw [if_neg (by rw [HU.out]; decide), if_neg (by rw [HU.out]; decide), if_neg (by rw [HU.out]; decide), if_pos HU.out]; rw [HT.out.name, HT.out.pri])
 obtain ⟨xs, g9, cap9, w9, hr9, hp9⟩ := HI.out.pushX (by assumption) HPA.out
 unfold oneB at hr9
 have HP9 := Lib.hid hp9
 obtain ⟨p0, p1, p2, p3, p4, pf⟩ := five_at hp9.blk
 clear hp9
 go_region_law (first | (refine step_run rfl (.tmp 78) (.tmp 83) 32 rfl (by rfl) (by rfl) hr9 ?_) | (go_simp; go_at_call 53; refine (done_any w9 E.rb _ E.ts _ E.B HP9.out.r ⟨4, 0, fv.name, some ⟨g9, 0, none⟩, fv.len + 1, cap9⟩ (compT fv.name (f.l ++ [s.t])) fv.pri).mono ?_; rintro e w2 ⟨rfl, r1, r2⟩; have R1 := Lib.hid r1; have R2 := Lib.hid r2; clear r1 r2))
 all_goals
  go_wp2_with fail
  refine bodyPost_end (v := .tuple #[]) (by simp [results, Tryz.results64, go_sem]) rfl ?_
  rw [HRR.out, HRES.out, HB.out]
  have hF2 : Fr (WP E v (opL [fv])) u w2 := HP9.out.fr.trans (R2.out.weak fun _ hk => .inl hk)
  have hr2 := Row.keep HP9.out.row (w' := w2) fun k hk => R2.out.block k (HP9.out.row.lt k hk).2 (by have := (HP9.out.row.lt k hk).1; omega)
  have hx2 := HI.out.popComp hF2 HP9.out.terms hr2 HP9.out.own fv.name (by rw [HT.out.name]; exact HT.out.short)
  have hd := HI.out.popDone hvv (by assumption) hF2 R1.out (WRow.fr HP9.out.wrow R2.out) hx2 HB.out rfl rfl rfl rfl
  exact ⟨hd.1, rfl, hd.2⟩
end
end Go.Proofs.YtiffopheamnngaaGreatDoor
