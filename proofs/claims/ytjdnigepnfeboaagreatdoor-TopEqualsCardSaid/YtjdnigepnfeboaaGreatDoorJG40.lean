import Derived.Test.YtjdnigepnfeboaaGreatDoorJG38
import Derived.Test.YtjdnigepnfeboaaGreatDoorJG39
namespace Go.Proofs.YtjdnigepnfeboaaGreatDoor
open Go.RowKit Go.Maps
set_option maxRecDepth 100000
variable [Base]
set_option linter.unusedSectionVars false
def tryT : List TypeId := [229, 224, 112] ++ unS
def TryO (rb db ob Bn hb c' : Nat) (A' : Option Addr) (nv : Value) (r : RC) (l : List (Int × List UInt8)) (spent : Int) (over : List UInt8) (cs : List Sc) (i : Nat) (u : World) (e : Ending) (u' : World) : Prop :=
 e = .returned (.int .i64 0) ∧ (∃ ch, RunSt u' rb { r with ch := ch, fr := .pointer none } l db ob spent over ∧ (if i = 0 then ChRow u' rb ch [hb] else ch = r.ch)) ∧ ChAt Bn u' hb A' c' nv ((i : Int) + 1) ∧ (∃ cv bv xs tp, StAt r.sb 40000 u' cv bv xs (boundC cs ((i + 1 : Nat) : Int)) [(1, tp)]) ∧ TF tryT u u'
theorem ChAt.step {B hb c : Nat} {u : World} {A : Option Addr} {nv : Value} {tried t2 : Int} (h : ChAt B u hb A c nv tried) : ChAt B (u.setCell ⟨hb, 9, none⟩ (.int .i64 t2)) hb A c nv t2 ∧ TF [229] u (u.setCell ⟨hb, 9, none⟩ (.int .i64 t2)) := by
 have hf : TF [229] u (u.setCell ⟨hb, 9, none⟩ (.int .i64 t2)) := (TF.refl _ u).set (p := ⟨hb, 9, none⟩) h.ty (by decide) h.low _
 refine ⟨⟨?_, h.args.keep fun _ hb => hf.block hb (by decide), hf.row h.nums (by decide), h.low⟩, hf⟩
 exact blk_put h.blk _
theorem encP_one (x : Nat) : ∀ u ∈ encP x, u.oneCell' = true := by
 intro u hu
 simp only [encP, List.mem_singleton] at hu
 subst hu
 rfl
set_option maxHeartbeats 8000000 in
theorem try_p {Bd dmb pb : Nat} {Ad : Option Addr} {cd : Nat} {cls : List ClV} {ver : Int} {ov : Value} {Bn hb c' : Nat} {A' : Option Addr} {nv : Value} {spent : Int} {over : List UInt8} {db ob : Nat} {l : List (Int × List UInt8)} (u : World) (rb : Nat) (r : RC) (cv bv : Value) (xs : List ScM) (cs : List Sc) (i : Nat) (hi : i = 0 ∨ i = 1)
    (hR : RunSt u rb r l db ob spent over) (hch : ∃ C c, r.ch = .slice C 0 c ∧ (i = 0 → C = none ∧ c = 0)) (hs : StAt r.sb 40000 u cv bv xs cs []) (hp : PCs cs) (hl : cs.length ≤ 100) (hD : DbP Bd db dmb pb Ad cd cls ver ov u) (hC : ChAt Bn u hb A' c' nv (i : Nat)) :
    Calls Tryz.prog 146 #[.pointer (some ⟨rb, 0, none⟩), .pointer (some ⟨hb, 0, none⟩)] u (TryO rb db ob Bn hb c' A' nv r l spent over cs i u) := by
 obtain ⟨P, hP⟩ : ∃ P : Ending → World → Prop, P = TryO rb db ob Bn hb c' A' nv r l spent over cs i u := ⟨_, rfl⟩
 rw [← hP]
 have HP := Lib.hid hP
 obtain ⟨C, cc, hch, hC0⟩ := hch
 obtain ⟨gn, cn, e0, hgn, -⟩ := row_ints hC.nums 0 (by decide)
 have c8 : u.cell? ⟨rb, 8, none⟩ = some (.slice C 0 cc) := (hR.run.get 8).trans (by show some r.ch = _; rw [hch])
 have h7 : u.cell? ⟨hb, 7, none⟩ = some (.slice none 0 0) := hC.get 7
 have h8 : u.cell? ⟨hb, 8, none⟩ = some (.slice (some ⟨gn, 0, none⟩) 2 cn) := (hC.get 8).trans (by rw [e0]; rfl)
 have HI := Lib.hid (And.intro hR (And.intro hs (And.intro hp (And.intro hl (And.intro hD hC)))))
 have HC := Lib.hid (And.intro hch hC0)
 clear hP hR hch hC0 hs hp hl hD hC e0 hgn
 obtain ⟨i0, z0, hi0, hz0, hz1, hz2, hz3⟩ := choice_info
 have HIN := Lib.hid (And.intro hi0 (And.intro hz0 (And.intro hz1 (And.intro hz2 hz3))))
 clear hi0 hz0 hz1 hz2 hz3
 go_enter Tryz.func146, Tryz.ntmps146
 go_upto_region 2 with fail
 go_region
 go_wp2_with fail
 go_loopw [4] (fun v wr => v = .int .i64 0 ∧ Hid (Below u.heap.size u wr)) (fun _ _ => 0)
 case atStart => exact ⟨rfl, Lib.hid (Below.refl _ _).drew⟩
 case round =>
  obtain ⟨rfl, HB⟩ := hrel
  clear c8 h7 h8
  obtain ⟨j, hj⟩ : ∃ j : Int, j = ((i : Nat) : Int) := ⟨_, rfl⟩
  have hR0 := HI.out.1.later HB.out
  have hC0 := HI.out.2.2.2.2.2.later HB.out
  have h9 : wr.cell? ⟨hb, 9, none⟩ = some (.int .i64 j) := (hC0.get 9).trans (by rw [hj]; rfl)
  have hcf : ∀ o, wr.frozen? ⟨hb, o, none⟩ = false := fun o => by simp [World.frozen?, hC0.blk]
  have hlh := hC0.lt
  obtain ⟨V, hV⟩ : ∃ V, V = wr.setCell ⟨hb, 9, none⟩ (.int .i64 (j + 1)) := ⟨_, rfl⟩
  have hst := hC0.step (t2 := j + 1)
  rw [← hV] at hst
  have HV := Lib.hid (And.intro (hR0.keep hst.2 (by decide)) (And.intro hst.1 ((TF.of_below _ HB.out).trans hst.2)))
  have HFT : Hid (Calls Tryz.prog 243 #[.pointer (some ⟨rb, 0, none⟩), .pointer (some ⟨hb, 0, none⟩), .int .i64 j] V fun e w1 => e = .returned (.tuple #[.int .i64 (-1), .bool true, .int .i64 0]) ∧ RunSt w1 rb r l db ob spent over ∧ ChAt Bn w1 hb A' c' nv (j + 1) ∧ (∃ cv bv xs tp, StAt r.sb 40000 w1 cv bv xs (boundC cs ((i + 1 : Nat) : Int)) [(1, tp)]) ∧ TF tryT u w1) := Lib.hid (by
   have hTV : TF tryT u V := HV.out.2.2.mono (by decide)
   rw [hj]
   refine (fit_any V rb r cv bv xs cs HV.out.1.run HV.out.1.mach (HI.out.2.1.tf HV.out.2.2 (by decide)) HI.out.2.2.1 HI.out.2.2.2.1 (HI.out.2.2.2.2.1.tf HV.out.2.2 (by decide)) HV.out.2.1 i (by omega)).mono ?_
   rintro e w1 ⟨rfl, k1, k2⟩
   exact ⟨rfl, HV.out.1.keep k2 (by decide), by rw [← hj]; exact HV.out.2.1.tf k2 (by decide) (by decide), k1, hTV.trans (k2.mono (by decide))⟩)
  have m0 : V.cell? ⟨rb, 0, none⟩ = some (.pointer (some ⟨r.mb, 0, none⟩)) := HV.out.1.run.get 0
  have m5 : V.cell? ⟨r.mb, 5, none⟩ = some (.int .i64 2000) := HV.out.1.mach.cells.1.2.2.2.2.2.1
  have v9 : V.cell? ⟨hb, 9, none⟩ = some (.int .i64 (j + 1)) := HV.out.2.1.get 9
  clear hR0 hC0 hst
  have HJ := Lib.hid hj
  have hj2 : j < 2 := by omega
  have hwj : IntKind.i64.wrap (j + 1) = j + 1 := IntWalk.i64_in _ (by omega)
  have hjc : j + 1 < 2 ∨ ¬ j + 1 < 2 := by omega
  have HHI := Lib.hid hi
  clear hj hi
  go_upto_region 6 with fail
  rw [← hV]
  clear hV h9 hcf hlh
  rcases hjc with hj1 | hj1
  all_goals
   go_wp2_with fail
   refine HFT.out.mono ?_
   rintro e w1 ⟨rfl, k1, k2, k3, k4⟩
   have H1 := Lib.hid (And.intro k1 (And.intro k2 (And.intro k3 k4)))
   have f9 : w1.cell? ⟨hb, 9, none⟩ = some (.int .i64 (j + 1)) := k2.get 9
   clear k1 k2 k3 k4 m0 m5 v9
   go_upto_region 13 with fail
  focus
   have hi0 : i = 0 := by have := HJ.out; omega
   obtain ⟨rfl, rfl⟩ := HC.out.2 hi0
   have g8 : w1.cell? ⟨rb, 8, none⟩ = some (.slice none 0 0) := (H1.out.1.run.get 8).trans (by show some r.ch = _; rw [HC.out.1])
   have HI0 := Lib.hid hi0
   obtain ⟨hi0', hz0, hz1, hz2, hz3⟩ := HIN.out
   clear hi0
   go_wp2_with (at_builtin; refine wpList_row rfl _ _ 106 rfl _ (rb + 1) 224 i0 z0 1 8 encP Tryz.underlying106 hi0' hz0 hz1 hz2 hz3 (by decide) (fun _ => rfl) encP_one _ [] hb rfl (Row.nil ..) _ 1 rfl (fun j w hw => by rw [cell_made _ _ _ j w (by rw [← Array.getElem?_toList]; exact hw)]) (by decide) (by decide) (by have := H1.out.1.run.lt; simp; omega) ?_)
   intro v' w2 hr hg
   have hT2 : TF [] w1 w2 := ((TF.refl _ w1).alloc _).grown hg fun g e => by cases e
   obtain ⟨A3, c3, rfl⟩ := hr.shape
   rw [show [hb].length = 1 from rfl] at hr ⊢
   have hR2 := H1.out.1.keep hT2 (fun _ _ h => by cases h)
   obtain ⟨ch, hch⟩ : ∃ ch, ch = Value.slice A3 1 c3 := ⟨_, rfl⟩
   rw [← hch] at hr
   have h9 := hR2.put (r' := { r with ch := ch }) 8 ch rfl rfl rfl
   obtain ⟨X, hX⟩ : ∃ X, X = w2.setCell ⟨rb, 8, none⟩ ch := ⟨_, rfl⟩
   rw [← hX] at h9
   have hT9 : TF [112] w1 X := (hT2.mono (by decide)).trans h9.2
   have HX : Hid (RunSt X rb { r with ch := ch } l db ob spent over ∧ ChAt Bn X hb A' c' nv (j + 1) ∧ (∃ cv bv xs tp, StAt r.sb 40000 X cv bv xs (boundC cs ((i + 1 : Nat) : Int)) [(1, tp)]) ∧ TF tryT u X ∧ (if i = 0 then ChRow X rb ch [hb] else ch = r.ch)) := Lib.hid (by
    obtain ⟨cv1, bv1, xs1, tp1, k3⟩ := H1.out.2.2.1
    rw [if_pos HI0.out]
    exact ⟨h9.1, H1.out.2.1.tf hT9 (by decide) (by decide), ⟨cv1, bv1, xs1, tp1, k3.tf hT9 (by decide)⟩, H1.out.2.2.2.trans (hT9.mono (by decide)), h9.2.row hr (by decide)⟩)
   have c8 : w2.cell? ⟨rb, 8, none⟩ = some (.slice none 0 0) := (hR2.run.get 8).trans (by show some r.ch = _; rw [HC.out.1])
   have cf := hR2.run.fz
   have hl2 := hR2.run.lt
   clear hT2 hr hg hR2 h9 hT9 g8 f9 H1
   go_upto_region 15 with fail
   rw [← hch, ← hX]
   clear hX hch c8 cf hl2
  rotate_left
  focus
   have hi1 : i ≠ 0 := by have := HJ.out; omega
   obtain ⟨X, rfl⟩ : ∃ X, X = w1 := ⟨_, rfl⟩
   obtain ⟨ch, hch⟩ : ∃ ch, ch = r.ch := ⟨_, rfl⟩
   have HX : Hid (RunSt X rb { r with ch := ch } l db ob spent over ∧ ChAt Bn X hb A' c' nv (j + 1) ∧ (∃ cv bv xs tp, StAt r.sb 40000 X cv bv xs (boundC cs ((i + 1 : Nat) : Int)) [(1, tp)]) ∧ TF tryT u X ∧ (if i = 0 then ChRow X rb ch [hb] else ch = r.ch)) := Lib.hid (by
    rw [if_neg hi1, hch]
    exact ⟨H1.out.1, H1.out.2.1, H1.out.2.2.1, H1.out.2.2.2, rfl⟩)
   clear hi1 hch H1
   go_upto_region 15 with fail
   clear f9
  all_goals
   have f3 : X.cell? ⟨hb, 3, none⟩ = some (.pointer none) := HX.out.2.1.get 3
   have x7 : X.cell? ⟨rb, 7, none⟩ = some r.fr := HX.out.1.run.get 7
   have xf := HX.out.1.run.fz
   have hlx := HX.out.1.run.lt
   have HQ : Hid (P (.returned (.int .i64 0)) (X.setCell ⟨rb, 7, none⟩ (.pointer none))) := Lib.hid (by
    obtain ⟨k1, k2, ⟨cv1, bv1, xs1, tp1, k3⟩, k4, k5⟩ := HX.out
    have h9 := k1.put (r' := { r with ch := ch, fr := .pointer none }) 7 (.pointer none) rfl rfl rfl
    rw [HP.out]
    refine ⟨rfl, ⟨ch, h9.1, ?_⟩, by rw [← HJ.out]; exact k2.tf h9.2 (by decide) (by decide), ⟨cv1, bv1, xs1, tp1, k3.tf h9.2 (by decide)⟩, k4.trans (h9.2.mono (by decide))⟩
    by_cases h0 : i = 0
    ·rw [if_pos h0] at k5 ⊢
     exact h9.2.row k5 (by decide)
    ·rw [if_neg h0] at k5 ⊢
     exact k5)
   clear HX
   go_wp2_with fail
   exact HQ.out
end Go.Proofs.YtjdnigepnfeboaaGreatDoor
