import Derived.Test.YtjdnigepnfeboaaGreatDoorJG40
namespace Go.Proofs.YtjdnigepnfeboaaGreatDoor
open Go.RowKit Go.Maps
set_option maxRecDepth 100000
variable [Base]
set_option linter.unusedSectionVars false
set_option maxHeartbeats 4000000 in
theorem back_p {Bd dmb pb : Nat} {Ad : Option Addr} {cd : Nat} {cls : List ClV} {ver : Int} {ov : Value} {Bn hb c' : Nat} {A' : Option Addr} {nv : Value} {spent tp z : Int} {over : List UInt8} {db ob : Nat} {l : List (Int × List UInt8)} (u : World) (rb : Nat) (r : RC) (cv bv : Value) (xs : List ScM) (cs : List Sc)
    (hR : RunSt u rb r l db ob spent over) (hch : ChRow u rb r.ch [hb]) (hs : StAt r.sb 40000 u cv bv xs (boundC cs z) [(1, tp)]) (hp : PCs cs) (hl : cs.length ≤ 10) (hD : DbP Bd db dmb pb Ad cd cls ver ov u) (hC : ChAt Bn u hb A' c' nv 1) :
    Calls Tryz.prog 97 #[.pointer (some ⟨rb, 0, none⟩)] u fun e u' => e = .returned (.int .i64 0) ∧ (∃ C c, RunSt u' rb { r with ch := .slice C 0 c, fr := .pointer none } l db ob spent over) ∧ (∃ cv bv xs tp, StAt r.sb 40000 u' cv bv xs (boundC (moreC cs z) 2) [(1, tp)]) ∧ TF tryT u u' := by
 obtain ⟨P, hP⟩ : ∃ P : Ending → World → Prop, P = fun e u' => e = .returned (.int .i64 0) ∧ (∃ C c, RunSt u' rb { r with ch := .slice C 0 c, fr := .pointer none } l db ob spent over) ∧ (∃ cv bv xs tp, StAt r.sb 40000 u' cv bv xs (boundC (moreC cs z) 2) [(1, tp)]) ∧ TF tryT u u' := ⟨_, rfl⟩
 rw [← hP]
 have HP := Lib.hid hP
 have hne : [hb] ≠ [] := by simp
 obtain ⟨g, cap, e1, -, -, -, -⟩ := hch.cells (enc := encP) (fun _ => rfl) hne
 have c8 : u.cell? ⟨rb, 8, none⟩ = some (.slice (some ⟨g, 0, none⟩) 1 cap) := (hR.run.get 8).trans (by show some r.ch = _; rw [e1]; rfl)
 have HI := Lib.hid (And.intro hR (And.intro hch (And.intro hs (And.intro hp (And.intro hl (And.intro hD hC))))))
 clear hP hR hch hs hp hl hD hC e1
 go_enter Tryz.func97, Tryz.ntmps97
 go_wp2_with fail
 go_loopw [2] (fun i wr => i = .int .i64 0 ∧ u = wr) (fun _ _ => 0)
 case atStart => exact ⟨rfl, rfl⟩
 case round =>
  obtain ⟨rfl, rfl⟩ := hrel
  go_wp2_with fail
  refine (pop_any HI.out.1 HI.out.2.1).mono ?_
  rintro e w1 ⟨rfl, ⟨C, c, k1⟩, k2⟩
  have H1 := Lib.hid (And.intro k1 (And.intro k2 (And.intro (HI.out.2.2.1.tf k2 (by decide)) (HI.out.2.2.2.2.2.2.tf k2 (by decide) (by decide)))))
  clear k1 k2 c8
  go_wp2_with fail
  refine (undo_p H1.out.1.run H1.out.2.2.1 H1.out.2.2.2 HI.out.2.2.2.1 HI.out.2.2.2.2.1).mono ?_
  rintro e w2 ⟨rfl, ⟨cv2, bv2, xs2, k1⟩, k2⟩
  have hR2 := H1.out.1.keep k2 (by decide)
  have hC2 := H1.out.2.2.2.tf k2 (by decide) (by decide)
  have hT2 : TF tryT u w2 := (H1.out.2.1.mono (by decide)).trans (k2.mono (by decide))
  have f3 : w2.cell? ⟨hb, 3, none⟩ = some (.pointer none) := hC2.get 3
  have x7 : w2.cell? ⟨rb, 7, none⟩ = some r.fr := hR2.run.get 7
  have xf := hR2.run.fz
  have hl2 := hR2.run.lt
  obtain ⟨X, hX⟩ : ∃ X, X = w2.setCell ⟨rb, 7, none⟩ (.pointer none) := ⟨_, rfl⟩
  have h9 := hR2.put (r' := { r with ch := .slice C 0 c, fr := .pointer none }) 7 (.pointer none) rfl rfl rfl
  rw [← hX] at h9
  have hTX : TF tryT u X := hT2.trans (h9.2.mono (by decide))
  have hCX := hC2.tf h9.2 (by decide) (by decide)
  have f0 : X.cell? ⟨hb, 0, none⟩ = some (.int .i64 2) := hCX.get 0
  have HTR := Lib.hid (try_p X rb { r with ch := .slice C 0 c, fr := .pointer none } cv2 bv2 xs2 (moreC cs z) 1 (.inr rfl) h9.1 ⟨C, c, rfl, fun h => by cases h⟩ (k1.tf h9.2 (by decide)) HI.out.2.2.2.1.more (by rw [more_len]; have := HI.out.2.2.2.2.1; omega) (HI.out.2.2.2.2.2.1.tf hTX (by decide)) hCX)
  have HTX := Lib.hid hTX
  clear k1 k2 hR2 hC2 hT2 h9 hTX hCX H1 HI
  go_upto_region 5 with fail
  rw [← hX]
  clear hX f3 x7 xf hl2
  go_wp2_with fail
  refine HTR.out.mono ?_
  rintro e w3 ⟨rfl, ⟨ch, k1, k2⟩, -, ⟨cv3, bv3, xs3, tp3, k3⟩, k4⟩
  rw [if_neg (by decide)] at k2
  subst k2
  have HQ : Hid (P (.returned (.int .i64 0)) w3) := Lib.hid (by
   rw [HP.out]
   exact ⟨rfl, ⟨C, c, k1⟩, ⟨cv3, bv3, xs3, tp3, k3⟩, HTX.out.trans k4⟩)
  clear k1 k3 k4
  go_wp2_with fail
  exact HQ.out
end Go.Proofs.YtjdnigepnfeboaaGreatDoor
