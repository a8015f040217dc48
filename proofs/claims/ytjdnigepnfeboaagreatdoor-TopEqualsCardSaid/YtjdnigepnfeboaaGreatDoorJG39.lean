import Derived.Test.YtjdnigepnfeboaaGreatDoorJG37
namespace Go.Proofs.YtjdnigepnfeboaaGreatDoor
open Go.RowKit Go.Maps
set_option maxRecDepth 100000
variable [Base]
set_option linter.unusedSectionVars false
def encP (b : Nat) : List Value := [.pointer (some ⟨b, 0, none⟩)]
abbrev ChRow (u : World) (rb : Nat) (v : Value) (l : List Nat) : Prop := Row u (rb + 1) 224 1 encP v l
omit [Base] in
theorem choice_info : ∃ i z, Tryz.prog.info? 224 = some i ∧ i.zero = some z ∧ i.size = 1 ∧ i.bytes = 8 ∧ z.cells.size = 1 := by
 refine ⟨_, _, rfl, rfl, ?_, ?_, ?_⟩ <;> kernel_rfl
section
variable {rb db ob : Nat} {r : RC} {u : World} {l : List (Int × List UInt8)} {spent : Int} {over : List UInt8}
set_option maxHeartbeats 4000000 in
theorem pop_any {hb : Nat} (h : RunSt u rb r l db ob spent over) (hc : ChRow u rb r.ch [hb]) :
    Calls Tryz.prog 185 #[.pointer (some ⟨rb, 0, none⟩)] u fun e u' => e = .returned (.pointer (some ⟨hb, 0, none⟩)) ∧ (∃ C c, RunSt u' rb { r with ch := .slice C 0 c } l db ob spent over) ∧ TF [224, 112] u u' := by
 obtain ⟨P, hP⟩ : ∃ P : Ending → World → Prop, P = fun e u' => e = .returned (.pointer (some ⟨hb, 0, none⟩)) ∧ (∃ C c, RunSt u' rb { r with ch := .slice C 0 c } l db ob spent over) ∧ TF [224, 112] u u' := ⟨_, rfl⟩
 rw [← hP]
 have HP := Lib.hid hP
 have hne : [hb] ≠ [] := by simp
 obtain ⟨g, cap, e1, hB, hg, hcap, hcc⟩ := hc.cells (enc := encP) (fun _ => rfl) hne
 replace hcap : 1 ≤ cap := hcap
 have hgt : TyB u 224 g := hc.ty (by rw [e1]; rfl)
 have c8 : u.cell? ⟨rb, 8, none⟩ = some (.slice (some ⟨g, 0, none⟩) 1 cap) := (h.run.get 8).trans (by show some r.ch = _; rw [e1]; rfl)
 have d0 : u.cell? ⟨g, 0, none⟩ = some (.pointer (some ⟨hb, 0, none⟩)) := by have := (hcc 0 hb rfl 0 _ rfl).1; simpa using this
 have df : u.frozen? ⟨g, 0, none⟩ = false := by have := (hcc 0 hb rfl 0 _ rfl).2; simpa using this
 have hgr : g ≠ rb := hgt.ne h.run.ty (by decide)
 obtain ⟨V, hV⟩ : ∃ V, V = u.setCell ⟨g, 0, none⟩ (.pointer none) := ⟨_, rfl⟩
 have hTV : TF [224, 112] u V := by rw [hV]; exact (TF.refl _ u).set (p := ⟨g, 0, none⟩) hgt (by decide) (by have := h.few.2.1; show Base.b ≤ g; omega) _
 have hRV : RunSt V rb r l db ob spent over := by
  have hT2 : TF [224] u V := by rw [hV]; exact (TF.refl _ u).set (p := ⟨g, 0, none⟩) hgt (by decide) (by have := h.few.2.1; show Base.b ≤ g; omega) _
  exact h.keep hT2 (by decide)
 have HH := Lib.hid (And.intro hRV hTV)
 have hlt := h.run.lt
 clear hP h hc hgt hTV hRV hcc hB hne
 go_enter Tryz.func185, Tryz.ntmps185
 go_upto_region 4 with fail
 rw [← hV]
 clear hV c8 d0 df
 have c8 : V.cell? ⟨rb, 8, none⟩ = some (.slice (some ⟨g, 0, none⟩) 1 cap) := (HH.out.1.run.get 8).trans (by show some r.ch = _; rw [e1]; rfl)
 have cf := HH.out.1.run.fz
 have hlV := HH.out.1.run.lt
 have HQ : Hid (P (.returned (.pointer (some ⟨hb, 0, none⟩))) (V.setCell ⟨rb, 8, none⟩ (.slice (some ⟨g, 0, none⟩) 0 cap))) := Lib.hid (by
  rw [HP.out]
  have h9 := HH.out.1.put (r' := { r with ch := .slice (some ⟨g, 0, none⟩) 0 cap }) 8 (.slice (some ⟨g, 0, none⟩) 0 cap) rfl rfl rfl
  exact ⟨rfl, ⟨_, _, h9.1⟩, HH.out.2.trans (h9.2.mono (by decide))⟩)
 clear e1
 go_wp2_with fail
 exact HQ.out
end
section
variable {rb Bn hb c : Nat} {A : Option Addr} {nv : Value} {tried z : Int} {r : RC} {u : World} {cv bv : Value} {xs : List ScM} {cs : List Sc} {tp : Int}
set_option maxHeartbeats 4000000 in
theorem undo_p (h : RunAt u rb r) (hs : StAt r.sb 40000 u cv bv xs (boundC cs z) [(1, tp)]) (hC : ChAt Bn u hb A c nv tried) (hp : PCs cs) (hl : cs.length ≤ 10) :
    Calls Tryz.prog 169 #[.pointer (some ⟨rb, 0, none⟩), .pointer (some ⟨hb, 0, none⟩)] u fun e u' => e = .returned (.tuple #[]) ∧ (∃ cv bv xs, StAt r.sb 40000 u' cv bv xs (moreC cs z) []) ∧ TF stT u u' := by
 obtain ⟨P, hP⟩ : ∃ P : Ending → World → Prop, P = fun e u' => e = .returned (.tuple #[]) ∧ (∃ cv bv xs, StAt r.sb 40000 u' cv bv xs (moreC cs z) []) ∧ TF stT u u' := ⟨_, rfl⟩
 rw [← hP]
 have HP := Lib.hid hP
 obtain ⟨sb, hsb⟩ : ∃ sb, sb = r.sb := ⟨_, rfl⟩
 have c1 : u.cell? ⟨rb, 1, none⟩ = some (.pointer (some ⟨sb, 0, none⟩)) := (h.get 1).trans (by rw [hsb]; rfl)
 have h1 : u.cell? ⟨hb, 1, none⟩ = some (.int .i64 0) := hC.get 1
 have hlt := h.lt
 have hlh := hC.lt
 have HSV : Hid (∀ w, RunAt w rb r → ChAt Bn w hb A c nv tried → w.cell? ⟨rb, 1, none⟩ = some (.pointer (some ⟨sb, 0, none⟩)) ∧ w.cell? ⟨hb, 1, none⟩ = some (.int .i64 0) ∧ w.cell? ⟨hb, 2, none⟩ = some (.int .i64 2)) := Lib.hid fun w h1 h2 => ⟨(h1.get 1).trans (by rw [hsb]; rfl), h2.get 1, h2.get 2⟩
 have hd := (Below.refl u.heap.size u).drew
 have HSD := Lib.hid (HSV.out u.drew (h.later hd) (hC.later hd))
 have HUN : Hid (Calls Tryz.prog 161 #[.pointer (some ⟨sb, 0, none⟩), .int .i64 0] u.drew fun e u' => e = .returned (.tuple #[]) ∧ (∃ cv bv xs, StAt sb 40000 u' cv bv xs (moreC cs z) []) ∧ RunAt u' rb r ∧ ChAt Bn u' hb A c nv tried ∧ TF stT u u') := Lib.hid (by
  rw [hsb]
  refine (undo_any (hs.later hd) 0 (Nat.zero_le _)).mono ?_
  rintro e u' ⟨rfl, ⟨bv', xs', k1⟩, k2⟩
  have k3 : StAt r.sb 40000 u' cv bv' xs' (undoF (boundC cs z) [1]) [] := k1
  rw [hp.undo] at k3
  have hT : TF stT u u' := (TF.of_below _ hd).trans k2
  exact ⟨rfl, ⟨_, _, _, k3⟩, (hT.block h.ty (by decide)).trans h, hC.tf hT (by decide) (by decide), hT⟩)
 have HI := Lib.hid hsb
 have HL := Lib.hid hl
 clear hP hs hp hl h hC hsb hd c1 h1
 go_enter Tryz.func169, Tryz.ntmps169
 go_wp2_with fail
 go_region_held3 (fun w => w.cell? ⟨rb, 1, none⟩ = some (.pointer (some ⟨sb, 0, none⟩)) ∧ w.cell? ⟨hb, 1, none⟩ = some (.int .i64 0) ∧ w.cell? ⟨hb, 2, none⟩ = some (.int .i64 2))
  (first | (with_reducible exact HS1.out) | (with_reducible exact HSD.out))
  (first | (go_at_call 161; with_reducible refine HUN.out.mono ?_; rintro e w1 ⟨rfl, k1, k2, k3, k4⟩; have HS1 := Lib.hid (HSV.out w1 k2 k3); have HG1 := Lib.hid (And.intro k1 (And.intro k2 (And.intro k3 k4))); clear k1 k2 k3 k4))
 clear HUN hlt hlh HSD HS1
 obtain ⟨cv1, bv1, xs1, hs1⟩ := HG1.out.1
 have hd1 := (Below.refl w1.heap.size w1).drew
 have HSD := Lib.hid (HSV.out w1.drew (HG1.out.2.1.later hd1) (HG1.out.2.2.1.later hd1))
 have HCE : Hid (Calls Tryz.prog 142 #[.pointer (some ⟨sb, 0, none⟩)] w1.drew fun e u' => e = .returned (.int .i64 ((cs.length + 2 : Nat) : Int)) ∧ u' = w1.drew) := Lib.hid (by
  have := Cells_st (hs1.later hd1)
  rwa [more_len] at this)
 have hsub : IntKind.i64.wrap (((cs.length + 2 : Nat) : Int) - 2) = ((cs.length : Nat) : Int) := by rw [IntWalk.i64_in _ (by have := HL.out; omega)]; omega
 have hw0 : IntKind.i64.wrap 0 = 0 := by decide
 have hw16 : IntKind.i64.wrap 16 = 16 := by decide
 have hng : ¬ (16 : Int) < ((cs.length : Nat) : Int) := by have := HL.out; omega
 obtain ⟨nn, hnn⟩ : ∃ nn, nn = ((cs.length + 2 : Nat) : Int) := ⟨_, rfl⟩
 rw [← hnn] at HCE hsub
 clear hs1 hnn
 go_wp2_with fail
 go_region_held3 (fun w => w.cell? ⟨rb, 1, none⟩ = some (.pointer (some ⟨sb, 0, none⟩)) ∧ w.cell? ⟨hb, 1, none⟩ = some (.int .i64 0) ∧ w.cell? ⟨hb, 2, none⟩ = some (.int .i64 2))
  (first | (with_reducible exact HSD.out))
  (first | (go_at_call 142; with_reducible refine HCE.out.mono ?_; rintro e w2 ⟨rfl, rfl⟩))
 have HQ : Hid (P (.returned (.tuple #[])) w1.drew) := Lib.hid (by
  rw [HP.out]
  obtain ⟨⟨cv1, bv1, xs1, hs1⟩, -, -, hT⟩ := HG1.out
  exact ⟨rfl, ⟨_, _, _, by rw [← HI.out]; exact hs1.later hd1⟩, hT.later hd1⟩)
 clear HCE HSD HSV
 go_wp2_with fail
 exact bodyPost_end (v := .tuple #[]) (by simp [results, Tryz.results169, go_sem]) rfl HQ.out
end
end Go.Proofs.YtjdnigepnfeboaaGreatDoor
