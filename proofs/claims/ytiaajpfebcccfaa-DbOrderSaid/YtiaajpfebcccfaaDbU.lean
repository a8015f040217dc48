/-
  What db.Kill answers, and what the database is behind it. Conditions: the database's block, rows and procedure are as named; the sizes that are named.
-/
import Derived.Test.YtiaajpfebcccfaaDbT
namespace Go.Proofs.Ytiaajpfebcccfaa
open Go.RowKit Go.Maps
set_option maxRecDepth 100000
attribute [local go_sem ↓] Go.wp_at_zero Go.wp_at_succ

/-- Nothing dies: there is no such clause, or it is dead. -/
theorem kill_no (w : World) (B db mb : Nat) (time : Int) (es : List (PK × Nat)) (A : Option Addr) (N c : Nat) (cls : List ClV) (h : DbAt w db mb time es (.slice A N c)) (hcl : Row w B 53 10 encCl (.slice A N c) cls) (m : Nat) (x : ClV) (hx : cls[m]? = some x) (hd : 0 ≤ x.death) :
    Calls Try.prog 7 #[.pointer (some ⟨db, 0, none⟩), .int .i64 m] w fun e w' => e = .returned (.int .i64 8) ∧ w = w' := by
  obtain ⟨c0, c1, c2, cf⟩ := h.cells
  obtain ⟨g, e2, hN, hmN, hgB, hgl, hcc⟩ := cl_cells hcl hx
  subst e2
  have q9 := (hcc 9 (.int .i64 x.death) rfl).1
  have hmN' : (m : Int) < (N : Int) := by omega
  clear h hcl hcc hx
  obtain ⟨hd0, bd, bi, de⟩ := x
  simp only at q9 hd
  go_enter Try.func7, Try.ntmps7
  go_wp2_with fail
  go_ret
  exact ⟨rfl, rfl⟩

/-- What Kill comes to. -/
def KillPost (w : World) (B db mb pb : Nat) (time : Int) (es : List (PK × Nat)) (A : Option Addr) (N c : Nat) (cls : List ClV) (m : Nat) (x : ClV) (kind : Int) (ov : Value) (e : Ending) (w' : World) : Prop :=
  e = .returned (.int .i64 0) ∧ DbAt w' db mb (time + 1) es (.slice A N c) ∧ Row w' B 53 10 encCl (.slice A N c) (cls.set m { x with death := time + 1 }) ∧ PrAt w' pb kind (time + 1) ov 0 ∧
    Fr (fun k => k = db ∨ k = pb ∨ (Value.slice A N c).ownBlock = some k) w w'

abbrev KillS (db g m : Nat) (x : ClV) (time : Int) (u : World) : Prop :=
  u.cell? ⟨db, 0, none⟩ = some (.int .i64 (time + 1)) ∧ u.cell? ⟨g, m * 10 + 2, none⟩ = some (.string ⟨x.head.s.toArray⟩) ∧ u.cell? ⟨g, m * 10 + 3, none⟩ = some (.slice x.head.A x.head.len x.head.cap)

set_option maxHeartbeats 8000000 in
theorem kill_yes (w : World) (B db mb pb : Nat) (time : Int) (es : List (PK × Nat)) (A : Option Addr) (N c : Nat) (cls : List ClV) (h : DbAt w db mb time es (.slice A N c)) (hcl : Row w B 53 10 encCl (.slice A N c) cls) (m : Nat) (x : ClV) (hx : cls[m]? = some x) (hd : x.death < 0)
    (kind ver : Int) (ov : Value) (hp : PrAt w pb kind ver ov 0) (hk : okPK (x.head.s, (x.head.len : Int))) (hg : mget es (x.head.s, (x.head.len : Int)) = some pb) (ht : 0 ≤ time ∧ time ≤ 100000) :
    Calls Try.prog 7 #[.pointer (some ⟨db, 0, none⟩), .int .i64 m] w (KillPost w B db mb pb time es A N c cls m x kind ov) := by
  obtain ⟨c0, c1, c2, cf⟩ := h.cells
  obtain ⟨g, e2, hN, hmN, hgB, hgl, hcc⟩ := cl_cells hcl hx
  subst e2
  obtain ⟨p0, p1, p2, p3, pf⟩ := hp.cells
  have hdb : db ≠ pb := ne_types h.blk (show w.heap[pb]? = some (.cells _ 49 (0, 0)) from hp) (by decide)
  obtain ⟨_, cur, hgc⟩ := hcl.block (g := g) rfl
  have hdg : db ≠ g := ne_types h.blk hgc (by decide)
  have hpg : pb ≠ g := ne_types (show w.heap[pb]? = some (.cells _ 49 (0, 0)) from hp) hgc (by decide)
  have hmd : mb ≠ db := (ne_map h.blk h.map).symm
  have hmg : mb ≠ g := (ne_map hgc h.map).symm
  have hmp : mb ≠ pb := (ne_map (show w.heap[pb]? = some (.cells _ 49 (0, 0)) from hp) h.map).symm
  obtain ⟨u1, hu1⟩ : ∃ u1, u1 = w.setCell ⟨db, 0, none⟩ (.int .i64 (time + 1)) := ⟨_, rfl⟩
  obtain ⟨u2, hu2⟩ : ∃ u2, u2 = u1.setCell ⟨g, m * 10 + 9, none⟩ (.int .i64 (time + 1)) := ⟨_, rfl⟩
  have k1 : ∀ k, k ≠ db → u1.heap[k]? = w.heap[k]? := fun k hk => by rw [hu1]; exact Deep.blk_setCell_other _ _ _ _ hk
  have k2 : ∀ k, k ≠ g → u2.heap[k]? = u1.heap[k]? := fun k hk => by rw [hu2]; exact Deep.blk_setCell_other _ _ _ _ hk
  have hD1 : DbAt u1 db mb (time + 1) es (.slice (some ⟨g, 0, none⟩) N c) := by
    rw [hu1]
    exact ⟨blk_put h.blk _, h.map.setCell (p := ⟨db, 0, none⟩) hmd _, h.ok⟩
  have hD2 : DbAt u2 db mb (time + 1) es (.slice (some ⟨g, 0, none⟩) N c) := hD1.keep (k2 _ hdg) (k2 _ hmg)
  have hR1 : Row u1 B 53 10 encCl (.slice (some ⟨g, 0, none⟩) N c) cls := hcl.keep fun k hk => k1 k (by
    have : g = k := by simpa [Value.ownBlock] using hk
    rw [← this]
    exact hdg.symm)
  have hR2 : Row u2 B 53 10 encCl (.slice (some ⟨g, 0, none⟩) N c) (cls.set m { x with death := time + 1 }) := by
    rw [hu2]
    exact hR1.put encCl_len hx (j := 9) (by omega) (by obtain ⟨a, b, c, d⟩ := x; rfl)
  have hP2 : PrAt u2 pb kind ver ov 0 := ((k2 _ hpg).trans (k1 _ hdb.symm)).trans hp
  have hF2 : Fr (fun k => k = db ∨ k = pb ∨ (Value.slice (some ⟨g, 0, none⟩) N c).ownBlock = some k) w u2 := by
    rw [hu2, hu1]
    exact ((Fr.refl _ w).setCell (p := ⟨db, 0, none⟩) (.inl (.inl rfl)) _).setCell (p := ⟨g, m * 10 + 9, none⟩) (.inl (.inr (.inr rfl))) _
  obtain ⟨q2, _⟩ := hcc 2 (.string ⟨x.head.s.toArray⟩) rfl
  obtain ⟨q3, _⟩ := hcc 3 (.slice x.head.A x.head.len x.head.cap) rfl
  obtain ⟨q9, qf⟩ := hcc 9 (.int .i64 x.death) rfl
  have r2 : u2.cell? ⟨g, m * 10 + 2, none⟩ = some (.string ⟨x.head.s.toArray⟩) := by
    rw [hu2, World.cell?_setCell_other _ _ _ _ (by simp)]
    exact (World.cell?_of_block (a := ⟨g, m * 10 + 2, none⟩) (k1 g hdg.symm)).trans q2
  have r3 : u2.cell? ⟨g, m * 10 + 3, none⟩ = some (.slice x.head.A x.head.len x.head.cap) := by
    rw [hu2, World.cell?_setCell_other _ _ _ _ (by simp)]
    exact (World.cell?_of_block (a := ⟨g, m * 10 + 3, none⟩) (k1 g hdg.symm)).trans q3
  have HGET := Lib.hid fun (u : World) (hb : Below u2.heap.size u2 u) => get_old u db mb pb (time + 1) es _ (hD2.later hb) x.head.s (x.head.len : Int) hk hg
  have HD := Lib.hid hD2.lt
  have HALL := Lib.hid (And.intro hD2 (And.intro hR2 (And.intro hP2 hF2)))
  obtain ⟨p0, p1, p2, p3, pf⟩ := hP2.cells
  obtain ⟨d0, d1, d2, df⟩ := hD2.cells
  have HK := Lib.hid (And.intro hdb (And.intro hpg hmp))
  have hmN' : (m : Int) < (N : Int) := by omega
  have hpl := hP2.lt
  obtain ⟨ht0, ht1⟩ := ht
  have HU := Lib.hid (And.intro hu1 hu2)
  have hgu : g < u2.heap.size := by rw [hu2, hu1]; simpa [World.setCell] using hgl
  clear h hcl hcc hx hp hD1 hD2 hR1 hR2 hP2 hF2 k1 k2 hgc hk hg hdb hpg hmp hmd hmg hu1 hu2
  go_enter Try.func7, Try.ntmps7
  go_wp2_with fail
  rw [← HU.out.1, ← HU.out.2]
  have HSF : Hid (∀ u : World, Below (u2.drew).heap.size u2.drew u → KillS db g m x time u) := Lib.hid fun u hb =>
    ⟨(hb.cell (p := ⟨db, 0, none⟩) HD.out).trans d0, (hb.cell (p := ⟨g, m * 10 + 2, none⟩) hgu).trans r2, (hb.cell (p := ⟨g, m * 10 + 3, none⟩) hgu).trans r3⟩
  have HSP : Hid (∀ (u : World) (v : Value), KillS db g m x time u → KillS db g m x time (u.setCell ⟨pb, 1, none⟩ v)) := Lib.hid fun u v h => by
    obtain ⟨h1, h2, h3⟩ := h
    exact ⟨(World.cell?_setCell_other _ _ _ _ (by simp)).trans h1, (World.cell?_setCell_other _ _ _ _ (by simp)).trans h2, (World.cell?_setCell_other _ _ _ _ (by simp)).trans h3⟩
  have HPS : Hid (∀ u : World, Below (u2.drew).heap.size u2.drew u → (u.cell? ⟨pb, 1, none⟩ = some (.int .i64 ver) ∧ u.frozen? ⟨pb, 1, none⟩ = false) ∧ KillPost w B db mb pb time es (some ⟨g, 0, none⟩) N c cls m x kind ov (.returned (.int .i64 0)) (u.setCell ⟨pb, 1, none⟩ (.int .i64 (time + 1)))) := Lib.hid fun u hb => by
    obtain ⟨hD, hR, hP, hF⟩ := HALL.out
    have hb' : Below u2.heap.size u2 u := (((Below.refl u2.heap.size u2).drew).trans hb)
    have hDu := hD.later hb'
    have hRu := hR.later hb'
    have hPu := hP.later hb'
    have hFu := hF.step hb'
    refine ⟨⟨hPu.cells.2.1, hPu.cells.2.2.2.2 1⟩, rfl, hDu.keep ?_ ?_, hRu.away _ ?_, ?_, hFu.setCell (p := ⟨pb, 1, none⟩) (.inl (.inr (.inl rfl))) _⟩
    · exact Deep.blk_setCell_other _ _ _ _ HK.out.1
    · exact Deep.blk_setCell_other _ _ _ _ HK.out.2.2
    · intro k hk e
      have : g = k := by simpa [Value.ownBlock] using hk
      exact HK.out.2.1 (by rw [this, e])
    · exact blk_put hPu _
  clear c0 c1 c2 cf p0 p1 p2 p3 pf q2 q3 q9 qf
  go_region_held3 (fun u => u.cell? ⟨db, 0, none⟩ = some (.int .i64 (time + 1)) ∧ u.cell? ⟨g, m * 10 + 2, none⟩ = some (.string ⟨x.head.s.toArray⟩) ∧ u.cell? ⟨g, m * 10 + 3, none⟩ = some (.slice x.head.A x.head.len x.head.cap)) (first | (with_reducible exact HSF.out _ (Below.refl _ _)) | (with_reducible exact HSF.out _ hb3) | (with_reducible exact HSP.out _ _ (HSF.out _ hb3)))
    ((go_at_call 14; with_reducible refine (HGET.out _ ((Below.refl _ _).drew)).mono ?_; rintro e u3 ⟨rfl, hb3⟩; obtain ⟨⟨v1, vf⟩, hpost⟩ := HPS.out u3 hb3; have HPO := Lib.hid hpost; clear hpost))
  go_wp2_with fail
  go_ret
  exact HPO.out
end Go.Proofs.Ytiaajpfebcccfaa
