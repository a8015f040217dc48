import Derived.Test.YtjdnigepnfeboaaGreatDoorJG37
namespace Go.Proofs.YtjdnigepnfeboaaGreatDoor
open Go.RowKit Go.Maps
set_option maxRecDepth 100000
variable [Base]
set_option linter.unusedSectionVars false
theorem row_ints {u : World} {B : Nat} {nv : Value} (h : Row u B 3 1 encI nv [0, 1]) (i : Nat) (hi : i < 2) : ∃ g c, nv = .slice (some ⟨g, 0, none⟩) 2 c ∧ g < u.heap.size ∧ u.cell? ⟨g, i, none⟩ = some (.int .i64 (i : Nat)) := by
 have hne : ([0, 1] : List Int) ≠ [] := by simp
 obtain ⟨g, cap, e1, -, hg, -, hc⟩ := h.cells (enc := encI) (fun _ => rfl) hne
 refine ⟨g, cap, e1, hg, ?_⟩
 match i, hi with
 | 0, _ => have := (hc 0 0 rfl 0 _ rfl).1; simpa using this
 | 1, _ => have := (hc 1 1 rfl 0 _ rfl).1; simpa using this
structure FtW (u : World) (tb g : Nat) (z bi de : Int) (v : World) : Prop where
 box : v.heap[tb]? = some (.cells (claA (some ⟨g, 0, none⟩) bi de) 163 (0, 0))
 num : v.heap[g]? = some (.cells (numA z) 27 (0, 0))
 below : Below u.heap.size u v
 ge : u.heap.size ≤ tb
theorem FtW.new {u w : World} {g : Nat} {z bi de : Int} (hg : w.heap[g]? = some (.cells (numA z) 27 (0, 0))) (hb : Below u.heap.size u w) : FtW u w.heap.size g z bi de (w.alloc (.cells (claA (some ⟨g, 0, none⟩) bi de) 163)) :=
 ⟨heap_alloc_new _ _, (Below.heap_alloc _ _ _ (Array.getElem?_eq_some_iff.1 hg).1).trans hg, hb.alloc hb.size _, hb.size⟩
theorem FtW.set {u w : World} {g n : Nat} {z bi de : Int} (hz : w.heap[u.heap.size]? = some (.cells #[.int .i64 0, .int .i64 0, .string ⟨#[]⟩, .slice none 0 0, .int .i64 0, .int .i64 0, .string ⟨#[]⟩, .slice none 0 0, .int .i64 0, .int .i64 0] 163 (0, 0))) (hg : n ≤ g ∧ w.heap[g]? = some (.cells (numA z) 27 (0, 0))) (hb : Below u.heap.size u w) :
    FtW u u.heap.size g z bi de (w.setCells u.heap.size 0 (claA (some ⟨g, 0, none⟩) bi de).toList) := by
 have hf := fr_setCells (S := (· = u.heap.size)) (w := w) (.inl rfl) (claA (some ⟨g, 0, none⟩) bi de).toList w 0 (Fr.refl _ _)
 have hk := blk_setCells (claA (some ⟨g, 0, none⟩) bi de).toList w 0 _ hz
 rw [put_cl2] at hk
 have hgX : g ≠ u.heap.size := TyB.ne (t := 27) ⟨_, hg.2⟩ (t' := 163) ⟨_, hz⟩ (by decide)
 exact ⟨hk, (hf.block _ (Array.getElem?_eq_some_iff.1 hg.2).1 hgX).trans hg.2, hb.trans (hf.below hb.size fun k hk e => by have e : k = u.heap.size := e; omega), Nat.le_refl _⟩
set_option maxHeartbeats 8000000 in
theorem fit_any {Bd dmb pb : Nat} {Ad : Option Addr} {cd : Nat} {cls : List ClV} {ver : Int} {ov : Value} {Bn hb c' : Nat} {A' : Option Addr} {nv : Value} {tried spent : Int} {over : List UInt8} {db ob : Nat} (u : World) (rb : Nat) (r : RC) (cv bv : Value) (xs : List ScM) (cs : List Sc)
    (hR : RunAt u rb r) (hM : MachAt u r.mb db ob spent over) (hs : StAt r.sb 40000 u cv bv xs cs []) (hp : PCs cs) (hl : cs.length ≤ 100) (hD : DbP Bd db dmb pb Ad cd cls ver ov u) (hC : ChAt Bn u hb A' c' nv tried) (i : Nat) (hi : i < 2) :
    Calls Tryz.prog 243 #[.pointer (some ⟨rb, 0, none⟩), .pointer (some ⟨hb, 0, none⟩), .int .i64 (i : Nat)] u (FitO r.sb 40000 u cs ((i + 1 : Nat) : Int)) := by
 obtain ⟨P, hP⟩ : ∃ P : Ending → World → Prop, P = FitO r.sb 40000 u cs ((i + 1 : Nat) : Int) := ⟨_, rfl⟩
 rw [← hP]
 have HP := Lib.hid hP
 obtain ⟨z, hz⟩ : ∃ z : Int, z = ((i + 1 : Nat) : Int) := ⟨_, rfl⟩
 obtain ⟨gn, cn, rfl, hgn, -⟩ := row_ints hC.nums i hi
 obtain ⟨mb, hmb⟩ : ∃ mb, mb = r.mb := ⟨_, rfl⟩
 obtain ⟨sb, hsb⟩ : ∃ sb, sb = r.sb := ⟨_, rfl⟩
 rw [← hmb] at hM
 rw [← hsb] at hs
 have hE : ∀ w, Below u.heap.size u w → (w.cell? ⟨rb, 0, none⟩ = some (.pointer (some ⟨mb, 0, none⟩)) ∧ w.cell? ⟨mb, 0, none⟩ = some (.pointer (some ⟨db, 0, none⟩)) ∧ w.cell? ⟨hb, 8, none⟩ = some (.slice (some ⟨gn, 0, none⟩) 2 cn)) ∧ w.cell? ⟨hb, 7, none⟩ = some (.slice none 0 0) ∧ w.cell? ⟨gn, i, none⟩ = some (.int .i64 (i : Nat)) := fun w hb => by
  obtain ⟨g', c2, e1, -, h2⟩ := row_ints (hC.later hb).nums i hi
  injection e1 with e1
  injection e1 with e1
  injection e1 with e1
  subst e1
  exact ⟨⟨by rw [(hR.later hb).get 0, hmb]; rfl, (hM.later hb).cells.1.1, (hC.later hb).get 8⟩, (hC.later hb).get 7, h2⟩
 have HE := Lib.hid hE
 have HCL : Hid (∀ w, Below u.heap.size u w → Calls Tryz.prog 259 #[.pointer (some ⟨db, 0, none⟩), .int .i64 (i : Nat)] w fun e w' => ∃ (g : Nat) (bi de : Int), e = .returned (.tuple #[.agg #[.int .i64 4, .int .i64 0, .string ⟨#[112]⟩, .slice (some ⟨g, 0, none⟩) 1 1, .int .i64 3, .int .i64 0, .string ⟨#[116, 114, 117, 101]⟩, .slice none 0 0, .int .i64 bi, .int .i64 de], .int .i64 0]) ∧ (w.heap.size ≤ g ∧ w'.heap[g]? = some (.cells (numA z) 27 (0, 0))) ∧ Below w.heap.size w w' ∧ Below u.heap.size u w') := Lib.hid fun w hb => by
  refine (clause_any w (hD.later hb) i hi).mono ?_
  rintro e w' ⟨g, bi, de, rfl, h1, h2, h3⟩
  rw [← hz] at h2
  exact ⟨g, bi, de, rfl, ⟨h1, h2⟩, h3, hb.trans (h3.mono hb.size)⟩
 have HI := Lib.hid (And.intro hR (And.intro hs (And.intro hp (And.intro hl hC))))
 have HZ := Lib.hid (And.intro hz (And.intro hmb hsb))
 have hng : ¬ (i : Int) < 0 := by omega
 have hi2 : (i : Int) < 2 := by omega
 have hi0 : (0 : Int) ≤ (i : Int) := by omega
 have hwr : IntKind.i64.wrap ((i : Int) - 0) = (i : Int) := by rw [Int.sub_zero]; exact IntWalk.i64_in _ (by omega)
 have hwi : IntKind.i64.wrap (i : Int) = (i : Int) := IntWalk.i64_in _ (by omega)
 have h7 := (hE u (Below.refl _ _)).2.1
 have HB1 := Lib.hid (Below.refl u.heap.size u).drew
 have HB2 := Lib.hid ((Below.refl u.heap.size u).alloc (Nat.le_refl _) (.cells #[.int .i64 0, .int .i64 0, .string ⟨#[]⟩, .slice none 0 0, .int .i64 0, .int .i64 0, .string ⟨#[]⟩, .slice none 0 0, .int .i64 0, .int .i64 0] 163)).drew
 have HD2 := Lib.hid (hE _ HB2.out)
 have HD := Lib.hid (hE _ HB1.out)
 have HZ2 : Hid ((u.alloc (.cells #[.int .i64 0, .int .i64 0, .string ⟨#[]⟩, .slice none 0 0, .int .i64 0, .int .i64 0, .string ⟨#[]⟩, .slice none 0 0, .int .i64 0, .int .i64 0] 163)).drew.heap[u.heap.size]? = some (.cells #[.int .i64 0, .int .i64 0, .string ⟨#[]⟩, .slice none 0 0, .int .i64 0, .int .i64 0, .string ⟨#[]⟩, .slice none 0 0, .int .i64 0, .int .i64 0] 163 (0, 0))) := Lib.hid (heap_alloc_new u _)
 clear hP hE hR hM hs hp hl hD hC hz hmb hsb hgn
 go_enter Tryz.func243, Tryz.ntmps243
 go_upto_region 3 with fail
 have HL2 : Hid (u.heap.size < (u.alloc (.cells #[.int .i64 0, .int .i64 0, .string ⟨#[]⟩, .slice none 0 0, .int .i64 0, .int .i64 0, .string ⟨#[]⟩, .slice none 0 0, .int .i64 0, .int .i64 0] 163)).drew.heap.size) := Lib.hid (Array.getElem?_eq_some_iff.1 HZ2.out).1
 go_cut [8, 9] from 34 to 57 (fun e t v => e = .int .i64 0 ∧ ∃ (tb g : Nat) (bi de : Int), t = .pointer (some ⟨tb, 0, none⟩) ∧ Hid (FtW u tb g z bi de v))
 case first =>
  go_region_held3 (fun w => (w.cell? ⟨rb, 0, none⟩ = some (.pointer (some ⟨mb, 0, none⟩)) ∧ w.cell? ⟨mb, 0, none⟩ = some (.pointer (some ⟨db, 0, none⟩)) ∧ w.cell? ⟨hb, 8, none⟩ = some (.slice (some ⟨gn, 0, none⟩) 2 cn)) ∧ w.cell? ⟨hb, 7, none⟩ = some (.slice none 0 0) ∧ w.cell? ⟨gn, i, none⟩ = some (.int .i64 (i : Nat)))
   (first | (with_reducible exact HA4.out) | (with_reducible exact HA3.out) | (with_reducible exact HA2.out) | (with_reducible exact HA1.out) | (with_reducible exact HD2.out) | (with_reducible exact HD.out))
   (first | (go_at_call 259; with_reducible (refine (HCL.out _ HB2.out).mono ?_; rintro e w1 ⟨g, bi, de, rfl, g1, g2, g3⟩); have HZ1 := Lib.hid ((g2.block u.heap.size HL2.out).trans HZ2.out); obtain ⟨x0, x1, x2, x3, x4, x5, x6, x7, x8, x9, xf⟩ := zero_at HZ1.out; have HA1 := Lib.hid (HE.out w1 g3); have HA4 := Lib.hid (HE.out _ ((((((((((g3.setCell (p := ⟨u.heap.size, 0, none⟩) (Nat.le_refl _) (.int .i64 4)).setCell (p := ⟨u.heap.size, 1, none⟩) (Nat.le_refl _) (.int .i64 0)).setCell (p := ⟨u.heap.size, 2, none⟩) (Nat.le_refl _) (.string ⟨#[112]⟩)).setCell (p := ⟨u.heap.size, 3, none⟩) (Nat.le_refl _) (.slice (some ⟨g, 0, none⟩) 1 1)).setCell (p := ⟨u.heap.size, 4, none⟩) (Nat.le_refl _) (.int .i64 3)).setCell (p := ⟨u.heap.size, 5, none⟩) (Nat.le_refl _) (.int .i64 0)).setCell (p := ⟨u.heap.size, 6, none⟩) (Nat.le_refl _) (.string ⟨#[116, 114, 117, 101]⟩)).setCell (p := ⟨u.heap.size, 7, none⟩) (Nat.le_refl _) (.slice none 0 0)).setCell (p := ⟨u.heap.size, 8, none⟩) (Nat.le_refl _) (.int .i64 bi)).setCell (p := ⟨u.heap.size, 9, none⟩) (Nat.le_refl _) (.int .i64 de))); have HG := Lib.hid (And.intro g1 g3); clear g1 g2 g3) | (go_at_call 259; with_reducible (refine (HCL.out _ HB1.out).mono ?_; rintro e w1 ⟨g, bi, de, rfl, g1, g2, g3⟩); have HA1 := Lib.hid (HE.out w1 g3); have HA2 := Lib.hid (HE.out _ (g3.alloc g3.size (.cells #[.int .i64 0, .int .i64 0, .string ⟨#[]⟩, .slice none 0 0, .int .i64 0, .int .i64 0, .string ⟨#[]⟩, .slice none 0 0, .int .i64 0, .int .i64 0] 163))); have HA3 := Lib.hid (HE.out _ (g3.alloc g3.size (.cells #[.int .i64 4, .int .i64 0, .string ⟨#[112]⟩, .slice (some ⟨g, 0, none⟩) 1 1, .int .i64 3, .int .i64 0, .string ⟨#[116, 114, 117, 101]⟩, .slice none 0 0, .int .i64 bi, .int .i64 de] 163))); have HG := Lib.hid (And.intro g1 g3); clear g1 g2 g3))
  all_goals
   go_wp2_with fail
   go_meet
   refine ⟨rfl, _, g, bi, de, rfl, Lib.hid ?_⟩
   first
    | exact FtW.set HZ1.out HG.out.1 HG.out.2
    | exact FtW.new HG.out.1.2 HG.out.2
 case rest =>
  obtain ⟨v, rfl⟩ : ∃ v : World, v = wc := ⟨_, rfl⟩
  obtain ⟨rfl, tb, g, bi, de, rfl, HF⟩ := hcut
  clear HCL HE HB1 HB2 HD HD2 HZ2 hng hi2 hi0 hwr hwi h7
  have hmk := mk_map v
  obtain ⟨V, hV⟩ : ∃ V, V = v.alloc (.map #[] 0) := ⟨_, rfl⟩
  obtain ⟨vb, hvb⟩ : ∃ vb, vb = v.heap.size := ⟨_, rfl⟩
  have hbv : Below v.heap.size v V := by rw [hV]; exact (Below.refl _ _).alloc (Nat.le_refl _) _
  have hM6 : M6 V vb [] := by rw [hV, hvb]; exact M6.made v
  have hbV : Below u.heap.size u V := HF.out.below.trans (hbv.mono HF.out.below.size)
  have hbx := (hbv.block _ (Array.getElem?_eq_some_iff.1 HF.out.box).1).trans HF.out.box
  have hnu := (hbv.block _ (Array.getElem?_eq_some_iff.1 HF.out.num).1).trans HF.out.num
  obtain ⟨⟨b0, b1, b2, b3⟩, -, -, -, -⟩ := ten_at hbx
  obtain ⟨n0, n1, n2, n3, -⟩ := four_at hnu
  obtain ⟨ga, off, e1, -, a0⟩ := (HI.out.2.2.2.2.later hbV).args.at' 0 1 rfl
  rw [Nat.add_zero] at a0
  have a6 := (HI.out.2.2.2.2.later hbV).get 6
  replace a6 : V.cell? ⟨hb, 6, none⟩ = some (.slice A' 1 c') := a6
  rw [e1] at a6
  have HV := Lib.hid (And.intro hbV (And.intro hM6 (And.intro hbx (And.intro hnu (show u.heap.size ≤ vb by rw [hvb]; exact HF.out.below.size)))))
  have hbd := (Below.refl V.heap.size V).drew
  have hbVV : Below u.heap.size u V := hbV
  have HSV : Hid (∀ w, Below V.heap.size V w → (w.cell? ⟨tb, 3, none⟩ = some (.slice (some ⟨g, 0, none⟩) 1 1) ∧ w.cell? ⟨g, 0, none⟩ = some (.int .i64 2) ∧ w.cell? ⟨g, 1, none⟩ = some (.int .i64 z) ∧ w.cell? ⟨g, 2, none⟩ = some (.string ⟨#[]⟩) ∧ w.cell? ⟨g, 3, none⟩ = some (.slice none 0 0)) ∧ w.cell? ⟨hb, 6, none⟩ = some (.slice (some ⟨ga, off, none⟩) 1 c') ∧ w.cell? ⟨ga, off, none⟩ = some (.int .i64 1)) := Lib.hid fun w hw => by
   have hc := fun (a : Addr) (x : Value) (h : V.cell? a = some x) => (hw.cell (p := a) (World.block_lt_of_cell? V _ h)).trans h
   exact ⟨⟨hc _ _ b3, hc _ _ n0, hc _ _ n1, hc _ _ n2, hc _ _ n3⟩, hc _ _ a6, hc _ _ a0⟩
  have HSD := Lib.hid (HSV.out _ hbd)
  have HUN : Hid (Calls Tryz.prog 320 #[.pointer (some ⟨rb, 0, none⟩), .agg #[.int .i64 2, .int .i64 z, .string ⟨#[]⟩, .slice none 0 0], .int .i64 1] V.drew fun e w3 => e = .returned (.bool false) ∧ Below V.heap.size V w3) := Lib.hid (by
   have hs0 : StAt r.sb 40000 u cv bv xs cs [] := by rw [← HZ.out.2.2]; exact HI.out.2.1
   refine (unlike_var (HI.out.1.later (hbV.trans (hbd.mono hbV.size))) (hs0.later (hbV.trans (hbd.mono hbV.size))) HI.out.2.2.1.c1 z).mono ?_
   rintro e w3 ⟨rfl, h3⟩
   exact ⟨rfl, hbd.trans h3⟩)
  clear hbV hM6 hbx hnu hbv hbd e1 HF
  go_upto_region 7 with fail
  rw [← hV, ← hvb]
  clear hmk hV hvb
  go_upto_region 8 with fail
  go_region_held3 (fun w => (w.cell? ⟨tb, 3, none⟩ = some (.slice (some ⟨g, 0, none⟩) 1 1) ∧ w.cell? ⟨g, 0, none⟩ = some (.int .i64 2) ∧ w.cell? ⟨g, 1, none⟩ = some (.int .i64 z) ∧ w.cell? ⟨g, 2, none⟩ = some (.string ⟨#[]⟩) ∧ w.cell? ⟨g, 3, none⟩ = some (.slice none 0 0)) ∧ w.cell? ⟨hb, 6, none⟩ = some (.slice (some ⟨ga, off, none⟩) 1 c') ∧ w.cell? ⟨ga, off, none⟩ = some (.int .i64 1))
   (first | (with_reducible exact HS3.out) | (with_reducible exact HSD.out))
   (first | (go_at_call 320; with_reducible refine HUN.out.mono ?_; rintro e w3 ⟨rfl, hb3⟩; have HS3 := Lib.hid (HSV.out w3 hb3); have HB3 := Lib.hid hb3; clear hb3))
  clear HUN HSV HSD HS3 b0 b1 b2 b3 n0 n1 n2 n3 a0 a6
  have hV3 := HB3.out
  have hb3 : Below u.heap.size u w3 := HV.out.1.trans (hV3.mono HV.out.1.size)
  have hM3 := HV.out.2.1.later hV3
  have hx3 := (hV3.block _ (Array.getElem?_eq_some_iff.1 HV.out.2.2.1).1).trans HV.out.2.2.1
  have hn3 := (hV3.block _ (Array.getElem?_eq_some_iff.1 HV.out.2.2.2.1).1).trans HV.out.2.2.2.1
  have hs3 : StAt sb 40000 w3 cv bv xs cs [] := HI.out.2.1.later hb3
  have hd3 := (Below.refl w3.heap.size w3).drew
  have hT3 : TF stP u w3.drew := TF.of_below _ (hb3.trans (hd3.mono hb3.size))
  have HSV : Hid (∀ w, w.heap[tb]? = w3.heap[tb]? → RunAt w rb r → w.cell? ⟨rb, 1, none⟩ = some (.pointer (some ⟨sb, 0, none⟩)) ∧ w.cell? ⟨tb, 0, none⟩ = some (.int .i64 4) ∧ w.cell? ⟨tb, 1, none⟩ = some (.int .i64 0) ∧ w.cell? ⟨tb, 2, none⟩ = some (.string ⟨#[112]⟩) ∧ w.cell? ⟨tb, 3, none⟩ = some (.slice (some ⟨g, 0, none⟩) 1 1)) := Lib.hid fun w h1 h2 => by
   obtain ⟨⟨b0, b1, b2, b3⟩, -, -, -, -⟩ := ten_at (h1.trans hx3)
   exact ⟨by rw [h2.get 1, HZ.out.2.2]; rfl, b0, b1, b2, b3⟩
  have HPU : Hid (Calls Tryz.prog 180 #[.pointer (some ⟨sb, 0, none⟩), .agg #[.int .i64 4, .int .i64 0, .string ⟨#[112]⟩, .slice (some ⟨g, 0, none⟩) 1 1], .map (some vb)] w3.drew fun e w4 => e = .returned (.tuple #[.int .i64 (cs.length : Nat), .int .i64 0]) ∧ (∃ cv xs, StAt sb 40000 w4 cv bv xs (moreC cs z) []) ∧ w4.heap[tb]? = w3.heap[tb]? ∧ RunAt w4 rb r ∧ TF stP u w4) := Lib.hid (by
   have hp := Put_st (hs3.later hd3) (hM3.later hd3) ⟨4, 0, [112], some ⟨g, 0, none⟩, 1, 1⟩ (factT z) (head_term (W := w3.drew) hn3) rfl (by simp [factT, vrT, vrL]) (show (factT z).size ≤ 2000 by simp [factT, Tm.size, Tm.sizes]) (by have := HI.out.2.2.2.1; simp [factT, Tm.size, Tm.sizes]; omega)
   refine hp.mono ?_
   rintro e w4 ⟨rfl, k1, -, k3⟩
   rw [put_fact] at k1 ⊢
   obtain ⟨cv4, xs4, k1⟩ := k1
   have hT4 : TF stP u w4 := tf_vars hT3 HV.out.2.2.2.2 k3 (fun _ h => h)
   exact ⟨rfl, ⟨cv4, xs4, k1⟩, show w4.heap[tb]? = w3.drew.heap[tb]? from fr_ty (hM3.later hd3) k3 (t := 163) ⟨_, hx3⟩ (by decide), (hT4.block HI.out.1.ty (by decide)).trans HI.out.1, hT4⟩)
  have HSD := Lib.hid (HSV.out w3.drew rfl (HI.out.1.later (hb3.trans (hd3.mono hb3.size))))
  have HX3 := Lib.hid hx3
  clear hV3 hb3 hM3 hx3 hn3 hs3 hd3 hT3
  go_upto_region 10 with fail
  go_region_held3 (fun w => w.cell? ⟨rb, 1, none⟩ = some (.pointer (some ⟨sb, 0, none⟩)) ∧ w.cell? ⟨tb, 0, none⟩ = some (.int .i64 4) ∧ w.cell? ⟨tb, 1, none⟩ = some (.int .i64 0) ∧ w.cell? ⟨tb, 2, none⟩ = some (.string ⟨#[112]⟩) ∧ w.cell? ⟨tb, 3, none⟩ = some (.slice (some ⟨g, 0, none⟩) 1 1))
   (first | (with_reducible exact HS4.out) | (with_reducible exact HSD.out))
   (first | (go_at_call 180; with_reducible refine HPU.out.mono ?_; rintro e w4 ⟨rfl, k1, k2, k3, k4⟩; have HS4 := Lib.hid (HSV.out w4 k2 k3); have HG4 := Lib.hid (And.intro k1 (And.intro k2 k4)); clear k1 k2 k3 k4))
  clear HPU HSD HS4 HSV
  obtain ⟨cv4, xs4, hs4⟩ := HG4.out.1
  have hR4 : RunAt w4 rb r := (HG4.out.2.2.block HI.out.1.ty (by decide)).trans HI.out.1
  have hC4 := HI.out.2.2.2.2.tf HG4.out.2.2 (by decide) (by decide)
  have hd4 := (Below.refl w4.heap.size w4).drew
  have HSV : Hid (∀ w, RunAt w rb r → ChAt Bn w hb A' c' (.slice (some ⟨gn, 0, none⟩) 2 cn) tried → w.cell? ⟨rb, 1, none⟩ = some (.pointer (some ⟨sb, 0, none⟩)) ∧ w.cell? ⟨hb, 4, none⟩ = some (.int .i64 0)) := Lib.hid fun w h1 h2 => ⟨by rw [h1.get 1, HZ.out.2.2]; rfl, h2.get 4⟩
  have HSD := Lib.hid (HSV.out w4.drew (hR4.later hd4) (hC4.later hd4))
  have HUF : Hid (Calls Tryz.prog 160 #[.pointer (some ⟨sb, 0, none⟩), .int .i64 (cs.length : Nat), .int .i64 0] w4.drew fun e w5 => e = .returned (.tuple #[.bool true, .int .i64 0]) ∧ (∃ cv bv xs tp, StAt sb 40000 w5 cv bv xs (boundC cs z) [(1, tp)]) ∧ (RunAt w5 rb r ∧ ChAt Bn w5 hb A' c' (.slice (some ⟨gn, 0, none⟩) 2 cn) tried ∧ w5.heap[tb]? = w3.heap[tb]?) ∧ TF unS u w5) := Lib.hid (by
   refine (unify_p (hs4.later hd4) HI.out.2.2.1).mono ?_
   rintro e w5 ⟨rfl, k1, k2⟩
   have hT : TF unS w4 w5 := (TF.of_below _ hd4).trans k2
   exact ⟨rfl, k1, ⟨(hT.block hR4.ty (by decide)).trans hR4, hC4.tf hT (by decide) (by decide), (hT.block (t := 163) ⟨_, HG4.out.2.1.trans HX3.out⟩ (by decide)).trans HG4.out.2.1⟩, (HG4.out.2.2.mono (by decide)).trans hT⟩)
  clear hs4 hR4 hC4 hd4
  go_upto_region 13 with fail
  go_region_held3 (fun w => w.cell? ⟨rb, 1, none⟩ = some (.pointer (some ⟨sb, 0, none⟩)) ∧ w.cell? ⟨hb, 4, none⟩ = some (.int .i64 0))
   (first | (with_reducible exact HS5.out) | (with_reducible exact HSD.out))
   (first | (go_at_call 160; with_reducible refine HUF.out.mono ?_; rintro e w5 ⟨rfl, k1, k2, k3⟩; have HS5 := Lib.hid (HSV.out w5 k2.1 k2.2.1); have HG5 := Lib.hid (And.intro k1 (And.intro k2.2.2 k3)); clear k1 k2 k3))
  clear HUF HSD HS5 HSV HG4
  have hx5 := HG5.out.2.1.trans HX3.out
  obtain ⟨-, ⟨b4, b5, b6, b7⟩, -, -, -⟩ := ten_at hx5
  clear hx5
  go_wp2_with fail
  refine (Kind_any w5 ⟨3, 0, [116, 114, 117, 101], none, 0, 0⟩ (by decide) (by decide)).mono ?_
  rintro e w6 ⟨rfl, hb6⟩
  rw [show kindF 3 [116, 114, 117, 101] 0 = 1 by decide +kernel]
  have HQ : Hid (P (.returned (.tuple #[.int .i64 (-1), .bool true, .int .i64 0])) w6) := Lib.hid (by
   rw [HP.out, ← HZ.out.1, ← HZ.out.2.2]
   obtain ⟨⟨cv5, bv5, xs5, tp, k1⟩, -, k2⟩ := HG5.out
   exact ⟨rfl, ⟨cv5, bv5, xs5, tp, k1.later hb6⟩, k2.later hb6⟩)
  clear hb6 HG5 b4 b5 b6 b7
  go_wp2_with fail
  exact HQ.out
end Go.Proofs.YtjdnigepnfeboaaGreatDoor
