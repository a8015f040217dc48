import Derived.Test.YtiffopheamnngaaGreatDoorJT20
namespace Go.Proofs.YtiffopheamnngaaGreatDoor
open Go.RowKit Go.Maps
set_option maxRecDepth 100000
set_option maxHeartbeats 8000000 in
theorem prim_pair91 {n : Nat} (hT : RTermC n) {E : RqE} {u : World} {nv : Value} {q : QS} (h : RqAt E u nv q false) (hn : E.ts.length - q.at' < n + 1) (most : Int) (t : Tok) (ht : t = peekF E.ts q.at') (R : Except Nat ((Tm × Int) × QS)) (hR : R = namedQ (opsQ E.es) E.ts (termQ (opsQ E.es) E.ts n) [91, 93] (peekF E.ts (q.at' + 1)).opn false most (q.go 2)) (hk : t.kind = 6) (q40 : isP E.ts q.at' 40 = false) (q91 : isP E.ts q.at' 91 = true) (qc : isP E.ts (q.at' + 1) 93 = true) :
    Calls Tryz.prog 66 #[.pointer (some ⟨E.rb, 0, none⟩), .int .i64 most] u fun e u' => RqPost E u nv R e u' := by
 obtain ⟨P, hP⟩ : ∃ P : Ending → World → Prop, P = fun e u' => RqPost E u nv R e u' := ⟨_, rfl⟩
 rw [← hP]
 have HP := Lib.hid hP
 have HA0 := Lib.hid h
 have hlt : t.kind ≠ 0 → q.at' < E.ts.length := fun h => peek_lt (by rw [← ht]; exact h)
 have HTK := Lib.hid ht
 have HR := Lib.hid hR
 have HT := Lib.hid hT
 have HN := Lib.hid hn
 clear ht hP hR h hT hn
 obtain ⟨k, ln, tn, st, op, ti⟩ := t
 simp only at HR hlt hk
 subst hk
 replace hlt := hlt (by decide)
 have hl2 := isP_lt qc
 have HL2 := Lib.hid hl2
 obtain ⟨y, hy⟩ : ∃ y, y = peekF E.ts (q.at' + 1) := ⟨_, rfl⟩
 rw [← hy] at HR
 have HY := Lib.hid hy
 clear hy hl2
 go_enter Tryz.func66, Tryz.ntmps66
 go_wp2_with fail
 refine (look_any (HA0.out.later ((Below.refl _ _).alloc (Nat.le_refl _) _))).mono ?_
 rintro e w1 ⟨rfl, hb1⟩
 rw [← HTK.out]
 simp only [tokW]
 obtain ⟨V, br, bt, hV, hbr, hbt, hPV⟩ := prim_pre HA0.out hb1 ⟨6, ln, tn, st, op, ti⟩
 have HV := Lib.hid hPV
 clear hPV hb1
 simp only at hV
 go_upto_region 3 with fail
 rw [← hV, ← hbr, ← hbt]
 clear hV hbr hbt
 obtain ⟨t0, t1, t2, t3, t4, t5, tf⟩ := six_at HV.out.tok
 simp only at t0 t1 t2 t3 t4 t5
 obtain ⟨⟨-, c1, -, -, -, c5⟩, cf⟩ := HV.out.at'.cells
 go_wp2_with fail
 refine (punctQ_any HV.out.at' 40).mono ?_
 rintro e w2 ⟨rfl, hb2⟩
 rw [q40]
 replace HV := Lib.hid (HV.out.later hb2)
 clear hb2 t0 t1 t2 t3 t4 t5 tf c1 c5 cf
 obtain ⟨V, rfl⟩ : ∃ V : World, V = w2 := ⟨_, rfl⟩
 obtain ⟨t0, t1, t2, t3, t4, t5, tf⟩ := six_at HV.out.tok
 simp only at t0 t1 t2 t3 t4 t5
 obtain ⟨⟨-, c1, -, -, -, c5⟩, cf⟩ := HV.out.at'.cells
 go_wp2_with fail
 refine (punctQ_any HV.out.at' 91).mono ?_
 rintro e w2 ⟨rfl, hb2⟩
 rw [q91]
 replace HV := Lib.hid (HV.out.later hb2)
 clear hb2 t0 t1 t2 t3 t4 t5 tf c1 c5 cf
 obtain ⟨V, rfl⟩ : ∃ V : World, V = w2 := ⟨_, rfl⟩
 obtain ⟨t0, t1, t2, t3, t4, t5, tf⟩ := six_at HV.out.tok
 simp only at t0 t1 t2 t3 t4 t5
 obtain ⟨⟨-, c1, -, -, -, c5⟩, cf⟩ := HV.out.at'.cells
 have hf := HV.out.at'.few
 have hwr : IntKind.i64.wrap ((q.at' : Int) + 1) = (q.at' : Int) + 1 := IntWalk.i64_in _ (by omega)
 obtain ⟨G, hG⟩ : ∃ G, G = V.setCell ⟨E.rb, 1, none⟩ (.int .i64 ((q.at' : Int) + 1)) := ⟨_, rfl⟩
 have HAG : Hid (RqAt E G nv (q.go 1) false) := Lib.hid (by rw [hG]; exact HV.out.at'.step hlt)
 have HFG : Hid (RqF E u nv G nv) := Lib.hid (by rw [hG]; exact HV.out.fr.set (.inl rfl) _)
 have HRG : Hid (G.heap[br]? = some (.cells #[.int .i64 0, .int .i64 0, .string ⟨#[]⟩, .slice none 0 0] 34 (0, 0))) := Lib.hid (by rw [hG, Below.heap_setCell _ _ _ _ (by have := HV.out.rb; show br ≠ E.rb; omega)]; exact HV.out.res)
 have HTG : Hid (G.heap[bt]? = some (.cells #[.int .i64 6, .int .i64 ln, .int .i64 tn, .string ⟨st.toArray⟩, .bool op, .bool ti] 48 (0, 0))) := Lib.hid (by rw [hG, Below.heap_setCell _ _ _ _ (by have := HV.out.rb; have := HV.out.lt; show bt ≠ E.rb; omega)]; exact HV.out.tok)
 clear hf
 go_upto_region 27 with fail
 rw [← hG]
 clear hG t0 t1 t2 t3 t4 t5 tf c1 c5 cf
 obtain ⟨t0, t1, t2, t3, t4, t5, tf⟩ := six_at HTG.out
 obtain ⟨⟨-, c1, -, -, -, c5⟩, cf⟩ := HAG.out.cells
 go_wp2_with fail
 refine (punctQ_any HAG.out 93).mono ?_
 rintro e w2 ⟨rfl, hb2⟩
 rw [show (q.go 1).at' = q.at' + 1 from rfl, qc]
 replace HAG := Lib.hid (HAG.out.later hb2)
 replace HFG := Lib.hid (HFG.out.below hb2)
 replace HRG := Lib.hid ((hb2.block br (Array.getElem?_eq_some_iff.1 HRG.out).1).trans HRG.out)
 replace HTG := Lib.hid ((hb2.block bt (Array.getElem?_eq_some_iff.1 HTG.out).1).trans HTG.out)
 clear hb2 t0 t1 t2 t3 t4 t5 tf c1 c5 cf
 obtain ⟨G, rfl⟩ : ∃ G : World, G = w2 := ⟨_, rfl⟩
 obtain ⟨t0, t1, t2, t3, t4, t5, tf⟩ := six_at HTG.out
 obtain ⟨⟨-, c1, -, -, -, c5⟩, cf⟩ := HAG.out.cells
 go_wp2_with fail
 refine (look_any HAG.out).mono ?_
 rintro e w2 ⟨rfl, hb2⟩
 rw [show (q.go 1).at' = q.at' + 1 from rfl, ← HY.out]
 simp only [tokW]
 have hO := tok_opn y.kind y.line y.n ⟨y.s.toArray⟩ y.opn y.tight w2
 replace HAG := Lib.hid (HAG.out.later hb2)
 replace HFG := Lib.hid (HFG.out.below hb2)
 replace HRG := Lib.hid ((hb2.block br (Array.getElem?_eq_some_iff.1 HRG.out).1).trans HRG.out)
 clear hb2 t0 t1 t2 t3 t4 t5 tf c1 c5 cf
 obtain ⟨⟨-, c1, -, -, -, c5⟩, cf⟩ := HAG.out.cells
 have hwr2 : IntKind.i64.wrap (((q.go 1).at' : Int) + 1) = ((q.go 1).at' : Int) + 1 := IntWalk.i64_in _ (by have := HL2.out; have := HA0.out.few; simp only [QS.go]; omega)
 obtain ⟨G2, hG2⟩ : ∃ G, G = w2.setCell ⟨E.rb, 1, none⟩ (.int .i64 (((q.go 1).at' : Int) + 1)) := ⟨_, rfl⟩
 have HA2 : Hid (RqAt E G2 nv (q.go 2) false) := Lib.hid (by rw [hG2]; exact HAG.out.step HL2.out)
 have HF2 : Hid (RqF E u nv G2 nv) := Lib.hid (by rw [hG2]; exact HFG.out.set (.inl rfl) _)
 have HR2 : Hid (G2.heap[br]? = some (.cells #[.int .i64 0, .int .i64 0, .string ⟨#[]⟩, .slice none 0 0] 34 (0, 0))) := Lib.hid (by rw [hG2, Below.heap_setCell _ _ _ _ (by have := HV.out.rb; show br ≠ E.rb; omega)]; exact HRG.out)
 go_upto_region 30 with fail
 rw [← hG2]
 clear hG2 hO
 go_wp2_with fail
 refine (namedAny HT.out HA2.out (by have := HN.out; have := HL2.out; simp only [QS.go]; omega) [91, 93] (by decide) y.opn false most).mono ?_
 rintro e w3 ⟨x, t9, p, nv3, q3, bad3, rfl, hA3, hF3, ht3, hs3⟩
 rw [tvQ_lit]
 have hbl : br < G2.heap.size := (Array.getElem?_eq_some_iff.1 HR2.out).1
 have HA3 := Lib.hid hA3
 have HF3 := Lib.hid (HF2.out.trans hF3)
 have HR3 := Lib.hid (hF3.box HA2.out HR2.out (by decide) (by decide))
 have HT3 := Lib.hid ht3
 have HS3 : Hid (Says R bad3 (t9, p) q3) := Lib.hid (by rw [HR.out]; exact hs3)
 have HBL := Lib.hid hbl
 clear hA3 hF3 ht3 hs3 hbl c1 c5 cf
 have HFIN := Lib.hid (fin_post (res := R) (p := p) HA3.out HF3.out HV.out.ge HV.out.rb HR3.out HT3.out HBL.out HS3.out)
 have HC4 := Lib.hid (blk_set4 HR3.out rfl (.int .i64 x.k) (.int .i64 x.n) (.string ⟨x.s.toArray⟩) (.slice x.A x.len x.cap))
 obtain ⟨r0, r1, r2, r3, rf⟩ := four_at HR3.out
 go_wp2_with fail
 obtain ⟨z0, z1, z2, z3, -⟩ := four_at HC4.out
 refine ⟨rfl, .tuple #[.agg #[.int .i64 x.k, .int .i64 x.n, .string ⟨x.s.toArray⟩, .slice x.A x.len x.cap], .int .i64 p], by simp [results, Tryz.results66, go_sem, z0, z1, z2, z3], ?_⟩
 rw [HP.out]
 exact HFIN.out
set_option maxHeartbeats 8000000 in
theorem prim_pair123 {n : Nat} (hT : RTermC n) {E : RqE} {u : World} {nv : Value} {q : QS} (h : RqAt E u nv q false) (hn : E.ts.length - q.at' < n + 1) (most : Int) (t : Tok) (ht : t = peekF E.ts q.at') (R : Except Nat ((Tm × Int) × QS)) (hR : R = namedQ (opsQ E.es) E.ts (termQ (opsQ E.es) E.ts n) [123, 125] (peekF E.ts (q.at' + 1)).opn false most (q.go 2)) (hk : t.kind = 6) (q40 : isP E.ts q.at' 40 = false) (q91 : isP E.ts q.at' 91 = false) (q123 : isP E.ts q.at' 123 = true) (qc : isP E.ts (q.at' + 1) 125 = true) :
    Calls Tryz.prog 66 #[.pointer (some ⟨E.rb, 0, none⟩), .int .i64 most] u fun e u' => RqPost E u nv R e u' := by
 obtain ⟨P, hP⟩ : ∃ P : Ending → World → Prop, P = fun e u' => RqPost E u nv R e u' := ⟨_, rfl⟩
 rw [← hP]
 have HP := Lib.hid hP
 have HA0 := Lib.hid h
 have hlt : t.kind ≠ 0 → q.at' < E.ts.length := fun h => peek_lt (by rw [← ht]; exact h)
 have HTK := Lib.hid ht
 have HR := Lib.hid hR
 have HT := Lib.hid hT
 have HN := Lib.hid hn
 clear ht hP hR h hT hn
 obtain ⟨k, ln, tn, st, op, ti⟩ := t
 simp only at HR hlt hk
 subst hk
 replace hlt := hlt (by decide)
 have hl2 := isP_lt qc
 have HL2 := Lib.hid hl2
 obtain ⟨y, hy⟩ : ∃ y, y = peekF E.ts (q.at' + 1) := ⟨_, rfl⟩
 rw [← hy] at HR
 have HY := Lib.hid hy
 clear hy hl2
 go_enter Tryz.func66, Tryz.ntmps66
 go_wp2_with fail
 refine (look_any (HA0.out.later ((Below.refl _ _).alloc (Nat.le_refl _) _))).mono ?_
 rintro e w1 ⟨rfl, hb1⟩
 rw [← HTK.out]
 simp only [tokW]
 obtain ⟨V, br, bt, hV, hbr, hbt, hPV⟩ := prim_pre HA0.out hb1 ⟨6, ln, tn, st, op, ti⟩
 have HV := Lib.hid hPV
 clear hPV hb1
 simp only at hV
 go_upto_region 3 with fail
 rw [← hV, ← hbr, ← hbt]
 clear hV hbr hbt
 obtain ⟨t0, t1, t2, t3, t4, t5, tf⟩ := six_at HV.out.tok
 simp only at t0 t1 t2 t3 t4 t5
 obtain ⟨⟨-, c1, -, -, -, c5⟩, cf⟩ := HV.out.at'.cells
 go_wp2_with fail
 refine (punctQ_any HV.out.at' 40).mono ?_
 rintro e w2 ⟨rfl, hb2⟩
 rw [q40]
 replace HV := Lib.hid (HV.out.later hb2)
 clear hb2 t0 t1 t2 t3 t4 t5 tf c1 c5 cf
 obtain ⟨V, rfl⟩ : ∃ V : World, V = w2 := ⟨_, rfl⟩
 obtain ⟨t0, t1, t2, t3, t4, t5, tf⟩ := six_at HV.out.tok
 simp only at t0 t1 t2 t3 t4 t5
 obtain ⟨⟨-, c1, -, -, -, c5⟩, cf⟩ := HV.out.at'.cells
 go_wp2_with fail
 refine (punctQ_any HV.out.at' 91).mono ?_
 rintro e w2 ⟨rfl, hb2⟩
 rw [q91]
 replace HV := Lib.hid (HV.out.later hb2)
 clear hb2 t0 t1 t2 t3 t4 t5 tf c1 c5 cf
 obtain ⟨V, rfl⟩ : ∃ V : World, V = w2 := ⟨_, rfl⟩
 obtain ⟨t0, t1, t2, t3, t4, t5, tf⟩ := six_at HV.out.tok
 simp only at t0 t1 t2 t3 t4 t5
 obtain ⟨⟨-, c1, -, -, -, c5⟩, cf⟩ := HV.out.at'.cells
 go_wp2_with fail
 refine (punctQ_any HV.out.at' 123).mono ?_
 rintro e w2 ⟨rfl, hb2⟩
 rw [q123]
 replace HV := Lib.hid (HV.out.later hb2)
 clear hb2 t0 t1 t2 t3 t4 t5 tf c1 c5 cf
 obtain ⟨V, rfl⟩ : ∃ V : World, V = w2 := ⟨_, rfl⟩
 obtain ⟨t0, t1, t2, t3, t4, t5, tf⟩ := six_at HV.out.tok
 simp only at t0 t1 t2 t3 t4 t5
 obtain ⟨⟨-, c1, -, -, -, c5⟩, cf⟩ := HV.out.at'.cells
 have hf := HV.out.at'.few
 have hwr : IntKind.i64.wrap ((q.at' : Int) + 1) = (q.at' : Int) + 1 := IntWalk.i64_in _ (by omega)
 obtain ⟨G, hG⟩ : ∃ G, G = V.setCell ⟨E.rb, 1, none⟩ (.int .i64 ((q.at' : Int) + 1)) := ⟨_, rfl⟩
 have HAG : Hid (RqAt E G nv (q.go 1) false) := Lib.hid (by rw [hG]; exact HV.out.at'.step hlt)
 have HFG : Hid (RqF E u nv G nv) := Lib.hid (by rw [hG]; exact HV.out.fr.set (.inl rfl) _)
 have HRG : Hid (G.heap[br]? = some (.cells #[.int .i64 0, .int .i64 0, .string ⟨#[]⟩, .slice none 0 0] 34 (0, 0))) := Lib.hid (by rw [hG, Below.heap_setCell _ _ _ _ (by have := HV.out.rb; show br ≠ E.rb; omega)]; exact HV.out.res)
 have HTG : Hid (G.heap[bt]? = some (.cells #[.int .i64 6, .int .i64 ln, .int .i64 tn, .string ⟨st.toArray⟩, .bool op, .bool ti] 48 (0, 0))) := Lib.hid (by rw [hG, Below.heap_setCell _ _ _ _ (by have := HV.out.rb; have := HV.out.lt; show bt ≠ E.rb; omega)]; exact HV.out.tok)
 clear hf
 go_upto_region 40 with fail
 rw [← hG]
 clear hG t0 t1 t2 t3 t4 t5 tf c1 c5 cf
 obtain ⟨t0, t1, t2, t3, t4, t5, tf⟩ := six_at HTG.out
 obtain ⟨⟨-, c1, -, -, -, c5⟩, cf⟩ := HAG.out.cells
 go_wp2_with fail
 refine (punctQ_any HAG.out 125).mono ?_
 rintro e w2 ⟨rfl, hb2⟩
 rw [show (q.go 1).at' = q.at' + 1 from rfl, qc]
 replace HAG := Lib.hid (HAG.out.later hb2)
 replace HFG := Lib.hid (HFG.out.below hb2)
 replace HRG := Lib.hid ((hb2.block br (Array.getElem?_eq_some_iff.1 HRG.out).1).trans HRG.out)
 replace HTG := Lib.hid ((hb2.block bt (Array.getElem?_eq_some_iff.1 HTG.out).1).trans HTG.out)
 clear hb2 t0 t1 t2 t3 t4 t5 tf c1 c5 cf
 obtain ⟨G, rfl⟩ : ∃ G : World, G = w2 := ⟨_, rfl⟩
 obtain ⟨t0, t1, t2, t3, t4, t5, tf⟩ := six_at HTG.out
 obtain ⟨⟨-, c1, -, -, -, c5⟩, cf⟩ := HAG.out.cells
 go_wp2_with fail
 refine (look_any HAG.out).mono ?_
 rintro e w2 ⟨rfl, hb2⟩
 rw [show (q.go 1).at' = q.at' + 1 from rfl, ← HY.out]
 simp only [tokW]
 have hO := tok_opn y.kind y.line y.n ⟨y.s.toArray⟩ y.opn y.tight w2
 replace HAG := Lib.hid (HAG.out.later hb2)
 replace HFG := Lib.hid (HFG.out.below hb2)
 replace HRG := Lib.hid ((hb2.block br (Array.getElem?_eq_some_iff.1 HRG.out).1).trans HRG.out)
 clear hb2 t0 t1 t2 t3 t4 t5 tf c1 c5 cf
 obtain ⟨⟨-, c1, -, -, -, c5⟩, cf⟩ := HAG.out.cells
 have hwr2 : IntKind.i64.wrap (((q.go 1).at' : Int) + 1) = ((q.go 1).at' : Int) + 1 := IntWalk.i64_in _ (by have := HL2.out; have := HA0.out.few; simp only [QS.go]; omega)
 obtain ⟨G2, hG2⟩ : ∃ G, G = w2.setCell ⟨E.rb, 1, none⟩ (.int .i64 (((q.go 1).at' : Int) + 1)) := ⟨_, rfl⟩
 have HA2 : Hid (RqAt E G2 nv (q.go 2) false) := Lib.hid (by rw [hG2]; exact HAG.out.step HL2.out)
 have HF2 : Hid (RqF E u nv G2 nv) := Lib.hid (by rw [hG2]; exact HFG.out.set (.inl rfl) _)
 have HR2 : Hid (G2.heap[br]? = some (.cells #[.int .i64 0, .int .i64 0, .string ⟨#[]⟩, .slice none 0 0] 34 (0, 0))) := Lib.hid (by rw [hG2, Below.heap_setCell _ _ _ _ (by have := HV.out.rb; show br ≠ E.rb; omega)]; exact HRG.out)
 go_upto_region 43 with fail
 rw [← hG2]
 clear hG2 hO
 go_wp2_with fail
 refine (namedAny HT.out HA2.out (by have := HN.out; have := HL2.out; simp only [QS.go]; omega) [123, 125] (by decide) y.opn false most).mono ?_
 rintro e w3 ⟨x, t9, p, nv3, q3, bad3, rfl, hA3, hF3, ht3, hs3⟩
 rw [tvQ_lit]
 have hbl : br < G2.heap.size := (Array.getElem?_eq_some_iff.1 HR2.out).1
 have HA3 := Lib.hid hA3
 have HF3 := Lib.hid (HF2.out.trans hF3)
 have HR3 := Lib.hid (hF3.box HA2.out HR2.out (by decide) (by decide))
 have HT3 := Lib.hid ht3
 have HS3 : Hid (Says R bad3 (t9, p) q3) := Lib.hid (by rw [HR.out]; exact hs3)
 have HBL := Lib.hid hbl
 clear hA3 hF3 ht3 hs3 hbl c1 c5 cf
 have HFIN := Lib.hid (fin_post (res := R) (p := p) HA3.out HF3.out HV.out.ge HV.out.rb HR3.out HT3.out HBL.out HS3.out)
 have HC4 := Lib.hid (blk_set4 HR3.out rfl (.int .i64 x.k) (.int .i64 x.n) (.string ⟨x.s.toArray⟩) (.slice x.A x.len x.cap))
 obtain ⟨r0, r1, r2, r3, rf⟩ := four_at HR3.out
 go_wp2_with fail
 obtain ⟨z0, z1, z2, z3, -⟩ := four_at HC4.out
 refine ⟨rfl, .tuple #[.agg #[.int .i64 x.k, .int .i64 x.n, .string ⟨x.s.toArray⟩, .slice x.A x.len x.cap], .int .i64 p], by simp [results, Tryz.results66, go_sem, z0, z1, z2, z3], ?_⟩
 rw [HP.out]
 exact HFIN.out
structure ItemsAt (s bb : Nat) (w : World) (v : Value) (xs : List TV) (l : List Tm) : Prop where
 row : Row w s 34 4 encTV v xs
 tms : TermsS w (NewX s w (· ∈ [bb])) xs l
 lt : ∀ k, v.ownBlock = some k → k < bb
section
variable {E : RqE} {w w' : World} {nv nv' : Value} {q : QS} {bad : Bool} {s bb : Nat} {v : Value} {xs : List TV} {l : List Tm}
theorem ItemsAt.step (h : ItemsAt s bb w v xs l) (hF : RqF E w nv w' nv') (hA : RqAt E w nv q bad) : ItemsAt s bb w' v xs l :=
 ⟨h.row.keep fun k hk => by
  obtain ⟨cs, h1⟩ := h.row.tyq hk
  exact (hF.box hA h1 (by decide) (by decide)).trans h1.symm, h.tms.go' (NewX.step hF hA), h.lt⟩
theorem ItemsAt.below (h : ItemsAt s bb w v xs l) (hb : Below w.heap.size w w') : ItemsAt s bb w' v xs l := ⟨h.row.later hb, h.tms.go' (NewX.below hb), h.lt⟩
theorem ItemsAt.set (h : ItemsAt s bb w v xs l) {p : Addr} (hp : p.block = bb ∨ p.block < s) (x : Value) : ItemsAt s bb (w.setCell p x) v xs l :=
 ⟨h.row.away _ fun k hk => by
  have h1 := h.lt k hk
  have h2 := (h.row.lt k hk).1
  show k ≠ p.block
  omega, h.tms.go' (NewX.set _ (hp.imp (fun e => by rw [e]; simp) id)), h.lt⟩
end
theorem ItemsAt.made {s : Nat} {w B : World} {v : Value} {xs : List TV} {l : List Tm} (hrow : Row w s 34 4 encTV v xs) (htm : TermsS w (NewX s w fun b => v.ownBlock = some b) xs l) (hb : Below w.heap.size w B) : ItemsAt s w.heap.size B v xs l :=
 ⟨hrow.later hb, htm.go' fun b hb' => by
  have h1 := hb.block b hb'.2.1.lt
  refine ⟨⟨hb'.1, hb'.2.1.keep h1, fun e => ?_⟩, h1⟩
  have e := List.mem_singleton.1 e
  have := hb'.2.1.lt
  omega, fun k hk => (hrow.lt k hk).2⟩
set_option maxHeartbeats 8000000 in
theorem prim_list {n : Nat} (hT : RTermC n) {E : RqE} {u : World} {nv : Value} {q : QS} (h : RqAt E u nv q false) (hn : E.ts.length - q.at' < n + 1) (most : Int) (t : Tok) (ht : t = peekF E.ts q.at') (R : Except Nat ((Tm × Int) × QS)) (hR : R = listQ E.ts (termQ (opsQ E.es) E.ts n) q) (hk : t.kind = 6) (q40 : isP E.ts q.at' 40 = false) (q91 : isP E.ts q.at' 91 = true) (q93 : isP E.ts (q.at' + 1) 93 = false) :
    Calls Tryz.prog 66 #[.pointer (some ⟨E.rb, 0, none⟩), .int .i64 most] u fun e u' => RqPost E u nv R e u' := by
 obtain ⟨P, hP⟩ : ∃ P : Ending → World → Prop, P = fun e u' => RqPost E u nv R e u' := ⟨_, rfl⟩
 rw [← hP]
 have HP := Lib.hid hP
 have HA0 := Lib.hid h
 have hlt : t.kind ≠ 0 → q.at' < E.ts.length := fun h => peek_lt (by rw [← ht]; exact h)
 have HTK := Lib.hid ht
 have HR := Lib.hid hR
 have HT := Lib.hid hT
 have HN := Lib.hid hn
 clear ht hP hR h hT hn
 obtain ⟨k, ln, tn, st, op, ti⟩ := t
 simp only at HR hlt hk
 subst hk
 replace hlt := hlt (by decide)
 go_enter Tryz.func66, Tryz.ntmps66
 go_wp2_with fail
 refine (look_any (HA0.out.later ((Below.refl _ _).alloc (Nat.le_refl _) _))).mono ?_
 rintro e w1 ⟨rfl, hb1⟩
 rw [← HTK.out]
 simp only [tokW]
 obtain ⟨V, br, bt, hV, hbr, hbt, hPV⟩ := prim_pre HA0.out hb1 ⟨6, ln, tn, st, op, ti⟩
 have HV := Lib.hid hPV
 clear hPV hb1
 simp only at hV
 go_upto_region 3 with fail
 rw [← hV, ← hbr, ← hbt]
 clear hV hbr hbt
 obtain ⟨t0, t1, t2, t3, t4, t5, tf⟩ := six_at HV.out.tok
 simp only at t0 t1 t2 t3 t4 t5
 obtain ⟨⟨-, c1, -, -, -, c5⟩, cf⟩ := HV.out.at'.cells
 go_wp2_with fail
 refine (punctQ_any HV.out.at' 40).mono ?_
 rintro e w2 ⟨rfl, hb2⟩
 rw [q40]
 replace HV := Lib.hid (HV.out.later hb2)
 clear hb2 t0 t1 t2 t3 t4 t5 tf c1 c5 cf
 obtain ⟨V, rfl⟩ : ∃ V : World, V = w2 := ⟨_, rfl⟩
 obtain ⟨t0, t1, t2, t3, t4, t5, tf⟩ := six_at HV.out.tok
 simp only at t0 t1 t2 t3 t4 t5
 obtain ⟨⟨-, c1, -, -, -, c5⟩, cf⟩ := HV.out.at'.cells
 go_wp2_with fail
 refine (punctQ_any HV.out.at' 91).mono ?_
 rintro e w2 ⟨rfl, hb2⟩
 rw [q91]
 replace HV := Lib.hid (HV.out.later hb2)
 clear hb2 t0 t1 t2 t3 t4 t5 tf c1 c5 cf
 obtain ⟨V, rfl⟩ : ∃ V : World, V = w2 := ⟨_, rfl⟩
 obtain ⟨t0, t1, t2, t3, t4, t5, tf⟩ := six_at HV.out.tok
 simp only at t0 t1 t2 t3 t4 t5
 obtain ⟨⟨-, c1, -, -, -, c5⟩, cf⟩ := HV.out.at'.cells
 have hf := HV.out.at'.few
 have hwr : IntKind.i64.wrap ((q.at' : Int) + 1) = (q.at' : Int) + 1 := IntWalk.i64_in _ (by omega)
 obtain ⟨G, hG⟩ : ∃ G, G = V.setCell ⟨E.rb, 1, none⟩ (.int .i64 ((q.at' : Int) + 1)) := ⟨_, rfl⟩
 have HAG : Hid (RqAt E G nv (q.go 1) false) := Lib.hid (by rw [hG]; exact HV.out.at'.step hlt)
 have HFG : Hid (RqF E u nv G nv) := Lib.hid (by rw [hG]; exact HV.out.fr.set (.inl rfl) _)
 have HRG : Hid (G.heap[br]? = some (.cells #[.int .i64 0, .int .i64 0, .string ⟨#[]⟩, .slice none 0 0] 34 (0, 0))) := Lib.hid (by rw [hG, Below.heap_setCell _ _ _ _ (by have := HV.out.rb; show br ≠ E.rb; omega)]; exact HV.out.res)
 have HTG : Hid (G.heap[bt]? = some (.cells #[.int .i64 6, .int .i64 ln, .int .i64 tn, .string ⟨st.toArray⟩, .bool op, .bool ti] 48 (0, 0))) := Lib.hid (by rw [hG, Below.heap_setCell _ _ _ _ (by have := HV.out.rb; have := HV.out.lt; show bt ≠ E.rb; omega)]; exact HV.out.tok)
 clear hf
 go_upto_region 27 with fail
 rw [← hG]
 clear hG t0 t1 t2 t3 t4 t5 tf c1 c5 cf
 obtain ⟨t0, t1, t2, t3, t4, t5, tf⟩ := six_at HTG.out
 obtain ⟨⟨-, c1, -, -, -, c5⟩, cf⟩ := HAG.out.cells
 go_wp2_with fail
 refine (punctQ_any HAG.out 93).mono ?_
 rintro e w2 ⟨rfl, hb2⟩
 rw [show (q.go 1).at' = q.at' + 1 from rfl, q93]
 replace HAG := Lib.hid (HAG.out.later hb2)
 replace HFG := Lib.hid (HFG.out.below hb2)
 replace HRG := Lib.hid ((hb2.block br (Array.getElem?_eq_some_iff.1 HRG.out).1).trans HRG.out)
 replace HTG := Lib.hid ((hb2.block bt (Array.getElem?_eq_some_iff.1 HTG.out).1).trans HTG.out)
 clear hb2 t0 t1 t2 t3 t4 t5 tf c1 c5 cf
 obtain ⟨G, rfl⟩ : ∃ G : World, G = w2 := ⟨_, rfl⟩
 obtain ⟨t0, t1, t2, t3, t4, t5, tf⟩ := six_at HTG.out
 obtain ⟨⟨-, c1, -, -, -, c5⟩, cf⟩ := HAG.out.cells
 go_wp2_with fail
 refine (args_any HT.out E G nv (q.go 1) HAG.out (by have := HN.out; simp only [QS.go]; omega)).mono ?_
 rintro e w2 ⟨v, xs, l, nv2, q2, bad2, rfl, hA2, hF2, hrow, htm, hfew, hs⟩
 obtain ⟨Av, cv, rfl⟩ := hrow.shape
 obtain ⟨B, hB⟩ : ∃ V, V = w2.alloc (.cells #[.int .i64 3, .int .i64 0, .string ⟨#[91, 93]⟩, .slice none 0 0] 34) := ⟨_, rfl⟩
 obtain ⟨bb, hbb⟩ : ∃ b, b = w2.heap.size := ⟨_, rfl⟩
 have hbB : Below w2.heap.size w2 B := by rw [hB]; exact (Below.refl _ _).alloc (Nat.le_refl _) _
 have HXB : Hid (B.heap[bb]? = some (.cells #[.int .i64 3, .int .i64 0, .string ⟨#[91, 93]⟩, .slice none 0 0] 34 (0, 0))) := Lib.hid (by rw [hB, hbb]; exact heap_alloc_new _ _)
 have hbl : br < G.heap.size := (Array.getElem?_eq_some_iff.1 HRG.out).1
 have HBL := Lib.hid hbl
 have HA2 := Lib.hid (hA2.later hbB)
 have HF2 := Lib.hid ((HFG.out.trans hF2).below hbB)
 have HR2 := Lib.hid ((hbB.block br (by have := hF2.size; omega)).trans (hF2.box HAG.out HRG.out (by decide) (by decide)))
 have HIT : Hid (ItemsAt G.heap.size bb B (.slice Av xs.length cv) xs l) := Lib.hid (by rw [hbb]; exact ItemsAt.made hrow htm hbB)
 have HSZ : Hid (G.heap.size ≤ bb ∧ G.heap.size ≤ B.heap.size) := Lib.hid ⟨by rw [hbb]; exact hF2.size, Nat.le_trans hF2.size hbB.size⟩
 have HFW := Lib.hid hfew
 have HS := Lib.hid hs
 clear hA2 hF2 hrow htm hfew hs hbB hbl t0 t1 t2 t3 t4 t5 tf c1 c5 cf
 go_upto_region 33 with fail
 rw [← hB, ← hbb]
 clear hB hbb
 obtain ⟨⟨-, c1, -, -, -, c5⟩, cf⟩ := HA2.out.cells
 obtain ⟨y0, y1, y2, y3, yf⟩ := four_at HXB.out
 cases bad2 with
 | true =>
  go_wp2_with fail
  obtain ⟨x, hx⟩ : ∃ x : TV, x = ⟨3, 0, [91, 93], none, 0, 0⟩ := ⟨_, rfl⟩
  have HXX : Hid (B.heap[bb]? = some (.cells #[.int .i64 x.k, .int .i64 x.n, .string ⟨x.s.toArray⟩, .slice x.A x.len x.cap] 34 (0, 0))) := Lib.hid (by rw [hx]; exact HXB.out)
  have HTB : Hid (TermS B (NewX G.heap.size B (· ∈ [bb])) x nilT) := Lib.hid (by rw [hx]; exact TermS.leaf _ _ 3 0 [91, 93] none 0 (by decide))
  clear hx y0 y1 y2 y3 yf c1 c5 cf
  refine (need_bad HA2.out 93).mono ?_
  rintro e w5 ⟨rfl, hb5⟩
  have HA5 := Lib.hid (HA2.out.later hb5)
  have HF5 := Lib.hid (HF2.out.below hb5)
  have HR5 := Lib.hid ((hb5.block br (Array.getElem?_eq_some_iff.1 HR2.out).1).trans HR2.out)
  have HX5 := Lib.hid ((hb5.block bb (Array.getElem?_eq_some_iff.1 HXX.out).1).trans HXX.out)
  have HIT5 := Lib.hid (HIT.out.below hb5)
  have HTL5 := Lib.hid (HTB.out.go' (NewX.below hb5))
  have HSZ5 := Lib.hid (Nat.le_trans HSZ.out.2 hb5.size)
  have HS5 : Hid (Says R true (listT l nilT, (0 : Int)) q2) := Lib.hid (by
   have h1 := HS.out
   rw [HR.out]
   unfold listQ
   cases hx : argsQ E.ts (termQ (opsQ E.es) E.ts n) (E.ts.length + 1) (q.go 1) [] with
   | error a => rw [hx] at h1; exact h1
   | ok r => rw [hx] at h1; exact absurd h1.1 (by decide))
  clear hb5
  obtain ⟨y0, y1, y2, y3, yf⟩ := four_at HX5.out
  have hl := rlist_new w5 G.heap.size (HSZ5.out) [bb] (fun k hk => by rw [List.mem_singleton.1 hk]; exact (Array.getElem?_eq_some_iff.1 HX5.out).1) Av xs.length cv xs l (SlTerms.row HIT5.out.row) HIT5.out.tms x nilT HTL5.out (by have := HFW.out; omega)
  rw [tvQ_lit] at hl
  have HL := Lib.hid hl
  clear hl
  go_wp2_with fail
  refine HL.out.mono ?_
  rintro e w6 ⟨z, rfl, hz, hb6⟩
  rw [tvQ_lit]
  have HA6 := Lib.hid (HA5.out.later hb6)
  have HF6 := Lib.hid (HF5.out.below hb6)
  have HR6 := Lib.hid ((hb6.block br (Array.getElem?_eq_some_iff.1 HR5.out).1).trans HR5.out)
  have HT6 : Hid (TermS w6 (NewT G.heap.size w6) z (listT l nilT)) := Lib.hid (hz.keep (fun b hb => ⟨hb.1, hb.2.1, fun h => h⟩) fun _ _ => rfl)
  clear hz hb6 y0 y1 y2 y3 yf
  have HFIN := Lib.hid (fin_post (res := R) (p := 0) HA6.out HF6.out HV.out.ge HV.out.rb HR6.out HT6.out HBL.out HS5.out)
  have HC4 := Lib.hid (blk_set4 HR6.out rfl (.int .i64 z.k) (.int .i64 z.n) (.string ⟨z.s.toArray⟩) (.slice z.A z.len z.cap))
  obtain ⟨r0, r1, r2, r3, rf⟩ := four_at HR6.out
  go_wp2_with fail
  obtain ⟨z0, z1, z2, z3, -⟩ := four_at HC4.out
  refine ⟨rfl, .tuple #[.agg #[.int .i64 z.k, .int .i64 z.n, .string ⟨z.s.toArray⟩, .slice z.A z.len z.cap], .int .i64 0], by simp [results, Tryz.results66, go_sem, z0, z1, z2, z3], ?_⟩
  rw [HP.out]
  exact HFIN.out
 | false =>
  have HOK : Hid (argsQ E.ts (termQ (opsQ E.es) E.ts n) (E.ts.length + 1) (q.go 1) [] = .ok (l, q2)) := Lib.hid (by
   have h1 := HS.out
   cases hx : argsQ E.ts (termQ (opsQ E.es) E.ts n) (E.ts.length + 1) (q.go 1) [] with
   | error a => rw [hx] at h1; exact absurd h1.1 (by decide)
   | ok r => rw [hx] at h1; rw [h1.2])
  have hr := HR.out
  unfold listQ at hr
  rw [HOK.out] at hr
  dsimp only at hr
  go_wp2_with fail
  refine (punctQ_any HA2.out 124).mono ?_
  rintro e w3 ⟨rfl, hb3⟩
  have HA3 := Lib.hid (HA2.out.later hb3)
  have HF3 := Lib.hid (HF2.out.below hb3)
  have HR3 := Lib.hid ((hb3.block br (Array.getElem?_eq_some_iff.1 HR2.out).1).trans HR2.out)
  have HX3 := Lib.hid ((hb3.block bb (Array.getElem?_eq_some_iff.1 HXB.out).1).trans HXB.out)
  have HIT3 := Lib.hid (HIT.out.below hb3)
  have HSZ3 : Hid (G.heap.size ≤ w3.heap.size) := Lib.hid (Nat.le_trans HSZ.out.2 hb3.size)
  clear hb3 y0 y1 y2 y3 yf c1 c5 cf
  obtain ⟨⟨-, c1, -, -, -, c5⟩, cf⟩ := HA3.out.cells
  cases hq : isP E.ts q2.at' 124 with
  | false =>
   rw [hq, if_neg (by decide)] at hr
   have HRR := Lib.hid hr
   go_wp2_with fail
   obtain ⟨x, hx⟩ : ∃ x : TV, x = ⟨3, 0, [91, 93], none, 0, 0⟩ := ⟨_, rfl⟩
   have HXX : Hid (w3.heap[bb]? = some (.cells #[.int .i64 x.k, .int .i64 x.n, .string ⟨x.s.toArray⟩, .slice x.A x.len x.cap] 34 (0, 0))) := Lib.hid (by rw [hx]; exact HX3.out)
   have HTB : Hid (TermS w3 (NewX G.heap.size w3 (· ∈ [bb])) x nilT) := Lib.hid (by rw [hx]; exact TermS.leaf _ _ 3 0 [91, 93] none 0 (by decide))
   clear hx hr c1 c5 cf
   refine (need_any HA3.out 93).mono ?_
   rintro e w5 ⟨rfl, hF5, h5⟩
   have HF5 := Lib.hid (HF3.out.trans hF5)
   have HR5 := Lib.hid (hF5.box HA3.out HR3.out (by decide) (by decide))
   have HX5 := Lib.hid (hF5.box HA3.out HXX.out (by decide) (by decide))
   have HIT5 := Lib.hid (HIT3.out.step hF5 HA3.out)
   have HTL5 := Lib.hid (HTB.out.go' (NewX.step hF5 HA3.out))
   have HSZ5 := Lib.hid (Nat.le_trans HSZ3.out hF5.size)
   have HRES : Hid (∃ b5 q5, RqAt E w5 nv2 q5 b5 ∧ Says R b5 (listT l nilT, (0 : Int)) q5) := Lib.hid (by
    have h6 := HRR.out
    unfold needQ at h6
    cases hq2 : isP E.ts q2.at' 93 with
    | true => rw [hq2, if_pos rfl] at h5 h6; exact ⟨_, _, h5, by rw [h6]; exact ⟨rfl, rfl⟩⟩
    | false => rw [hq2, if_neg (by decide)] at h5 h6; exact ⟨_, _, h5, by rw [h6]; exact ⟨rfl, rfl⟩⟩)
   clear hF5 h5
   obtain ⟨b5, q5, hA5, hS5⟩ := HRES.out
   have HA5 := Lib.hid hA5
   have HS5 := Lib.hid hS5
   clear hA5 hS5
   obtain ⟨y0, y1, y2, y3, yf⟩ := four_at HX5.out
   have hl := rlist_new w5 G.heap.size (HSZ5.out) [bb] (fun k hk => by rw [List.mem_singleton.1 hk]; exact (Array.getElem?_eq_some_iff.1 HX5.out).1) Av xs.length cv xs l (SlTerms.row HIT5.out.row) HIT5.out.tms x nilT HTL5.out (by have := HFW.out; omega)
   rw [tvQ_lit] at hl
   have HL := Lib.hid hl
   clear hl
   go_wp2_with fail
   refine HL.out.mono ?_
   rintro e w6 ⟨z, rfl, hz, hb6⟩
   rw [tvQ_lit]
   have HA6 := Lib.hid (HA5.out.later hb6)
   have HF6 := Lib.hid (HF5.out.below hb6)
   have HR6 := Lib.hid ((hb6.block br (Array.getElem?_eq_some_iff.1 HR5.out).1).trans HR5.out)
   have HT6 : Hid (TermS w6 (NewT G.heap.size w6) z (listT l nilT)) := Lib.hid (hz.keep (fun b hb => ⟨hb.1, hb.2.1, fun h => h⟩) fun _ _ => rfl)
   clear hz hb6 y0 y1 y2 y3 yf
   have HFIN := Lib.hid (fin_post (res := R) (p := 0) HA6.out HF6.out HV.out.ge HV.out.rb HR6.out HT6.out HBL.out HS5.out)
   have HC4 := Lib.hid (blk_set4 HR6.out rfl (.int .i64 z.k) (.int .i64 z.n) (.string ⟨z.s.toArray⟩) (.slice z.A z.len z.cap))
   obtain ⟨r0, r1, r2, r3, rf⟩ := four_at HR6.out
   go_wp2_with fail
   obtain ⟨z0, z1, z2, z3, -⟩ := four_at HC4.out
   refine ⟨rfl, .tuple #[.agg #[.int .i64 z.k, .int .i64 z.n, .string ⟨z.s.toArray⟩, .slice z.A z.len z.cap], .int .i64 0], by simp [results, Tryz.results66, go_sem, z0, z1, z2, z3], ?_⟩
   rw [HP.out]
   exact HFIN.out
  | true =>
   rw [hq, if_pos rfl] at hr
   have hl2 := isP_lt hq
   have hwr2 : IntKind.i64.wrap ((q2.at' : Int) + 1) = (q2.at' : Int) + 1 := IntWalk.i64_in _ (by have := HA0.out.few; omega)
   obtain ⟨D, hD⟩ : ∃ D, D = w3.setCell ⟨E.rb, 1, none⟩ (.int .i64 ((q2.at' : Int) + 1)) := ⟨_, rfl⟩
   have HAD : Hid (RqAt E D nv2 (q2.go 1) false) := Lib.hid (by rw [hD]; exact HA3.out.step hl2)
   have HFD : Hid (RqF E u nv D nv2) := Lib.hid (by rw [hD]; exact HF3.out.set (.inl rfl) _)
   have HRD : Hid (D.heap[br]? = some (.cells #[.int .i64 0, .int .i64 0, .string ⟨#[]⟩, .slice none 0 0] 34 (0, 0))) := Lib.hid (by rw [hD, Below.heap_setCell _ _ _ _ (by have := HV.out.rb; show br ≠ E.rb; omega)]; exact HR3.out)
   have HXD : Hid (D.heap[bb]? = some (.cells #[.int .i64 3, .int .i64 0, .string ⟨#[91, 93]⟩, .slice none 0 0] 34 (0, 0))) := Lib.hid (by rw [hD, Below.heap_setCell _ _ _ _ (by have := HV.out.rb; have := HSZ.out.1; have := HBL.out; show bb ≠ E.rb; omega)]; exact HX3.out)
   have HITD : Hid (ItemsAt G.heap.size bb D (.slice Av xs.length cv) xs l) := Lib.hid (by rw [hD]; exact HIT3.out.set (.inr (by have := HV.out.rb; have := HBL.out; show E.rb < _; omega)) _)
   have HSZD : Hid (G.heap.size ≤ D.heap.size) := Lib.hid (by rw [hD]; simpa [World.setCell] using HSZ3.out)
   have HAT : Hid (q.at' < q2.at') := Lib.hid (by have := args_lt (term_fwd _ _ n) _ _ _ _ _ HOK.out; simp only [QS.go] at this; omega)
   have HR9 := Lib.hid hr
   clear hr hl2
   go_upto_region 35 with fail
   rw [← hD]
   clear hD
   go_wp2_with fail
   refine (HT.out E D nv2 (q2.go 1) 999 HAD.out (by have := HN.out; have := HAT.out; simp only [QS.go]; omega)).mono ?_
   rintro e w4 ⟨x, tl, p, nv4, q4, bad4, rfl, hA4, hF4, ht4, hs4⟩
   rw [tvQ_lit]
   obtain ⟨H, hH⟩ : ∃ H, H = (((w4.setCell ⟨bb, 0, none⟩ (.int .i64 x.k)).setCell ⟨bb, 1, none⟩ (.int .i64 x.n)).setCell ⟨bb, 2, none⟩ (.string ⟨x.s.toArray⟩)).setCell ⟨bb, 3, none⟩ (.slice x.A x.len x.cap) := ⟨_, rfl⟩
   have hx4 := hF4.box HAD.out HXD.out (by decide) (by decide)
   have hr4 := hF4.box HAD.out HRD.out (by decide) (by decide)
   have hbbD : bb < D.heap.size := (Array.getElem?_eq_some_iff.1 HXD.out).1
   have hbr4 : br ≠ bb := by have := HSZ.out.1; have := HBL.out; omega
   have HA4 : Hid (RqAt E H nv4 q4 bad4) := Lib.hid (by rw [hH]; exact hA4.set4 (by have := HV.out.rb; have := HSZ.out.1; have := HBL.out; omega) (hA4.apart hx4 (by decide)) _ _ _ _)
   have HF4 : Hid (RqF E u nv H nv4) := Lib.hid (by rw [hH]; exact (HFD.out.trans hF4).set4 (by have := HV.out.ge; have := HSZ.out.1; have := HBL.out; omega) _ _ _ _)
   have HR4 : Hid (H.heap[br]? = some (.cells #[.int .i64 0, .int .i64 0, .string ⟨#[]⟩, .slice none 0 0] 34 (0, 0))) := Lib.hid (by rw [hH]; exact (blk_set4_ne _ _ _ _ hbr4).trans hr4)
   have HX4 : Hid (H.heap[bb]? = some (.cells #[.int .i64 x.k, .int .i64 x.n, .string ⟨x.s.toArray⟩, .slice x.A x.len x.cap] 34 (0, 0))) := Lib.hid (by rw [hH]; exact blk_set4 hx4 rfl _ _ _ _)
   have HIT4 : Hid (ItemsAt G.heap.size bb H (.slice Av xs.length cv) xs l) := Lib.hid (by rw [hH]; exact ((((HITD.out.step hF4 HAD.out).set (p := ⟨bb, 0, none⟩) (.inl rfl) _).set (p := ⟨bb, 1, none⟩) (.inl rfl) _).set (p := ⟨bb, 2, none⟩) (.inl rfl) _).set (p := ⟨bb, 3, none⟩) (.inl rfl) _)
   have HTL4 : Hid (TermS H (NewX G.heap.size H (· ∈ [bb])) x tl) := Lib.hid (by
    rw [hH]
    refine ht4.go' fun b hb => ?_
    have hne : b ≠ bb := by have := hb.1; omega
    have hk := blk_set4_ne (w := w4) (.int .i64 x.k) (.int .i64 x.n) (.string ⟨x.s.toArray⟩) (.slice x.A x.len x.cap) hne
    exact ⟨⟨by have := hb.1; have := HSZD.out; omega, hb.2.1.keep hk, fun e => hne (List.mem_singleton.1 e)⟩, hk⟩)
   have HSZ4 : Hid (G.heap.size ≤ H.heap.size) := Lib.hid (by rw [hH]; have := hF4.size; have := HSZD.out; simp [World.setCell]; omega)
   have HS4 := Lib.hid hs4
   obtain ⟨y0, y1, y2, y3, yf⟩ := four_at hx4
   clear hA4 hF4 ht4 hs4 hx4 hr4 hbbD hbr4 c1 c5 cf
   go_upto_region 36 with fail
   rw [← hH]
   clear hH y0 y1 y2 y3 yf
   cases bad4 with
   | true =>
    go_wp2_with fail
    refine (need_bad HA4.out 93).mono ?_
    rintro e w5 ⟨rfl, hb5⟩
    have HA5 := Lib.hid (HA4.out.later hb5)
    have HF5 := Lib.hid (HF4.out.below hb5)
    have HR5 := Lib.hid ((hb5.block br (Array.getElem?_eq_some_iff.1 HR4.out).1).trans HR4.out)
    have HX5 := Lib.hid ((hb5.block bb (Array.getElem?_eq_some_iff.1 HX4.out).1).trans HX4.out)
    have HIT5 := Lib.hid (HIT4.out.below hb5)
    have HTL5 := Lib.hid (HTL4.out.go' (NewX.below hb5))
    have HSZ5 := Lib.hid (Nat.le_trans HSZ4.out hb5.size)
    have HS5 : Hid (Says R true (listT l tl, (0 : Int)) q4) := Lib.hid (by
     have h1 := HS4.out
     rw [HR9.out]
     cases hx : termQ (opsQ E.es) E.ts n 999 (q2.go 1) with
     | error a => rw [hx] at h1; exact h1
     | ok r => rw [hx] at h1; exact absurd h1.1 (by decide))
    clear hb5
    obtain ⟨y0, y1, y2, y3, yf⟩ := four_at HX5.out
    have hl := rlist_new w5 G.heap.size (HSZ5.out) [bb] (fun k hk => by rw [List.mem_singleton.1 hk]; exact (Array.getElem?_eq_some_iff.1 HX5.out).1) Av xs.length cv xs l (SlTerms.row HIT5.out.row) HIT5.out.tms x tl HTL5.out (by have := HFW.out; omega)
    rw [tvQ_lit] at hl
    have HL := Lib.hid hl
    clear hl
    go_wp2_with fail
    refine HL.out.mono ?_
    rintro e w6 ⟨z, rfl, hz, hb6⟩
    rw [tvQ_lit]
    have HA6 := Lib.hid (HA5.out.later hb6)
    have HF6 := Lib.hid (HF5.out.below hb6)
    have HR6 := Lib.hid ((hb6.block br (Array.getElem?_eq_some_iff.1 HR5.out).1).trans HR5.out)
    have HT6 : Hid (TermS w6 (NewT G.heap.size w6) z (listT l tl)) := Lib.hid (hz.keep (fun b hb => ⟨hb.1, hb.2.1, fun h => h⟩) fun _ _ => rfl)
    clear hz hb6 y0 y1 y2 y3 yf
    have HFIN := Lib.hid (fin_post (res := R) (p := 0) HA6.out HF6.out HV.out.ge HV.out.rb HR6.out HT6.out HBL.out HS5.out)
    have HC4 := Lib.hid (blk_set4 HR6.out rfl (.int .i64 z.k) (.int .i64 z.n) (.string ⟨z.s.toArray⟩) (.slice z.A z.len z.cap))
    obtain ⟨r0, r1, r2, r3, rf⟩ := four_at HR6.out
    go_wp2_with fail
    obtain ⟨z0, z1, z2, z3, -⟩ := four_at HC4.out
    refine ⟨rfl, .tuple #[.agg #[.int .i64 z.k, .int .i64 z.n, .string ⟨z.s.toArray⟩, .slice z.A z.len z.cap], .int .i64 0], by simp [results, Tryz.results66, go_sem, z0, z1, z2, z3], ?_⟩
    rw [HP.out]
    exact HFIN.out
   | false =>
    have HRR : Hid (R = (needQ E.ts q4 93).map fun s3 => ((listT l tl, 0), s3)) := Lib.hid (by
     have h1 := HS4.out
     rw [HR9.out]
     cases hx : termQ (opsQ E.es) E.ts n 999 (q2.go 1) with
     | error a => rw [hx] at h1; exact absurd h1.1 (by decide)
     | ok r =>
      rw [hx] at h1
      obtain ⟨-, rfl⟩ := h1
      rfl)
    go_wp2_with fail
    refine (need_any HA4.out 93).mono ?_
    rintro e w5 ⟨rfl, hF5, h5⟩
    have HF5 := Lib.hid (HF4.out.trans hF5)
    have HR5 := Lib.hid (hF5.box HA4.out HR4.out (by decide) (by decide))
    have HX5 := Lib.hid (hF5.box HA4.out HX4.out (by decide) (by decide))
    have HIT5 := Lib.hid (HIT4.out.step hF5 HA4.out)
    have HTL5 := Lib.hid (HTL4.out.go' (NewX.step hF5 HA4.out))
    have HSZ5 := Lib.hid (Nat.le_trans HSZ4.out hF5.size)
    have HRES : Hid (∃ b5 q5, RqAt E w5 nv4 q5 b5 ∧ Says R b5 (listT l tl, (0 : Int)) q5) := Lib.hid (by
     have h6 := HRR.out
     unfold needQ at h6
     cases hq2 : isP E.ts q4.at' 93 with
     | true => rw [hq2, if_pos rfl] at h5 h6; exact ⟨_, _, h5, by rw [h6]; exact ⟨rfl, rfl⟩⟩
     | false => rw [hq2, if_neg (by decide)] at h5 h6; exact ⟨_, _, h5, by rw [h6]; exact ⟨rfl, rfl⟩⟩)
    clear hF5 h5
    obtain ⟨b5, q5, hA5, hS5⟩ := HRES.out
    have HA5 := Lib.hid hA5
    have HS5 := Lib.hid hS5
    clear hA5 hS5
    obtain ⟨y0, y1, y2, y3, yf⟩ := four_at HX5.out
    have hl := rlist_new w5 G.heap.size (HSZ5.out) [bb] (fun k hk => by rw [List.mem_singleton.1 hk]; exact (Array.getElem?_eq_some_iff.1 HX5.out).1) Av xs.length cv xs l (SlTerms.row HIT5.out.row) HIT5.out.tms x tl HTL5.out (by have := HFW.out; omega)
    rw [tvQ_lit] at hl
    have HL := Lib.hid hl
    clear hl
    go_wp2_with fail
    refine HL.out.mono ?_
    rintro e w6 ⟨z, rfl, hz, hb6⟩
    rw [tvQ_lit]
    have HA6 := Lib.hid (HA5.out.later hb6)
    have HF6 := Lib.hid (HF5.out.below hb6)
    have HR6 := Lib.hid ((hb6.block br (Array.getElem?_eq_some_iff.1 HR5.out).1).trans HR5.out)
    have HT6 : Hid (TermS w6 (NewT G.heap.size w6) z (listT l tl)) := Lib.hid (hz.keep (fun b hb => ⟨hb.1, hb.2.1, fun h => h⟩) fun _ _ => rfl)
    clear hz hb6 y0 y1 y2 y3 yf
    have HFIN := Lib.hid (fin_post (res := R) (p := 0) HA6.out HF6.out HV.out.ge HV.out.rb HR6.out HT6.out HBL.out HS5.out)
    have HC4 := Lib.hid (blk_set4 HR6.out rfl (.int .i64 z.k) (.int .i64 z.n) (.string ⟨z.s.toArray⟩) (.slice z.A z.len z.cap))
    obtain ⟨r0, r1, r2, r3, rf⟩ := four_at HR6.out
    go_wp2_with fail
    obtain ⟨z0, z1, z2, z3, -⟩ := four_at HC4.out
    refine ⟨rfl, .tuple #[.agg #[.int .i64 z.k, .int .i64 z.n, .string ⟨z.s.toArray⟩, .slice z.A z.len z.cap], .int .i64 0], by simp [results, Tryz.results66, go_sem, z0, z1, z2, z3], ?_⟩
    rw [HP.out]
    exact HFIN.out
end Go.Proofs.YtiffopheamnngaaGreatDoor
namespace Go.Proofs.YtiffopheamnngaaGreatDoor
open Go.RowKit Go.Maps
set_option maxRecDepth 100000
structure CQ (G : World) (st : List UInt8) (k : Nat) (v : Value) (wr : World) : Prop where
 row : Row wr G.heap.size 34 4 encTV v ((st.take k).map cTV)
 below : Below G.heap.size G wr
set_option maxHeartbeats 8000000 in
theorem prim_5 {E : RqE} {u : World} {nv : Value} {q : QS} (h : RqAt E u nv q false) (most : Int) (t : Tok) (ht : t = peekF E.ts q.at') (R : Except Nat ((Tm × Int) × QS)) (hR : R = .ok ((listT (t.s.map fun c => intT c.toNat) nilT, 0), q.go 1)) (hk : t.kind = 5) :
    Calls Tryz.prog 66 #[.pointer (some ⟨E.rb, 0, none⟩), .int .i64 most] u fun e u' => RqPost E u nv R e u' := by
 obtain ⟨P, hP⟩ : ∃ P : Ending → World → Prop, P = fun e u' => RqPost E u nv R e u' := ⟨_, rfl⟩
 rw [← hP]
 have HP := Lib.hid hP
 have HA0 := Lib.hid h
 have hlt : t.kind ≠ 0 → q.at' < E.ts.length := fun h => peek_lt (by rw [← ht]; exact h)
 have HTK := Lib.hid ht
 have HR := Lib.hid hR
 clear ht hP hR h
 obtain ⟨k, ln, tn, st, op, ti⟩ := t
 simp only at HR hlt hk
 subst hk
 replace hlt := hlt (by decide)
 have hsh : st.length ≤ 1000000 := by
  have h1 := HTK.out
  unfold peekF at h1
  rw [List.getD_eq_getElem?_getD] at h1
  cases hx : E.ts[q.at']? with
  | none => rw [hx] at h1; rw [show st = [] from congrArg Tok.s h1]; exact Nat.zero_le _
  | some y => rw [hx] at h1; rw [show st = y.s from congrArg Tok.s h1]; exact HA0.out.short y (List.mem_of_getElem? hx)
 go_enter Tryz.func66, Tryz.ntmps66
 go_wp2_with fail
 refine (look_any (HA0.out.later ((Below.refl _ _).alloc (Nat.le_refl _) _))).mono ?_
 rintro e w1 ⟨rfl, hb1⟩
 rw [← HTK.out]
 simp only [tokW]
 obtain ⟨V, br, bt, hV, hbr, hbt, hPV⟩ := prim_pre HA0.out hb1 ⟨5, ln, tn, st, op, ti⟩
 have HV := Lib.hid hPV
 clear hPV hb1
 simp only at hV
 go_upto_region 3 with fail
 rw [← hV, ← hbr, ← hbt]
 clear hV hbr hbt
 obtain ⟨t0, t1, t2, t3, t4, t5, tf⟩ := six_at HV.out.tok
 simp only at t0 t1 t2 t3 t4 t5
 obtain ⟨⟨-, c1, -, -, -, c5⟩, cf⟩ := HV.out.at'.cells
 have hf := HV.out.at'.few
 have hwr : IntKind.i64.wrap ((q.at' : Int) + 1) = (q.at' : Int) + 1 := IntWalk.i64_in _ (by omega)
 obtain ⟨G, hG⟩ : ∃ G, G = V.setCell ⟨E.rb, 1, none⟩ (.int .i64 ((q.at' : Int) + 1)) := ⟨_, rfl⟩
 have HAG : Hid (RqAt E G nv (q.go 1) false) := Lib.hid (by rw [hG]; exact HV.out.at'.step hlt)
 have HFG : Hid (RqF E u nv G nv) := Lib.hid (by rw [hG]; exact HV.out.fr.set (.inl rfl) _)
 have HRG : Hid (G.heap[br]? = some (.cells #[.int .i64 0, .int .i64 0, .string ⟨#[]⟩, .slice none 0 0] 34 (0, 0))) := Lib.hid (by rw [hG, Below.heap_setCell _ _ _ _ (by have := HV.out.rb; show br ≠ E.rb; omega)]; exact HV.out.res)
 have HTG : Hid (G.heap[bt]? = some (.cells #[.int .i64 5, .int .i64 ln, .int .i64 tn, .string ⟨st.toArray⟩, .bool op, .bool ti] 48 (0, 0))) := Lib.hid (by rw [hG, Below.heap_setCell _ _ _ _ (by have := HV.out.rb; have := HV.out.lt; show bt ≠ E.rb; omega)]; exact HV.out.tok)
 clear hf
 go_upto_region 14 with fail
 rw [← hG]
 clear hG t0 t1 t2 t3 t4 t5 tf c1 c5 cf
 obtain ⟨t0, t1, t2, t3, t4, t5, tf⟩ := six_at HTG.out
 obtain ⟨⟨-, c1, -, -, -, c5⟩, cf⟩ := HAG.out.cells
 obtain ⟨i0, z0, hi0, hz0, hs0, hby0, hzc0⟩ := term_info
 have hzs : z0.cells.size = 4 := by rw [hzc0]; rfl
 have HIN := Lib.hid (And.intro hi0 (And.intro hz0 (And.intro hs0 (And.intro hby0 hzs))))
 have H0 : Hid (CQ G st 0 (.slice none 0 0) G) := Lib.hid ⟨Row.nil _ _ _ _ _, Below.refl _ _⟩
 have hbtG : bt < G.heap.size := (Array.getElem?_eq_some_iff.1 HTG.out).1
 have HBT := Lib.hid hbtG
 have hbrG := Lib.hid (Array.getElem?_eq_some_iff.1 HRG.out).1
 clear hi0 hz0 hs0 hby0 hzc0 hzs t0 t1 t2 t3 t4 t5 tf c1 c5 cf hbtG
 go_wp2_with fail
 go_loopw [8, 9] (fun v i wr => ∃ k : Nat, k ≤ st.length ∧ i = .int .i64 k ∧ Hid (CQ G st k v wr)) (fun _ i _ => st.length - (intOf i).toNat)
 case atStart => exact ⟨0, Nat.zero_le _, rfl, H0⟩
 case round =>
  obtain ⟨k, hk, rfl, HI⟩ := hrel
  obtain ⟨wl, rfl⟩ : ∃ wl : World, wl = wr := ⟨_, rfl⟩
  have w3 : wl.cell? ⟨bt, 3, none⟩ = some (.string ⟨st.toArray⟩) := (HI.out.below.cell (p := ⟨bt, 3, none⟩) HBT.out).trans (six_at HTG.out).2.2.2.1
  by_cases hkl : k < st.length
  ·have hki : (k : Int) < (st.length : Int) := by omega
   have hk0 : (0 : Int) ≤ (k : Int) := by omega
   have hwk : IntKind.i64.wrap ((k : Int) + 1) = (k : Int) + 1 := IntWalk.i64_in _ (by omega)
   obtain ⟨c, hc, hgc⟩ : ∃ c, (⟨st.toArray⟩ : ByteArray)[k]'(by show k < st.toArray.size; simpa using hkl) = c ∧ st[k]? = some c := ⟨st[k], rfl, List.getElem?_eq_getElem hkl⟩
   have hwc : wrap64 (c.toNat : Int) = (c.toNat : Int) := IntWalk.wrap64_in _ (by have := c.toNat_lt; omega)
   obtain ⟨L, hL⟩ : ∃ L, L = (st.take k).map cTV := ⟨_, rfl⟩
   have htk : L ++ [cTV c] = (st.take (k + 1)).map cTV := by rw [hL, List.take_add_one, hgc, List.map_append]; rfl
   have hln : L.length = k := by rw [hL]; simp; omega
   have HTK2 := Lib.hid (And.intro htk hln)
   have hrow := HI.out.row
   rw [← hL] at hrow
   have HROW := Lib.hid hrow
   have HBL := Lib.hid HI.out.below
   have hsz := HI.out.below.size
   clear htk hln hgc hL hrow
   go_wp2_with (at_builtin; refine wpList_row_lies rfl _ _ 32 rfl _ G.heap.size 34 i0 z0 4 56 encTV Tryz.underlying32 HIN.out.1 HIN.out.2.1 HIN.out.2.2.1 HIN.out.2.2.2.1 HIN.out.2.2.2.2 (by decide) encTV_len encTV_one _ L (cTV c) rfl (HROW.out.alloc _) _ 1 rfl (fun j v hv => ?_) (by rw [HTK2.out.2]; unfold maxLen; omega) (by rw [HTK2.out.2]; omega) (by simp; omega) ?_)
   ·exact fresh_fourQ wl (cTV c) 34 j v hv
   ·intro g' cap' w' hrow' hgrow hat
    rw [HTK2.out.1, HTK2.out.2] at hrow'
    rw [HTK2.out.2]
    have HN1 : Hid (CQ G st (k + 1) (.slice (some ⟨g', 0, none⟩) (k + 1) cap') w') := Lib.hid ⟨hrow', (HBL.out.alloc hsz _).grown hgrow (by simp; omega) (fun j hj => (HROW.out.lt j hj).1)⟩
    have hb9 : Below G.heap.size G w' := HN1.out.below
    have w9 : w'.cell? ⟨bt, 3, none⟩ = some (.string ⟨st.toArray⟩) := (hb9.cell (p := ⟨bt, 3, none⟩) HBT.out).trans (six_at HTG.out).2.2.2.1
    clear hrow' hgrow hat w3 hb9
    go_wp2_with fail
    go_roundw
    case rel => exact ⟨k + 1, by omega, rfl, HN1⟩
    case measure =>
     simp only [intOf]
     omega
  ·have hke : k = st.length := by omega
   subst hke
   have hkn : ¬ (st.length : Int) < (st.length : Int) := by omega
   have hrow := HI.out.row
   rw [List.take_length] at hrow
   obtain ⟨Av, cv, hv⟩ := hrow.shape
   rw [List.length_map] at hv
   subst hv
   have HIT : Hid (ItemsAt G.heap.size wl.heap.size wl (.slice Av st.length cv) (st.map cTV) (st.map fun c => intT c.toNat)) := Lib.hid ⟨hrow, codes_terms _ _ _, fun k hk => (hrow.lt k hk).2⟩
   have HA5 := Lib.hid (HAG.out.later HI.out.below)
   have HF5 := Lib.hid (HFG.out.below HI.out.below)
   have HR5 := Lib.hid ((HI.out.below.block br hbrG.out).trans HRG.out)
   have hl := rlist_new wl G.heap.size HI.out.below.size [] (fun k hk => by cases hk) Av st.length cv (st.map cTV) (st.map fun c => intT c.toNat) (SlTerms.row hrow) (codes_terms _ _ _) ⟨3, 0, [91, 93], none, 0, 0⟩ nilT (TermS.leaf _ _ 3 0 [91, 93] none 0 (by decide)) (by omega)
   rw [tvQ_lit] at hl
   have HL := Lib.hid hl
   clear hl hrow
   go_wp2_with fail
   refine HL.out.mono ?_
   rintro e w6 ⟨z, rfl, hz, hb6⟩
   rw [tvQ_lit]
   have HA6 := Lib.hid (HA5.out.later hb6)
   have HF6 := Lib.hid (HF5.out.below hb6)
   have HR6 := Lib.hid ((hb6.block br (Array.getElem?_eq_some_iff.1 HR5.out).1).trans HR5.out)
   have HT6 : Hid (TermS w6 (NewT G.heap.size w6) z (listT (st.map fun c => intT c.toNat) nilT)) := Lib.hid (hz.keep (fun b hb => ⟨hb.1, hb.2.1, fun h => h⟩) fun _ _ => rfl)
   clear hz hb6
   have HFIN := Lib.hid (fin_post (res := R) (p := 0) HA6.out HF6.out HV.out.ge HV.out.rb HR6.out HT6.out hbrG.out (by rw [HR.out]; exact ⟨rfl, rfl⟩))
   have HC4 := Lib.hid (blk_set4 HR6.out rfl (.int .i64 z.k) (.int .i64 z.n) (.string ⟨z.s.toArray⟩) (.slice z.A z.len z.cap))
   obtain ⟨r0, r1, r2, r3, rf⟩ := four_at HR6.out
   go_wp2_with fail
   obtain ⟨z0, z1, z2, z3, -⟩ := four_at HC4.out
   refine ⟨rfl, .tuple #[.agg #[.int .i64 z.k, .int .i64 z.n, .string ⟨z.s.toArray⟩, .slice z.A z.len z.cap], .int .i64 0], by simp [results, Tryz.results66, go_sem, z0, z1, z2, z3], ?_⟩
   rw [HP.out]
   exact HFIN.out
end Go.Proofs.YtiffopheamnngaaGreatDoor
