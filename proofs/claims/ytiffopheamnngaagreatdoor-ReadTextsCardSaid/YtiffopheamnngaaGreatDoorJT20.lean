import Derived.Test.YtiffopheamnngaaGreatDoorJT19
namespace Go.Proofs.YtiffopheamnngaaGreatDoor
open Go.RowKit Go.Maps
set_option maxRecDepth 100000
structure PrimV (E : RqE) (u : World) (nv : Value) (q : QS) (t : Tok) (br bt : Nat) (V : World) : Prop where
 at' : RqAt E V nv q false
 fr : RqF E u nv V nv
 res : V.heap[br]? = some (.cells #[.int .i64 0, .int .i64 0, .string ⟨#[]⟩, .slice none 0 0] 34 (0, 0))
 tok : V.heap[bt]? = some (.cells #[.int .i64 t.kind, .int .i64 t.line, .int .i64 t.n, .string ⟨t.s.toArray⟩, .bool t.opn, .bool t.tight] 48 (0, 0))
 none : V.heap[bt + 1]? = some (.cells #[.int .i64 0, .int .i64 0, .string ⟨#[]⟩, .slice none 0 0] 34 (0, 0))
 ge : u.heap.size ≤ br
 rb : E.rb < br
 lt : br < bt
theorem prim_pre {E : RqE} {u w1 : World} {nv : Value} {q : QS} (h : RqAt E u nv q false) (hb : Below (u.alloc (.cells #[.int .i64 0, .int .i64 0, .string ⟨#[]⟩, .slice none 0 0] 34)).heap.size (u.alloc (.cells #[.int .i64 0, .int .i64 0, .string ⟨#[]⟩, .slice none 0 0] 34)) w1) (t : Tok) :
    ∃ (V : World) (br bt : Nat), V = (w1.alloc (.cells #[.int .i64 t.kind, .int .i64 t.line, .int .i64 t.n, .string ⟨t.s.toArray⟩, .bool t.opn, .bool t.tight] 48)).alloc (.cells #[.int .i64 0, .int .i64 0, .string ⟨#[]⟩, .slice none 0 0] 34) ∧ br = u.heap.size ∧ bt = w1.heap.size ∧ PrimV E u nv q t br bt V := by
 obtain ⟨W, hW⟩ : ∃ W, W = u.alloc (.cells #[.int .i64 0, .int .i64 0, .string ⟨#[]⟩, .slice none 0 0] 34) := ⟨_, rfl⟩
 rw [← hW] at hb
 have hbW : Below u.heap.size u W := by rw [hW]; exact (Below.refl _ _).alloc (Nat.le_refl _) _
 have hr0 : W.heap[u.heap.size]? = some (.cells #[.int .i64 0, .int .i64 0, .string ⟨#[]⟩, .slice none 0 0] 34 (0, 0)) := by rw [hW]; exact heap_alloc_new _ _
 have hsW : u.heap.size < W.heap.size := (Array.getElem?_eq_some_iff.1 hr0).1
 obtain ⟨V1, hV1⟩ : ∃ V, V = w1.alloc (.cells #[.int .i64 t.kind, .int .i64 t.line, .int .i64 t.n, .string ⟨t.s.toArray⟩, .bool t.opn, .bool t.tight] 48) := ⟨_, rfl⟩
 have hb1 : Below w1.heap.size w1 V1 := by rw [hV1]; exact (Below.refl _ _).alloc (Nat.le_refl _) _
 have ht1 : V1.heap[w1.heap.size]? = some (.cells #[.int .i64 t.kind, .int .i64 t.line, .int .i64 t.n, .string ⟨t.s.toArray⟩, .bool t.opn, .bool t.tight] 48 (0, 0)) := by rw [hV1]; exact heap_alloc_new _ _
 have hs1 : V1.heap.size = w1.heap.size + 1 := by rw [hV1]; simp
 rw [← hV1]
 obtain ⟨V, hV⟩ : ∃ V, V = V1.alloc (.cells #[.int .i64 0, .int .i64 0, .string ⟨#[]⟩, .slice none 0 0] 34) := ⟨_, rfl⟩
 have hb2 : Below V1.heap.size V1 V := by rw [hV]; exact (Below.refl _ _).alloc (Nat.le_refl _) _
 have hz : V.heap[w1.heap.size + 1]? = some (.cells #[.int .i64 0, .int .i64 0, .string ⟨#[]⟩, .slice none 0 0] 34 (0, 0)) := by rw [hV, ← hs1]; exact heap_alloc_new _ _
 rw [← hV]
 have h1 := hb.size
 refine ⟨V, _, _, rfl, rfl, rfl, (((h.later hbW).later hb).later hb1).later hb2, (((RqF.of_below E nv hbW).below hb).below hb1).below hb2, ?_, ?_, hz, Nat.le_refl _, h.lt, by omega⟩
 ·rw [hb2.block _ (by omega), hb1.block _ (by omega), hb.block _ hsW, hr0]
 ·rw [hb2.block _ (by omega), ht1]
theorem spoil_says {α : Type} {a : α} {k : Nat} {q : QS} {R : Except Nat (α × QS)} (h : R = .error k) (hq : q.at' = k) : Says R true a q := by rw [h]; exact ⟨rfl, hq⟩
theorem PrimV.later {E : RqE} {u V w : World} {nv : Value} {q : QS} {t : Tok} {br bt : Nat} (h : PrimV E u nv q t br bt V) (hb : Below V.heap.size V w) : PrimV E u nv q t br bt w :=
 ⟨h.at'.later hb, h.fr.below hb, (hb.block _ (Array.getElem?_eq_some_iff.1 h.res).1).trans h.res, (hb.block _ (Array.getElem?_eq_some_iff.1 h.tok).1).trans h.tok, (hb.block _ (Array.getElem?_eq_some_iff.1 h.none).1).trans h.none, h.ge, h.rb, h.lt⟩
set_option maxHeartbeats 8000000 in
theorem prim_3n {E : RqE} {u : World} {nv : Value} {q : QS} (h : RqAt E u nv q false) (most : Int) (t : Tok) (ht : t = peekF E.ts q.at') (R : Except Nat ((Tm × Int) × QS)) (hR : R = .error q.at') (hk : t.kind = 3) (hneg : t.n < 0) :
    Calls Tryz.prog 66 #[.pointer (some ⟨E.rb, 0, none⟩), .int .i64 most] u fun e u' => RqPost E u nv R e u' := by
 obtain ⟨P, hP⟩ : ∃ P : Ending → World → Prop, P = fun e u' => RqPost E u nv R e u' := ⟨_, rfl⟩
 rw [← hP]
 have HP := Lib.hid hP
 have HA0 := Lib.hid h
 have hlt : t.kind ≠ 0 → q.at' < E.ts.length := fun h => peek_lt (by rw [← ht]; exact h)
 have HTK := Lib.hid ht
 have HR := Lib.hid hR
 clear ht hP hR h
 obtain ⟨k, ln, tn, st, op, ti⟩ := t
 simp only at HR hlt hk hneg
 subst hk
 go_enter Tryz.func66, Tryz.ntmps66
 go_wp2_with fail
 refine (look_any (HA0.out.later ((Below.refl _ _).alloc (Nat.le_refl _) _))).mono ?_
 rintro e w1 ⟨rfl, hb1⟩
 rw [← HTK.out]
 simp only [tokW]
 obtain ⟨V, br, bt, hV, hbr, hbt, hPV⟩ := prim_pre HA0.out hb1 ⟨3, ln, tn, st, op, ti⟩
 have HV := Lib.hid hPV
 clear hPV hb1
 simp only at hV
 go_upto_region 3 with fail
 rw [← hV, ← hbr, ← hbt]
 clear hV hbr hbt
 obtain ⟨t0, t1, t2, t3, t4, t5, tf⟩ := six_at HV.out.tok
 simp only at t0 t1 t2 t3 t4 t5
 obtain ⟨⟨-, c1, -, -, -, c5⟩, cf⟩ := HV.out.at'.cells
 obtain ⟨G, hG⟩ : ∃ G, G = V.setCell ⟨E.rb, 5, none⟩ (.bool true) := ⟨_, rfl⟩
 have HAG : Hid (RqAt E G nv q true) := Lib.hid (by rw [hG]; exact HV.out.at'.spoil)
 have HFG : Hid (RqF E u nv G nv) := Lib.hid (by rw [hG]; exact HV.out.fr.set (.inl rfl) _)
 have HRG : Hid (G.heap[br]? = some (.cells #[.int .i64 0, .int .i64 0, .string ⟨#[]⟩, .slice none 0 0] 34 (0, 0))) := Lib.hid (by rw [hG, Below.heap_setCell _ _ _ _ (by have := HV.out.rb; show br ≠ E.rb; omega)]; exact HV.out.res)
 have HZG : Hid (G.heap[bt + 1]? = some (.cells #[.int .i64 0, .int .i64 0, .string ⟨#[]⟩, .slice none 0 0] 34 (0, 0))) := Lib.hid (by rw [hG, Below.heap_setCell _ _ _ _ (by have := HV.out.rb; have := HV.out.lt; show bt + 1 ≠ E.rb; omega)]; exact HV.out.none)
 go_upto_region 6 with fail
 rw [← hG]
 clear hG t0 t1 t2 t3 t4 t5 tf c1 c5 cf
 obtain ⟨y0, y1, y2, y3, yf⟩ := four_at HZG.out
 have HFIN := Lib.hid (fin_post (res := R) (p := 0) HAG.out HFG.out HV.out.ge HV.out.rb HRG.out (leaf_new _ (br + 1) 0 0 [] (by decide)) (Nat.lt_succ_self _) (spoil_says HR.out rfl))
 have HC4 := Lib.hid (blk_set4 HRG.out rfl (.int .i64 0) (.int .i64 0) (.string ⟨#[]⟩) (.slice none 0 0))
 obtain ⟨r0, r1, r2, r3, rf⟩ := four_at HRG.out
 go_wp2_with fail
 obtain ⟨z0, z1, z2, z3, -⟩ := four_at HC4.out
 refine ⟨rfl, .tuple #[.agg #[.int .i64 0, .int .i64 0, .string ⟨#[]⟩, .slice none 0 0], .int .i64 0], by simp [results, Tryz.results66, go_sem, z0, z1, z2, z3], ?_⟩
 rw [HP.out]
 exact HFIN.out
set_option maxHeartbeats 8000000 in
theorem prim_3p {E : RqE} {u : World} {nv : Value} {q : QS} (h : RqAt E u nv q false) (most : Int) (t : Tok) (ht : t = peekF E.ts q.at') (R : Except Nat ((Tm × Int) × QS)) (hR : R = .ok ((intT t.n, 0), q.go 1)) (hk : t.kind = 3) (hneg : ¬ t.n < 0) :
    Calls Tryz.prog 66 #[.pointer (some ⟨E.rb, 0, none⟩), .int .i64 most] u fun e u' => RqPost E u nv R e u' := by
 obtain ⟨P, hP⟩ : ∃ P : Ending → World → Prop, P = fun e u' => RqPost E u nv R e u' := ⟨_, rfl⟩
 rw [← hP]
 have HP := Lib.hid hP
 have HA0 := Lib.hid h
 have hlt : t.kind ≠ 0 → q.at' < E.ts.length := fun h => peek_lt (by rw [← ht]; exact h)
 have HTK := Lib.hid ht
 have HR := Lib.hid hR
 clear ht hP hR h
 obtain ⟨k, ln, tn, st, op, ti⟩ := t
 simp only at HR hlt hk hneg
 subst hk
 replace hlt := hlt (by decide)
 go_enter Tryz.func66, Tryz.ntmps66
 go_wp2_with fail
 refine (look_any (HA0.out.later ((Below.refl _ _).alloc (Nat.le_refl _) _))).mono ?_
 rintro e w1 ⟨rfl, hb1⟩
 rw [← HTK.out]
 simp only [tokW]
 obtain ⟨V, br, bt, hV, hbr, hbt, hPV⟩ := prim_pre HA0.out hb1 ⟨3, ln, tn, st, op, ti⟩
 have HV := Lib.hid hPV
 clear hPV hb1
 simp only at hV
 go_upto_region 3 with fail
 rw [← hV, ← hbr, ← hbt]
 clear hV hbr hbt
 obtain ⟨t0, t1, t2, t3, t4, t5, tf⟩ := six_at HV.out.tok
 simp only at t0 t1 t2 t3 t4 t5
 obtain ⟨⟨-, c1, -, -, -, c5⟩, cf⟩ := HV.out.at'.cells
 have hf := HV.out.at'.few
 have hwr : IntKind.i64.wrap ((q.at' : Int) + 1) = (q.at' : Int) + 1 := IntWalk.i64_in _ (by omega)
 obtain ⟨G, hG⟩ : ∃ G, G = V.setCell ⟨E.rb, 1, none⟩ (.int .i64 ((q.at' : Int) + 1)) := ⟨_, rfl⟩
 have HAG : Hid (RqAt E G nv (q.go 1) false) := Lib.hid (by rw [hG]; exact HV.out.at'.step hlt)
 have HFG : Hid (RqF E u nv G nv) := Lib.hid (by rw [hG]; exact HV.out.fr.set (.inl rfl) _)
 have HRG : Hid (G.heap[br]? = some (.cells #[.int .i64 0, .int .i64 0, .string ⟨#[]⟩, .slice none 0 0] 34 (0, 0))) := Lib.hid (by rw [hG, Below.heap_setCell _ _ _ _ (by have := HV.out.rb; show br ≠ E.rb; omega)]; exact HV.out.res)
 have HTG : Hid (G.heap[bt]? = some (.cells #[.int .i64 3, .int .i64 ln, .int .i64 tn, .string ⟨st.toArray⟩, .bool op, .bool ti] 48 (0, 0))) := Lib.hid (by rw [hG, Below.heap_setCell _ _ _ _ (by have := HV.out.rb; have := HV.out.lt; show bt ≠ E.rb; omega)]; exact HV.out.tok)
 clear hf
 go_upto_region 8 with fail
 rw [← hG]
 clear hG t0 t1 t2 t3 t4 t5 tf c1 c5 cf
 obtain ⟨t0, t1, t2, t3, t4, t5, tf⟩ := six_at HTG.out
 obtain ⟨⟨-, c1, -, -, -, c5⟩, cf⟩ := HAG.out.cells
 have HFIN := Lib.hid (fin_post (res := R) (p := 0) HAG.out HFG.out HV.out.ge HV.out.rb HRG.out (leaf_new _ (br + 1) 2 tn [] (by decide)) (Nat.lt_succ_self _) (by rw [HR.out]; exact ⟨rfl, rfl⟩))
 have HC4 := Lib.hid (blk_set4 HRG.out rfl (.int .i64 2) (.int .i64 tn) (.string ⟨#[]⟩) (.slice none 0 0))
 obtain ⟨r0, r1, r2, r3, rf⟩ := four_at HRG.out
 go_wp2_with fail
 obtain ⟨z0, z1, z2, z3, -⟩ := four_at HC4.out
 refine ⟨rfl, .tuple #[.agg #[.int .i64 2, .int .i64 tn, .string ⟨#[]⟩, .slice none 0 0], .int .i64 0], by simp [results, Tryz.results66, go_sem, z0, z1, z2, z3], ?_⟩
 rw [HP.out]
 exact HFIN.out
set_option maxHeartbeats 8000000 in
theorem prim_4 {E : RqE} {u : World} {nv : Value} {q : QS} (h : RqAt E u nv q false) (most : Int) (t : Tok) (ht : t = peekF E.ts q.at') (R : Except Nat ((Tm × Int) × QS)) (hR : R = .ok (((varQ (q.go 1) t.s).1, 0), (varQ (q.go 1) t.s).2)) (hk : t.kind = 4) :
    Calls Tryz.prog 66 #[.pointer (some ⟨E.rb, 0, none⟩), .int .i64 most] u fun e u' => RqPost E u nv R e u' := by
 obtain ⟨P, hP⟩ : ∃ P : Ending → World → Prop, P = fun e u' => RqPost E u nv R e u' := ⟨_, rfl⟩
 rw [← hP]
 have HP := Lib.hid hP
 have HA0 := Lib.hid h
 have hlt : t.kind ≠ 0 → q.at' < E.ts.length := fun h => peek_lt (by rw [← ht]; exact h)
 have HTK := Lib.hid ht
 have HR := Lib.hid hR
 clear ht hP hR h
 obtain ⟨k, ln, tn, st, op, ti⟩ := t
 simp only at HR hlt hk
 subst hk
 replace hlt := hlt (by decide)
 go_enter Tryz.func66, Tryz.ntmps66
 go_wp2_with fail
 refine (look_any (HA0.out.later ((Below.refl _ _).alloc (Nat.le_refl _) _))).mono ?_
 rintro e w1 ⟨rfl, hb1⟩
 rw [← HTK.out]
 simp only [tokW]
 obtain ⟨V, br, bt, hV, hbr, hbt, hPV⟩ := prim_pre HA0.out hb1 ⟨4, ln, tn, st, op, ti⟩
 have HV := Lib.hid hPV
 clear hPV hb1
 simp only at hV
 go_upto_region 3 with fail
 rw [← hV, ← hbr, ← hbt]
 clear hV hbr hbt
 obtain ⟨t0, t1, t2, t3, t4, t5, tf⟩ := six_at HV.out.tok
 simp only at t0 t1 t2 t3 t4 t5
 obtain ⟨⟨-, c1, -, -, -, c5⟩, cf⟩ := HV.out.at'.cells
 have hf := HV.out.at'.few
 have hwr : IntKind.i64.wrap ((q.at' : Int) + 1) = (q.at' : Int) + 1 := IntWalk.i64_in _ (by omega)
 obtain ⟨G, hG⟩ : ∃ G, G = V.setCell ⟨E.rb, 1, none⟩ (.int .i64 ((q.at' : Int) + 1)) := ⟨_, rfl⟩
 have HAG : Hid (RqAt E G nv (q.go 1) false) := Lib.hid (by rw [hG]; exact HV.out.at'.step hlt)
 have HFG : Hid (RqF E u nv G nv) := Lib.hid (by rw [hG]; exact HV.out.fr.set (.inl rfl) _)
 have HRG : Hid (G.heap[br]? = some (.cells #[.int .i64 0, .int .i64 0, .string ⟨#[]⟩, .slice none 0 0] 34 (0, 0))) := Lib.hid (by rw [hG, Below.heap_setCell _ _ _ _ (by have := HV.out.rb; show br ≠ E.rb; omega)]; exact HV.out.res)
 have HTG : Hid (G.heap[bt]? = some (.cells #[.int .i64 4, .int .i64 ln, .int .i64 tn, .string ⟨st.toArray⟩, .bool op, .bool ti] 48 (0, 0))) := Lib.hid (by rw [hG, Below.heap_setCell _ _ _ _ (by have := HV.out.rb; have := HV.out.lt; show bt ≠ E.rb; omega)]; exact HV.out.tok)
 clear hf
 go_upto_region 11 with fail
 rw [← hG]
 clear hG t0 t1 t2 t3 t4 t5 tf c1 c5 cf
 obtain ⟨t0, t1, t2, t3, t4, t5, tf⟩ := six_at HTG.out
 obtain ⟨⟨-, c1, -, -, -, c5⟩, cf⟩ := HAG.out.cells
 go_wp2_with fail
 refine (variable_any HAG.out st (by have := HA0.out.cnt; simp only [QS.go]; omega) (by have := HA0.out.nm; simp only [QS.go]; omega)).mono ?_
 rintro e w2 ⟨vn, nv2, rfl, hv, hA2, hF2⟩
 have HA2 := Lib.hid hA2
 have HF2 := Lib.hid (HFG.out.trans hF2)
 have HR2 := Lib.hid (hF2.box HAG.out HRG.out (by decide) (by decide))
 have HVV := Lib.hid hv
 clear hv hA2 hF2 t0 t1 t2 t3 t4 t5 tf c1 c5 cf
 have HFIN := Lib.hid (fin_post (res := R) (p := 0) HA2.out HF2.out HV.out.ge HV.out.rb HR2.out (leaf_new _ (br + 1) 1 vn [] (by decide)) (Nat.lt_succ_self _) (by rw [HR.out, HVV.out]; exact ⟨rfl, rfl⟩))
 have HC4 := Lib.hid (blk_set4 HR2.out rfl (.int .i64 1) (.int .i64 vn) (.string ⟨#[]⟩) (.slice none 0 0))
 obtain ⟨r0, r1, r2, r3, rf⟩ := four_at HR2.out
 go_wp2_with fail
 obtain ⟨z0, z1, z2, z3, -⟩ := four_at HC4.out
 refine ⟨rfl, .tuple #[.agg #[.int .i64 1, .int .i64 vn, .string ⟨#[]⟩, .slice none 0 0], .int .i64 0], by simp [results, Tryz.results66, go_sem, z0, z1, z2, z3], ?_⟩
 rw [HP.out]
 exact HFIN.out
set_option maxHeartbeats 8000000 in
theorem prim_bad {E : RqE} {u : World} {nv : Value} {q : QS} (h : RqAt E u nv q false) (most : Int) (t : Tok) (ht : t = peekF E.ts q.at') (R : Except Nat ((Tm × Int) × QS)) (hR : R = .error q.at') (h3 : t.kind ≠ 3) (h4 : t.kind ≠ 4) (h5 : t.kind ≠ 5) (h1 : t.kind ≠ 1) (h2 : t.kind ≠ 2) (q40 : isP E.ts q.at' 40 = false) (q91 : isP E.ts q.at' 91 = false) (q123 : isP E.ts q.at' 123 = false) :
    Calls Tryz.prog 66 #[.pointer (some ⟨E.rb, 0, none⟩), .int .i64 most] u fun e u' => RqPost E u nv R e u' := by
 obtain ⟨P, hP⟩ : ∃ P : Ending → World → Prop, P = fun e u' => RqPost E u nv R e u' := ⟨_, rfl⟩
 rw [← hP]
 have HP := Lib.hid hP
 have HA0 := Lib.hid h
 have hlt : t.kind ≠ 0 → q.at' < E.ts.length := fun h => peek_lt (by rw [← ht]; exact h)
 have HTK := Lib.hid ht
 have HR := Lib.hid hR
 clear ht hP hR h
 obtain ⟨k, ln, tn, st, op, ti⟩ := t
 simp only at HR hlt h3 h4 h5 h1 h2
 have k3 : (k == 3) = false := beq_eq_false_iff_ne.2 h3
 have k4 : (k == 4) = false := beq_eq_false_iff_ne.2 h4
 have k5 : (k == 5) = false := beq_eq_false_iff_ne.2 h5
 have k1 : (k == 1) = false := beq_eq_false_iff_ne.2 h1
 have k2 : (k == 2) = false := beq_eq_false_iff_ne.2 h2
 clear h3 h4 h5 h1 h2
 go_enter Tryz.func66, Tryz.ntmps66
 go_wp2_with fail
 refine (look_any (HA0.out.later ((Below.refl _ _).alloc (Nat.le_refl _) _))).mono ?_
 rintro e w1 ⟨rfl, hb1⟩
 rw [← HTK.out]
 simp only [tokW]
 obtain ⟨V, br, bt, hV, hbr, hbt, hPV⟩ := prim_pre HA0.out hb1 ⟨k, ln, tn, st, op, ti⟩
 have HV := Lib.hid hPV
 clear hPV hb1
 simp only at hV
 go_upto_region 3 with fail
 rw [← hV, ← hbr, ← hbt]
 clear hV hbr hbt
 obtain ⟨t0, t1, t2, t3, t4, t5, tf⟩ := six_at HV.out.tok
 simp only at t0 t1 t2 t3 t4 t5
 obtain ⟨⟨-, c1, -, -, -, c5⟩, cf⟩ := HV.out.at'.cells
 go_wp2_with fail
 refine (punctQ_any HV.out.at' 40).mono ?_
 rintro e w2 ⟨rfl, hb2⟩
 rw [q40]
 replace HV := Lib.hid (HV.out.later hb2)
 clear hb2 t0 t1 t2 t3 t4 t5 tf c1 c5 cf
 obtain ⟨V, rfl⟩ : ∃ V : World, V = w2 := ⟨_, rfl⟩
 obtain ⟨t0, t1, t2, t3, t4, t5, tf⟩ := six_at HV.out.tok
 simp only at t0 t1 t2 t3 t4 t5
 obtain ⟨⟨-, c1, -, -, -, c5⟩, cf⟩ := HV.out.at'.cells
 go_wp2_with fail
 refine (punctQ_any HV.out.at' 91).mono ?_
 rintro e w2 ⟨rfl, hb2⟩
 rw [q91]
 replace HV := Lib.hid (HV.out.later hb2)
 clear hb2 t0 t1 t2 t3 t4 t5 tf c1 c5 cf
 obtain ⟨V, rfl⟩ : ∃ V : World, V = w2 := ⟨_, rfl⟩
 obtain ⟨t0, t1, t2, t3, t4, t5, tf⟩ := six_at HV.out.tok
 simp only at t0 t1 t2 t3 t4 t5
 obtain ⟨⟨-, c1, -, -, -, c5⟩, cf⟩ := HV.out.at'.cells
 go_wp2_with fail
 refine (punctQ_any HV.out.at' 123).mono ?_
 rintro e w2 ⟨rfl, hb2⟩
 rw [q123]
 replace HV := Lib.hid (HV.out.later hb2)
 clear hb2 t0 t1 t2 t3 t4 t5 tf c1 c5 cf
 obtain ⟨V, rfl⟩ : ∃ V : World, V = w2 := ⟨_, rfl⟩
 obtain ⟨t0, t1, t2, t3, t4, t5, tf⟩ := six_at HV.out.tok
 simp only at t0 t1 t2 t3 t4 t5
 obtain ⟨⟨-, c1, -, -, -, c5⟩, cf⟩ := HV.out.at'.cells
 obtain ⟨G, hG⟩ : ∃ G, G = V.setCell ⟨E.rb, 5, none⟩ (.bool true) := ⟨_, rfl⟩
 have HAG : Hid (RqAt E G nv q true) := Lib.hid (by rw [hG]; exact HV.out.at'.spoil)
 have HFG : Hid (RqF E u nv G nv) := Lib.hid (by rw [hG]; exact HV.out.fr.set (.inl rfl) _)
 have HRG : Hid (G.heap[br]? = some (.cells #[.int .i64 0, .int .i64 0, .string ⟨#[]⟩, .slice none 0 0] 34 (0, 0))) := Lib.hid (by rw [hG, Below.heap_setCell _ _ _ _ (by have := HV.out.rb; show br ≠ E.rb; omega)]; exact HV.out.res)
 have HZG : Hid (G.heap[bt + 1]? = some (.cells #[.int .i64 0, .int .i64 0, .string ⟨#[]⟩, .slice none 0 0] 34 (0, 0))) := Lib.hid (by rw [hG, Below.heap_setCell _ _ _ _ (by have := HV.out.rb; have := HV.out.lt; show bt + 1 ≠ E.rb; omega)]; exact HV.out.none)
 go_upto_region 55 with fail
 rw [← hG]
 clear hG t0 t1 t2 t3 t4 t5 tf c1 c5 cf
 obtain ⟨y0, y1, y2, y3, yf⟩ := four_at HZG.out
 have HFIN := Lib.hid (fin_post (res := R) (p := 0) HAG.out HFG.out HV.out.ge HV.out.rb HRG.out (leaf_new _ (br + 1) 0 0 [] (by decide)) (Nat.lt_succ_self _) (spoil_says HR.out rfl))
 have HC4 := Lib.hid (blk_set4 HRG.out rfl (.int .i64 0) (.int .i64 0) (.string ⟨#[]⟩) (.slice none 0 0))
 obtain ⟨r0, r1, r2, r3, rf⟩ := four_at HRG.out
 go_wp2_with fail
 obtain ⟨z0, z1, z2, z3, -⟩ := four_at HC4.out
 refine ⟨rfl, .tuple #[.agg #[.int .i64 0, .int .i64 0, .string ⟨#[]⟩, .slice none 0 0], .int .i64 0], by simp [results, Tryz.results66, go_sem, z0, z1, z2, z3], ?_⟩
 rw [HP.out]
 exact HFIN.out
theorem namedAny {n : Nat} (hT : RTermC n) {E : RqE} {u : World} {nv : Value} {q : QS} (h : RqAt E u nv q false) (hn : E.ts.length - q.at' < n) (nm : List UInt8) (hnm : nm.length ≤ 1000000) (opn may : Bool) (most : Int) :
    Calls Tryz.prog 95 #[.pointer (some ⟨E.rb, 0, none⟩), .string ⟨nm.toArray⟩, .bool opn, .bool may, .int .i64 most] u fun e u' => RqPost E u nv (namedQ (opsQ E.es) E.ts (termQ (opsQ E.es) E.ts n) nm opn may most q) e u' := by
 cases opn with
 | true => exact named_open hT h hn nm hnm may most
 | false => exact named_shut hT h hn nm hnm may most
set_option maxHeartbeats 8000000 in
theorem prim_12 {n : Nat} (hT : RTermC n) {E : RqE} {u : World} {nv : Value} {q : QS} (h : RqAt E u nv q false) (hn : E.ts.length - q.at' < n + 1) (most : Int) (t : Tok) (ht : t = peekF E.ts q.at') (R : Except Nat ((Tm × Int) × QS)) (hR : R = namedQ (opsQ E.es) E.ts (termQ (opsQ E.es) E.ts n) t.s t.opn true most (q.go 1)) (hk : t.kind = 1 ∨ t.kind = 2) (q40 : isP E.ts q.at' 40 = false) (q91 : isP E.ts q.at' 91 = false) (q123 : isP E.ts q.at' 123 = false) (hno : ¬ (t.kind = 1 ∧ t.s = [45] ∧ (peekF E.ts (q.at' + 1)).kind = 3 ∧ (peekF E.ts (q.at' + 1)).tight = true)) :
    Calls Tryz.prog 66 #[.pointer (some ⟨E.rb, 0, none⟩), .int .i64 most] u fun e u' => RqPost E u nv R e u' := by
 obtain ⟨P, hP⟩ : ∃ P : Ending → World → Prop, P = fun e u' => RqPost E u nv R e u' := ⟨_, rfl⟩
 rw [← hP]
 have HP := Lib.hid hP
 have HA0 := Lib.hid h
 have hlt : t.kind ≠ 0 → q.at' < E.ts.length := fun h => peek_lt (by rw [← ht]; exact h)
 have HTK := Lib.hid ht
 have HR := Lib.hid hR
 have HT := Lib.hid hT
 have HN := Lib.hid hn
 clear ht hP hR h hT hn
 obtain ⟨k, ln, tn, st, op, ti⟩ := t
 simp only at HR hlt hk hno
 have hsh : st.length ≤ 1000000 := by
  have h1 := HTK.out
  unfold peekF at h1
  rw [List.getD_eq_getElem?_getD] at h1
  cases hx : E.ts[q.at']? with
  | none => rw [hx] at h1; rw [show st = [] from congrArg Tok.s h1]; exact Nat.zero_le _
  | some y => rw [hx] at h1; rw [show st = y.s from congrArg Tok.s h1]; exact HA0.out.short y (List.mem_of_getElem? hx)
 obtain ⟨nx, hnx⟩ : ∃ t, t = peekF E.ts (q.at' + 1) := ⟨_, rfl⟩
 rw [← hnx] at hno
 have HPN := Lib.hid hnx
 clear hnx
 obtain ⟨nk, nl, nn, ns, nop, nti⟩ := nx
 simp only at hno
 rcases hk with hk | hk
 ·subst hk
  go_enter Tryz.func66, Tryz.ntmps66
  go_wp2_with fail
  refine (look_any (HA0.out.later ((Below.refl _ _).alloc (Nat.le_refl _) _))).mono ?_
  rintro e w1 ⟨rfl, hb1⟩
  rw [← HTK.out]
  simp only [tokW]
  obtain ⟨V, br, bt, hV, hbr, hbt, hPV⟩ := prim_pre HA0.out hb1 ⟨1, ln, tn, st, op, ti⟩
  have HV := Lib.hid hPV
  clear hPV hb1
  simp only at hV
  go_upto_region 3 with fail
  rw [← hV, ← hbr, ← hbt]
  clear hV hbr hbt
  obtain ⟨t0, t1, t2, t3, t4, t5, tf⟩ := six_at HV.out.tok
  simp only at t0 t1 t2 t3 t4 t5
  obtain ⟨⟨-, c1, -, -, -, c5⟩, cf⟩ := HV.out.at'.cells
  go_wp2_with fail
  refine (punctQ_any HV.out.at' 40).mono ?_
  rintro e w2 ⟨rfl, hb2⟩
  rw [q40]
  replace HV := Lib.hid (HV.out.later hb2)
  clear hb2 t0 t1 t2 t3 t4 t5 tf c1 c5 cf
  obtain ⟨V, rfl⟩ : ∃ V : World, V = w2 := ⟨_, rfl⟩
  obtain ⟨t0, t1, t2, t3, t4, t5, tf⟩ := six_at HV.out.tok
  simp only at t0 t1 t2 t3 t4 t5
  obtain ⟨⟨-, c1, -, -, -, c5⟩, cf⟩ := HV.out.at'.cells
  go_wp2_with fail
  refine (punctQ_any HV.out.at' 91).mono ?_
  rintro e w2 ⟨rfl, hb2⟩
  rw [q91]
  replace HV := Lib.hid (HV.out.later hb2)
  clear hb2 t0 t1 t2 t3 t4 t5 tf c1 c5 cf
  obtain ⟨V, rfl⟩ : ∃ V : World, V = w2 := ⟨_, rfl⟩
  obtain ⟨t0, t1, t2, t3, t4, t5, tf⟩ := six_at HV.out.tok
  simp only at t0 t1 t2 t3 t4 t5
  obtain ⟨⟨-, c1, -, -, -, c5⟩, cf⟩ := HV.out.at'.cells
  go_wp2_with fail
  refine (punctQ_any HV.out.at' 123).mono ?_
  rintro e w2 ⟨rfl, hb2⟩
  rw [q123]
  replace HV := Lib.hid (HV.out.later hb2)
  clear hb2 t0 t1 t2 t3 t4 t5 tf c1 c5 cf
  obtain ⟨V, rfl⟩ : ∃ V : World, V = w2 := ⟨_, rfl⟩
  obtain ⟨t0, t1, t2, t3, t4, t5, tf⟩ := six_at HV.out.tok
  simp only at t0 t1 t2 t3 t4 t5
  obtain ⟨⟨-, c1, -, -, -, c5⟩, cf⟩ := HV.out.at'.cells
  replace hlt := hlt (by decide)
  have hf := HV.out.at'.few
  have hwr : IntKind.i64.wrap ((q.at' : Int) + 1) = (q.at' : Int) + 1 := IntWalk.i64_in _ (by omega)
  obtain ⟨G, hG⟩ : ∃ G, G = V.setCell ⟨E.rb, 1, none⟩ (.int .i64 ((q.at' : Int) + 1)) := ⟨_, rfl⟩
  have HAG : Hid (RqAt E G nv (q.go 1) false) := Lib.hid (by rw [hG]; exact HV.out.at'.step hlt)
  have HFG : Hid (RqF E u nv G nv) := Lib.hid (by rw [hG]; exact HV.out.fr.set (.inl rfl) _)
  have HRG : Hid (G.heap[br]? = some (.cells #[.int .i64 0, .int .i64 0, .string ⟨#[]⟩, .slice none 0 0] 34 (0, 0))) := Lib.hid (by rw [hG, Below.heap_setCell _ _ _ _ (by have := HV.out.rb; show br ≠ E.rb; omega)]; exact HV.out.res)
  have HTG : Hid (G.heap[bt]? = some (.cells #[.int .i64 1, .int .i64 ln, .int .i64 tn, .string ⟨st.toArray⟩, .bool op, .bool ti] 48 (0, 0))) := Lib.hid (by rw [hG, Below.heap_setCell _ _ _ _ (by have := HV.out.rb; have := HV.out.lt; show bt ≠ E.rb; omega)]; exact HV.out.tok)
  clear hf
  go_upto_region 49 with fail
  rw [← hG]
  clear hG t0 t1 t2 t3 t4 t5 tf c1 c5 cf
  obtain ⟨t0, t1, t2, t3, t4, t5, tf⟩ := six_at HTG.out
  obtain ⟨⟨-, c1, -, -, -, c5⟩, cf⟩ := HAG.out.cells
  go_wp2_with fail
  refine (look_any HAG.out).mono ?_
  rintro e w2 ⟨rfl, hb2⟩
  rw [show (q.go 1).at' = q.at' + 1 from rfl, ← HPN.out]
  simp only [tokW]
  obtain ⟨V2, hV2⟩ : ∃ V, V = w2.alloc (.cells #[.int .i64 nk, .int .i64 nl, .int .i64 nn, .string ⟨ns.toArray⟩, .bool nop, .bool nti] 48) := ⟨_, rfl⟩
  obtain ⟨b2, hb2e⟩ : ∃ b, b = w2.heap.size := ⟨_, rfl⟩
  have hbV2 : Below G.heap.size G V2 := by rw [hV2]; exact hb2.alloc hb2.size _
  have HN2 : Hid (V2.heap[b2]? = some (.cells #[.int .i64 nk, .int .i64 nl, .int .i64 nn, .string ⟨ns.toArray⟩, .bool nop, .bool nti] 48 (0, 0))) := Lib.hid (by rw [hV2, hb2e]; exact heap_alloc_new _ _)
  have HA2 := Lib.hid (HAG.out.later hbV2)
  have HF2 := Lib.hid (HFG.out.below hbV2)
  have HR2 := Lib.hid ((hbV2.block br (Array.getElem?_eq_some_iff.1 HRG.out).1).trans HRG.out)
  have HT2 := Lib.hid ((hbV2.block bt (Array.getElem?_eq_some_iff.1 HTG.out).1).trans HTG.out)
  clear hb2 hbV2 t0 t1 t2 t3 t4 t5 tf c1 c5 cf
  go_upto_region 50 with fail
  rw [← hV2, ← hb2e]
  clear hV2 hb2e
  obtain ⟨t0, t1, t2, t3, t4, t5, tf⟩ := six_at HT2.out
  obtain ⟨n0, n1, n2, n3, n4, n5, nf⟩ := six_at HN2.out
  obtain ⟨⟨-, c1, -, -, -, c5⟩, cf⟩ := HA2.out.cells
  by_cases s1 : st = [45]
  ·have d1 : (st == [45]) = true := by rw [s1]; rfl
   by_cases s2 : nk = 3
   ·have d2 : (nk == 3) = true := by rw [s2]; rfl
    have s3 : nti = false := by cases nti with | false => rfl | true => exact absurd ⟨by trivial, s1, s2, by trivial⟩ hno
    clear s1 s2 hno
    subst s3
    go_wp2_with fail
    refine (namedAny HT.out HA2.out (by have := HN.out; simp only [QS.go]; omega) st hsh op true most).mono ?_
    rintro e w3 ⟨x, t9, p, nv3, q3, bad3, rfl, hA3, hF3, ht3, hs3⟩
    rw [tvQ_lit]
    have hbl : br < V2.heap.size := (Array.getElem?_eq_some_iff.1 HR2.out).1
    have HA3 := Lib.hid hA3
    have HF3 := Lib.hid (HF2.out.trans hF3)
    have HR3 := Lib.hid (hF3.box HA2.out HR2.out (by decide) (by decide))
    have HT3 := Lib.hid ht3
    have HS3 : Hid (Says R bad3 (t9, p) q3) := Lib.hid (by rw [HR.out]; exact hs3)
    have HBL := Lib.hid hbl
    clear hA3 hF3 ht3 hs3 hbl t0 t1 t2 t3 t4 t5 tf n0 n1 n2 n3 n4 n5 nf c1 c5 cf
    have HFIN := Lib.hid (fin_post (res := R) (p := p) HA3.out HF3.out HV.out.ge HV.out.rb HR3.out HT3.out HBL.out HS3.out)
    have HC4 := Lib.hid (blk_set4 HR3.out rfl (.int .i64 x.k) (.int .i64 x.n) (.string ⟨x.s.toArray⟩) (.slice x.A x.len x.cap))
    obtain ⟨r0, r1, r2, r3, rf⟩ := four_at HR3.out
    go_wp2_with fail
    obtain ⟨z0, z1, z2, z3, -⟩ := four_at HC4.out
    refine ⟨rfl, .tuple #[.agg #[.int .i64 x.k, .int .i64 x.n, .string ⟨x.s.toArray⟩, .slice x.A x.len x.cap], .int .i64 p], by simp [results, Tryz.results66, go_sem, z0, z1, z2, z3], ?_⟩
    rw [HP.out]
    exact HFIN.out
   ·have d2 : (nk == 3) = false := beq_eq_false_iff_ne.2 s2
    clear s1 s2 hno
    go_wp2_with fail
    refine (namedAny HT.out HA2.out (by have := HN.out; simp only [QS.go]; omega) st hsh op true most).mono ?_
    rintro e w3 ⟨x, t9, p, nv3, q3, bad3, rfl, hA3, hF3, ht3, hs3⟩
    rw [tvQ_lit]
    have hbl : br < V2.heap.size := (Array.getElem?_eq_some_iff.1 HR2.out).1
    have HA3 := Lib.hid hA3
    have HF3 := Lib.hid (HF2.out.trans hF3)
    have HR3 := Lib.hid (hF3.box HA2.out HR2.out (by decide) (by decide))
    have HT3 := Lib.hid ht3
    have HS3 : Hid (Says R bad3 (t9, p) q3) := Lib.hid (by rw [HR.out]; exact hs3)
    have HBL := Lib.hid hbl
    clear hA3 hF3 ht3 hs3 hbl t0 t1 t2 t3 t4 t5 tf n0 n1 n2 n3 n4 n5 nf c1 c5 cf
    have HFIN := Lib.hid (fin_post (res := R) (p := p) HA3.out HF3.out HV.out.ge HV.out.rb HR3.out HT3.out HBL.out HS3.out)
    have HC4 := Lib.hid (blk_set4 HR3.out rfl (.int .i64 x.k) (.int .i64 x.n) (.string ⟨x.s.toArray⟩) (.slice x.A x.len x.cap))
    obtain ⟨r0, r1, r2, r3, rf⟩ := four_at HR3.out
    go_wp2_with fail
    obtain ⟨z0, z1, z2, z3, -⟩ := four_at HC4.out
    refine ⟨rfl, .tuple #[.agg #[.int .i64 x.k, .int .i64 x.n, .string ⟨x.s.toArray⟩, .slice x.A x.len x.cap], .int .i64 p], by simp [results, Tryz.results66, go_sem, z0, z1, z2, z3], ?_⟩
    rw [HP.out]
    exact HFIN.out
  ·have d1 : (st == [45]) = false := beq_eq_false_iff_ne.2 s1
   clear s1 hno
   go_wp2_with fail
   refine (namedAny HT.out HA2.out (by have := HN.out; simp only [QS.go]; omega) st hsh op true most).mono ?_
   rintro e w3 ⟨x, t9, p, nv3, q3, bad3, rfl, hA3, hF3, ht3, hs3⟩
   rw [tvQ_lit]
   have hbl : br < V2.heap.size := (Array.getElem?_eq_some_iff.1 HR2.out).1
   have HA3 := Lib.hid hA3
   have HF3 := Lib.hid (HF2.out.trans hF3)
   have HR3 := Lib.hid (hF3.box HA2.out HR2.out (by decide) (by decide))
   have HT3 := Lib.hid ht3
   have HS3 : Hid (Says R bad3 (t9, p) q3) := Lib.hid (by rw [HR.out]; exact hs3)
   have HBL := Lib.hid hbl
   clear hA3 hF3 ht3 hs3 hbl t0 t1 t2 t3 t4 t5 tf n0 n1 n2 n3 n4 n5 nf c1 c5 cf
   have HFIN := Lib.hid (fin_post (res := R) (p := p) HA3.out HF3.out HV.out.ge HV.out.rb HR3.out HT3.out HBL.out HS3.out)
   have HC4 := Lib.hid (blk_set4 HR3.out rfl (.int .i64 x.k) (.int .i64 x.n) (.string ⟨x.s.toArray⟩) (.slice x.A x.len x.cap))
   obtain ⟨r0, r1, r2, r3, rf⟩ := four_at HR3.out
   go_wp2_with fail
   obtain ⟨z0, z1, z2, z3, -⟩ := four_at HC4.out
   refine ⟨rfl, .tuple #[.agg #[.int .i64 x.k, .int .i64 x.n, .string ⟨x.s.toArray⟩, .slice x.A x.len x.cap], .int .i64 p], by simp [results, Tryz.results66, go_sem, z0, z1, z2, z3], ?_⟩
   rw [HP.out]
   exact HFIN.out
 ·subst hk
  clear hno
  go_enter Tryz.func66, Tryz.ntmps66
  go_wp2_with fail
  refine (look_any (HA0.out.later ((Below.refl _ _).alloc (Nat.le_refl _) _))).mono ?_
  rintro e w1 ⟨rfl, hb1⟩
  rw [← HTK.out]
  simp only [tokW]
  obtain ⟨V, br, bt, hV, hbr, hbt, hPV⟩ := prim_pre HA0.out hb1 ⟨2, ln, tn, st, op, ti⟩
  have HV := Lib.hid hPV
  clear hPV hb1
  simp only at hV
  go_upto_region 3 with fail
  rw [← hV, ← hbr, ← hbt]
  clear hV hbr hbt
  obtain ⟨t0, t1, t2, t3, t4, t5, tf⟩ := six_at HV.out.tok
  simp only at t0 t1 t2 t3 t4 t5
  obtain ⟨⟨-, c1, -, -, -, c5⟩, cf⟩ := HV.out.at'.cells
  go_wp2_with fail
  refine (punctQ_any HV.out.at' 40).mono ?_
  rintro e w2 ⟨rfl, hb2⟩
  rw [q40]
  replace HV := Lib.hid (HV.out.later hb2)
  clear hb2 t0 t1 t2 t3 t4 t5 tf c1 c5 cf
  obtain ⟨V, rfl⟩ : ∃ V : World, V = w2 := ⟨_, rfl⟩
  obtain ⟨t0, t1, t2, t3, t4, t5, tf⟩ := six_at HV.out.tok
  simp only at t0 t1 t2 t3 t4 t5
  obtain ⟨⟨-, c1, -, -, -, c5⟩, cf⟩ := HV.out.at'.cells
  go_wp2_with fail
  refine (punctQ_any HV.out.at' 91).mono ?_
  rintro e w2 ⟨rfl, hb2⟩
  rw [q91]
  replace HV := Lib.hid (HV.out.later hb2)
  clear hb2 t0 t1 t2 t3 t4 t5 tf c1 c5 cf
  obtain ⟨V, rfl⟩ : ∃ V : World, V = w2 := ⟨_, rfl⟩
  obtain ⟨t0, t1, t2, t3, t4, t5, tf⟩ := six_at HV.out.tok
  simp only at t0 t1 t2 t3 t4 t5
  obtain ⟨⟨-, c1, -, -, -, c5⟩, cf⟩ := HV.out.at'.cells
  go_wp2_with fail
  refine (punctQ_any HV.out.at' 123).mono ?_
  rintro e w2 ⟨rfl, hb2⟩
  rw [q123]
  replace HV := Lib.hid (HV.out.later hb2)
  clear hb2 t0 t1 t2 t3 t4 t5 tf c1 c5 cf
  obtain ⟨V, rfl⟩ : ∃ V : World, V = w2 := ⟨_, rfl⟩
  obtain ⟨t0, t1, t2, t3, t4, t5, tf⟩ := six_at HV.out.tok
  simp only at t0 t1 t2 t3 t4 t5
  obtain ⟨⟨-, c1, -, -, -, c5⟩, cf⟩ := HV.out.at'.cells
  replace hlt := hlt (by decide)
  have hf := HV.out.at'.few
  have hwr : IntKind.i64.wrap ((q.at' : Int) + 1) = (q.at' : Int) + 1 := IntWalk.i64_in _ (by omega)
  obtain ⟨G, hG⟩ : ∃ G, G = V.setCell ⟨E.rb, 1, none⟩ (.int .i64 ((q.at' : Int) + 1)) := ⟨_, rfl⟩
  have HAG : Hid (RqAt E G nv (q.go 1) false) := Lib.hid (by rw [hG]; exact HV.out.at'.step hlt)
  have HFG : Hid (RqF E u nv G nv) := Lib.hid (by rw [hG]; exact HV.out.fr.set (.inl rfl) _)
  have HRG : Hid (G.heap[br]? = some (.cells #[.int .i64 0, .int .i64 0, .string ⟨#[]⟩, .slice none 0 0] 34 (0, 0))) := Lib.hid (by rw [hG, Below.heap_setCell _ _ _ _ (by have := HV.out.rb; show br ≠ E.rb; omega)]; exact HV.out.res)
  have HTG : Hid (G.heap[bt]? = some (.cells #[.int .i64 2, .int .i64 ln, .int .i64 tn, .string ⟨st.toArray⟩, .bool op, .bool ti] 48 (0, 0))) := Lib.hid (by rw [hG, Below.heap_setCell _ _ _ _ (by have := HV.out.rb; have := HV.out.lt; show bt ≠ E.rb; omega)]; exact HV.out.tok)
  clear hf
  go_upto_region 49 with fail
  rw [← hG]
  clear hG t0 t1 t2 t3 t4 t5 tf c1 c5 cf
  obtain ⟨t0, t1, t2, t3, t4, t5, tf⟩ := six_at HTG.out
  obtain ⟨⟨-, c1, -, -, -, c5⟩, cf⟩ := HAG.out.cells
  go_wp2_with fail
  refine (look_any HAG.out).mono ?_
  rintro e w2 ⟨rfl, hb2⟩
  rw [show (q.go 1).at' = q.at' + 1 from rfl, ← HPN.out]
  simp only [tokW]
  obtain ⟨V2, hV2⟩ : ∃ V, V = w2.alloc (.cells #[.int .i64 nk, .int .i64 nl, .int .i64 nn, .string ⟨ns.toArray⟩, .bool nop, .bool nti] 48) := ⟨_, rfl⟩
  obtain ⟨b2, hb2e⟩ : ∃ b, b = w2.heap.size := ⟨_, rfl⟩
  have hbV2 : Below G.heap.size G V2 := by rw [hV2]; exact hb2.alloc hb2.size _
  have HN2 : Hid (V2.heap[b2]? = some (.cells #[.int .i64 nk, .int .i64 nl, .int .i64 nn, .string ⟨ns.toArray⟩, .bool nop, .bool nti] 48 (0, 0))) := Lib.hid (by rw [hV2, hb2e]; exact heap_alloc_new _ _)
  have HA2 := Lib.hid (HAG.out.later hbV2)
  have HF2 := Lib.hid (HFG.out.below hbV2)
  have HR2 := Lib.hid ((hbV2.block br (Array.getElem?_eq_some_iff.1 HRG.out).1).trans HRG.out)
  have HT2 := Lib.hid ((hbV2.block bt (Array.getElem?_eq_some_iff.1 HTG.out).1).trans HTG.out)
  clear hb2 hbV2 t0 t1 t2 t3 t4 t5 tf c1 c5 cf
  go_upto_region 50 with fail
  rw [← hV2, ← hb2e]
  clear hV2 hb2e
  obtain ⟨t0, t1, t2, t3, t4, t5, tf⟩ := six_at HT2.out
  obtain ⟨n0, n1, n2, n3, n4, n5, nf⟩ := six_at HN2.out
  obtain ⟨⟨-, c1, -, -, -, c5⟩, cf⟩ := HA2.out.cells
  go_wp2_with fail
  refine (namedAny HT.out HA2.out (by have := HN.out; simp only [QS.go]; omega) st hsh op true most).mono ?_
  rintro e w3 ⟨x, t9, p, nv3, q3, bad3, rfl, hA3, hF3, ht3, hs3⟩
  rw [tvQ_lit]
  have hbl : br < V2.heap.size := (Array.getElem?_eq_some_iff.1 HR2.out).1
  have HA3 := Lib.hid hA3
  have HF3 := Lib.hid (HF2.out.trans hF3)
  have HR3 := Lib.hid (hF3.box HA2.out HR2.out (by decide) (by decide))
  have HT3 := Lib.hid ht3
  have HS3 : Hid (Says R bad3 (t9, p) q3) := Lib.hid (by rw [HR.out]; exact hs3)
  have HBL := Lib.hid hbl
  clear hA3 hF3 ht3 hs3 hbl t0 t1 t2 t3 t4 t5 tf n0 n1 n2 n3 n4 n5 nf c1 c5 cf
  have HFIN := Lib.hid (fin_post (res := R) (p := p) HA3.out HF3.out HV.out.ge HV.out.rb HR3.out HT3.out HBL.out HS3.out)
  have HC4 := Lib.hid (blk_set4 HR3.out rfl (.int .i64 x.k) (.int .i64 x.n) (.string ⟨x.s.toArray⟩) (.slice x.A x.len x.cap))
  obtain ⟨r0, r1, r2, r3, rf⟩ := four_at HR3.out
  go_wp2_with fail
  obtain ⟨z0, z1, z2, z3, -⟩ := four_at HC4.out
  refine ⟨rfl, .tuple #[.agg #[.int .i64 x.k, .int .i64 x.n, .string ⟨x.s.toArray⟩, .slice x.A x.len x.cap], .int .i64 p], by simp [results, Tryz.results66, go_sem, z0, z1, z2, z3], ?_⟩
  rw [HP.out]
  exact HFIN.out
set_option maxHeartbeats 8000000 in
theorem prim_neg {E : RqE} {u : World} {nv : Value} {q : QS} (h : RqAt E u nv q false) (most : Int) (t : Tok) (ht : t = peekF E.ts q.at') (R : Except Nat ((Tm × Int) × QS)) (hR : R = .ok ((intT (negI (peekF E.ts (q.at' + 1)).n), 0), q.go 2)) (hk : t.kind = 1) (hs1 : t.s = [45]) (hk2 : (peekF E.ts (q.at' + 1)).kind = 3) (hti : (peekF E.ts (q.at' + 1)).tight = true) (q40 : isP E.ts q.at' 40 = false) (q91 : isP E.ts q.at' 91 = false) (q123 : isP E.ts q.at' 123 = false) :
    Calls Tryz.prog 66 #[.pointer (some ⟨E.rb, 0, none⟩), .int .i64 most] u fun e u' => RqPost E u nv R e u' := by
 obtain ⟨P, hP⟩ : ∃ P : Ending → World → Prop, P = fun e u' => RqPost E u nv R e u' := ⟨_, rfl⟩
 rw [← hP]
 have HP := Lib.hid hP
 have HA0 := Lib.hid h
 have hlt : t.kind ≠ 0 → q.at' < E.ts.length := fun h => peek_lt (by rw [← ht]; exact h)
 have HTK := Lib.hid ht
 have HR := Lib.hid hR
 clear ht hP hR h
 obtain ⟨k, ln, tn, st, op, ti⟩ := t
 simp only at HR hlt hk hs1
 have hl2 : q.at' + 1 < E.ts.length := peek_lt (by rw [hk2]; decide)
 have hnum : -9223372036854775808 ≤ (peekF E.ts (q.at' + 1)).n ∧ (peekF E.ts (q.at' + 1)).n ≤ 9223372036854775807 := by
  have hx := List.getElem?_eq_getElem hl2
  unfold peekF
  rw [List.getD_eq_getElem?_getD, hx]
  exact HA0.out.num _ (List.mem_of_getElem? hx)
 obtain ⟨nx, hnx⟩ : ∃ t, t = peekF E.ts (q.at' + 1) := ⟨_, rfl⟩
 rw [← hnx] at hk2 hti hnum HR
 have HPN := Lib.hid hnx
 clear hnx
 obtain ⟨nk, nl, nn, ns, nop, nti⟩ := nx
 simp only at hk2 hti hnum HR
 subst hk hs1 hk2 hti
 have hwn : IntKind.i64.wrap (-nn) = negI nn := neg_wrap nn hnum.1 hnum.2
 have HL2 := Lib.hid hl2
 clear hnum hl2
 go_enter Tryz.func66, Tryz.ntmps66
 go_wp2_with fail
 refine (look_any (HA0.out.later ((Below.refl _ _).alloc (Nat.le_refl _) _))).mono ?_
 rintro e w1 ⟨rfl, hb1⟩
 rw [← HTK.out]
 simp only [tokW]
 obtain ⟨V, br, bt, hV, hbr, hbt, hPV⟩ := prim_pre HA0.out hb1 ⟨1, ln, tn, [45], op, ti⟩
 have HV := Lib.hid hPV
 clear hPV hb1
 simp only at hV
 go_upto_region 3 with fail
 rw [← hV, ← hbr, ← hbt]
 clear hV hbr hbt
 obtain ⟨t0, t1, t2, t3, t4, t5, tf⟩ := six_at HV.out.tok
 simp only at t0 t1 t2 t3 t4 t5
 obtain ⟨⟨-, c1, -, -, -, c5⟩, cf⟩ := HV.out.at'.cells
 go_wp2_with fail
 refine (punctQ_any HV.out.at' 40).mono ?_
 rintro e w2 ⟨rfl, hb2⟩
 rw [q40]
 replace HV := Lib.hid (HV.out.later hb2)
 clear hb2 t0 t1 t2 t3 t4 t5 tf c1 c5 cf
 obtain ⟨V, rfl⟩ : ∃ V : World, V = w2 := ⟨_, rfl⟩
 obtain ⟨t0, t1, t2, t3, t4, t5, tf⟩ := six_at HV.out.tok
 simp only at t0 t1 t2 t3 t4 t5
 obtain ⟨⟨-, c1, -, -, -, c5⟩, cf⟩ := HV.out.at'.cells
 go_wp2_with fail
 refine (punctQ_any HV.out.at' 91).mono ?_
 rintro e w2 ⟨rfl, hb2⟩
 rw [q91]
 replace HV := Lib.hid (HV.out.later hb2)
 clear hb2 t0 t1 t2 t3 t4 t5 tf c1 c5 cf
 obtain ⟨V, rfl⟩ : ∃ V : World, V = w2 := ⟨_, rfl⟩
 obtain ⟨t0, t1, t2, t3, t4, t5, tf⟩ := six_at HV.out.tok
 simp only at t0 t1 t2 t3 t4 t5
 obtain ⟨⟨-, c1, -, -, -, c5⟩, cf⟩ := HV.out.at'.cells
 go_wp2_with fail
 refine (punctQ_any HV.out.at' 123).mono ?_
 rintro e w2 ⟨rfl, hb2⟩
 rw [q123]
 replace HV := Lib.hid (HV.out.later hb2)
 clear hb2 t0 t1 t2 t3 t4 t5 tf c1 c5 cf
 obtain ⟨V, rfl⟩ : ∃ V : World, V = w2 := ⟨_, rfl⟩
 obtain ⟨t0, t1, t2, t3, t4, t5, tf⟩ := six_at HV.out.tok
 simp only at t0 t1 t2 t3 t4 t5
 obtain ⟨⟨-, c1, -, -, -, c5⟩, cf⟩ := HV.out.at'.cells
 replace hlt := hlt (by decide)
 have hf := HV.out.at'.few
 have hwr : IntKind.i64.wrap ((q.at' : Int) + 1) = (q.at' : Int) + 1 := IntWalk.i64_in _ (by omega)
 obtain ⟨G, hG⟩ : ∃ G, G = V.setCell ⟨E.rb, 1, none⟩ (.int .i64 ((q.at' : Int) + 1)) := ⟨_, rfl⟩
 have HAG : Hid (RqAt E G nv (q.go 1) false) := Lib.hid (by rw [hG]; exact HV.out.at'.step hlt)
 have HFG : Hid (RqF E u nv G nv) := Lib.hid (by rw [hG]; exact HV.out.fr.set (.inl rfl) _)
 have HRG : Hid (G.heap[br]? = some (.cells #[.int .i64 0, .int .i64 0, .string ⟨#[]⟩, .slice none 0 0] 34 (0, 0))) := Lib.hid (by rw [hG, Below.heap_setCell _ _ _ _ (by have := HV.out.rb; show br ≠ E.rb; omega)]; exact HV.out.res)
 have HTG : Hid (G.heap[bt]? = some (.cells #[.int .i64 1, .int .i64 ln, .int .i64 tn, .string ⟨#[45]⟩, .bool op, .bool ti] 48 (0, 0))) := Lib.hid (by rw [hG, Below.heap_setCell _ _ _ _ (by have := HV.out.rb; have := HV.out.lt; show bt ≠ E.rb; omega)]; exact HV.out.tok)
 clear hf
 go_upto_region 49 with fail
 rw [← hG]
 clear hG t0 t1 t2 t3 t4 t5 tf c1 c5 cf
 obtain ⟨t0, t1, t2, t3, t4, t5, tf⟩ := six_at HTG.out
 obtain ⟨⟨-, c1, -, -, -, c5⟩, cf⟩ := HAG.out.cells
 go_wp2_with fail
 refine (look_any HAG.out).mono ?_
 rintro e w2 ⟨rfl, hb2⟩
 rw [show (q.go 1).at' = q.at' + 1 from rfl, ← HPN.out]
 simp only [tokW]
 obtain ⟨V2, hV2⟩ : ∃ V, V = w2.alloc (.cells #[.int .i64 3, .int .i64 nl, .int .i64 nn, .string ⟨ns.toArray⟩, .bool nop, .bool true] 48) := ⟨_, rfl⟩
 obtain ⟨b2, hb2e⟩ : ∃ b, b = w2.heap.size := ⟨_, rfl⟩
 have hbV2 : Below G.heap.size G V2 := by rw [hV2]; exact hb2.alloc hb2.size _
 have HN2 : Hid (V2.heap[b2]? = some (.cells #[.int .i64 3, .int .i64 nl, .int .i64 nn, .string ⟨ns.toArray⟩, .bool nop, .bool true] 48 (0, 0))) := Lib.hid (by rw [hV2, hb2e]; exact heap_alloc_new _ _)
 have HA2 := Lib.hid (HAG.out.later hbV2)
 have HF2 := Lib.hid (HFG.out.below hbV2)
 have HR2 := Lib.hid ((hbV2.block br (Array.getElem?_eq_some_iff.1 HRG.out).1).trans HRG.out)
 have HT2 := Lib.hid ((hbV2.block bt (Array.getElem?_eq_some_iff.1 HTG.out).1).trans HTG.out)
 clear hb2 hbV2 t0 t1 t2 t3 t4 t5 tf c1 c5 cf
 go_upto_region 50 with fail
 rw [← hV2, ← hb2e]
 clear hV2 hb2e
 obtain ⟨t0, t1, t2, t3, t4, t5, tf⟩ := six_at HT2.out
 obtain ⟨n0, n1, n2, n3, n4, n5, nf⟩ := six_at HN2.out
 obtain ⟨⟨-, c1, -, -, -, c5⟩, cf⟩ := HA2.out.cells
 have hwr2 : IntKind.i64.wrap (((q.go 1).at' : Int) + 1) = ((q.go 1).at' : Int) + 1 := IntWalk.i64_in _ (by have := HL2.out; have := HA0.out.few; simp only [QS.go]; omega)
 obtain ⟨G2, hG2⟩ : ∃ G, G = V2.setCell ⟨E.rb, 1, none⟩ (.int .i64 (((q.go 1).at' : Int) + 1)) := ⟨_, rfl⟩
 have HA3 : Hid (RqAt E G2 nv (q.go 2) false) := Lib.hid (by rw [hG2]; exact HA2.out.step HL2.out)
 have HF3 : Hid (RqF E u nv G2 nv) := Lib.hid (by rw [hG2]; exact HF2.out.set (.inl rfl) _)
 have HR3 : Hid (G2.heap[br]? = some (.cells #[.int .i64 0, .int .i64 0, .string ⟨#[]⟩, .slice none 0 0] 34 (0, 0))) := Lib.hid (by rw [hG2, Below.heap_setCell _ _ _ _ (by have := HV.out.rb; show br ≠ E.rb; omega)]; exact HR2.out)
 have HN3 : Hid (G2.heap[b2]? = some (.cells #[.int .i64 3, .int .i64 nl, .int .i64 nn, .string ⟨ns.toArray⟩, .bool nop, .bool true] 48 (0, 0))) := Lib.hid (by
  rw [hG2, Below.heap_setCell _ _ _ _ fun e => ?_]
  ·exact HN2.out
  ·exact (TyQ.ne ⟨_, HN2.out⟩ HA2.out.ty (by decide)) e)
 go_upto_region 52 with fail
 rw [← hG2]
 clear hG2 t0 t1 t2 t3 t4 t5 tf n0 n1 n2 n3 n4 n5 nf c1 c5 cf
 obtain ⟨n0, n1, n2, n3, n4, n5, nf⟩ := six_at HN3.out
 have HFIN := Lib.hid (fin_post (res := R) (p := 0) HA3.out HF3.out HV.out.ge HV.out.rb HR3.out (leaf_new _ (br + 1) 2 (negI nn) [] (by decide)) (Nat.lt_succ_self _) (by rw [HR.out]; exact ⟨rfl, rfl⟩))
 have HC4 := Lib.hid (blk_set4 HR3.out rfl (.int .i64 2) (.int .i64 (negI nn)) (.string ⟨#[]⟩) (.slice none 0 0))
 obtain ⟨r0, r1, r2, r3, rf⟩ := four_at HR3.out
 go_wp2_with fail
 obtain ⟨z0, z1, z2, z3, -⟩ := four_at HC4.out
 refine ⟨rfl, .tuple #[.agg #[.int .i64 2, .int .i64 (negI nn), .string ⟨#[]⟩, .slice none 0 0], .int .i64 0], by simp [results, Tryz.results66, go_sem, z0, z1, z2, z3], ?_⟩
 rw [HP.out]
 exact HFIN.out
set_option maxHeartbeats 8000000 in
theorem prim_paren {n : Nat} (hT : RTermC n) {E : RqE} {u : World} {nv : Value} {q : QS} (h : RqAt E u nv q false) (hn : E.ts.length - q.at' < n + 1) (most : Int) (t : Tok) (ht : t = peekF E.ts q.at') (R : Except Nat ((Tm × Int) × QS)) (hR : R = parenQ E.ts (termQ (opsQ E.es) E.ts n) q) (hk : t.kind = 6) (q40 : isP E.ts q.at' 40 = true) :
    Calls Tryz.prog 66 #[.pointer (some ⟨E.rb, 0, none⟩), .int .i64 most] u fun e u' => RqPost E u nv R e u' := by
 obtain ⟨P, hP⟩ : ∃ P : Ending → World → Prop, P = fun e u' => RqPost E u nv R e u' := ⟨_, rfl⟩
 rw [← hP]
 have HP := Lib.hid hP
 have HA0 := Lib.hid h
 have hlt : t.kind ≠ 0 → q.at' < E.ts.length := fun h => peek_lt (by rw [← ht]; exact h)
 have HTK := Lib.hid ht
 have HR := Lib.hid hR
 have HT := Lib.hid hT
 have HN := Lib.hid hn
 clear ht hP hR h hT hn
 obtain ⟨k, ln, tn, st, op, ti⟩ := t
 simp only at HR hlt hk
 subst hk
 replace hlt := hlt (by decide)
 go_enter Tryz.func66, Tryz.ntmps66
 go_wp2_with fail
 refine (look_any (HA0.out.later ((Below.refl _ _).alloc (Nat.le_refl _) _))).mono ?_
 rintro e w1 ⟨rfl, hb1⟩
 rw [← HTK.out]
 simp only [tokW]
 obtain ⟨V, br, bt, hV, hbr, hbt, hPV⟩ := prim_pre HA0.out hb1 ⟨6, ln, tn, st, op, ti⟩
 have HV := Lib.hid hPV
 clear hPV hb1
 simp only at hV
 go_upto_region 3 with fail
 rw [← hV, ← hbr, ← hbt]
 clear hV hbr hbt
 obtain ⟨t0, t1, t2, t3, t4, t5, tf⟩ := six_at HV.out.tok
 simp only at t0 t1 t2 t3 t4 t5
 obtain ⟨⟨-, c1, -, -, -, c5⟩, cf⟩ := HV.out.at'.cells
 go_wp2_with fail
 refine (punctQ_any HV.out.at' 40).mono ?_
 rintro e w2 ⟨rfl, hb2⟩
 rw [q40]
 replace HV := Lib.hid (HV.out.later hb2)
 clear hb2 t0 t1 t2 t3 t4 t5 tf c1 c5 cf
 obtain ⟨V, rfl⟩ : ∃ V : World, V = w2 := ⟨_, rfl⟩
 obtain ⟨t0, t1, t2, t3, t4, t5, tf⟩ := six_at HV.out.tok
 simp only at t0 t1 t2 t3 t4 t5
 obtain ⟨⟨-, c1, -, -, -, c5⟩, cf⟩ := HV.out.at'.cells
 have hf := HV.out.at'.few
 have hwr : IntKind.i64.wrap ((q.at' : Int) + 1) = (q.at' : Int) + 1 := IntWalk.i64_in _ (by omega)
 obtain ⟨G, hG⟩ : ∃ G, G = V.setCell ⟨E.rb, 1, none⟩ (.int .i64 ((q.at' : Int) + 1)) := ⟨_, rfl⟩
 have HAG : Hid (RqAt E G nv (q.go 1) false) := Lib.hid (by rw [hG]; exact HV.out.at'.step hlt)
 have HFG : Hid (RqF E u nv G nv) := Lib.hid (by rw [hG]; exact HV.out.fr.set (.inl rfl) _)
 have HRG : Hid (G.heap[br]? = some (.cells #[.int .i64 0, .int .i64 0, .string ⟨#[]⟩, .slice none 0 0] 34 (0, 0))) := Lib.hid (by rw [hG, Below.heap_setCell _ _ _ _ (by have := HV.out.rb; show br ≠ E.rb; omega)]; exact HV.out.res)
 have HTG : Hid (G.heap[bt]? = some (.cells #[.int .i64 6, .int .i64 ln, .int .i64 tn, .string ⟨st.toArray⟩, .bool op, .bool ti] 48 (0, 0))) := Lib.hid (by rw [hG, Below.heap_setCell _ _ _ _ (by have := HV.out.rb; have := HV.out.lt; show bt ≠ E.rb; omega)]; exact HV.out.tok)
 clear hf
 go_upto_region 22 with fail
 rw [← hG]
 clear hG t0 t1 t2 t3 t4 t5 tf c1 c5 cf
 obtain ⟨t0, t1, t2, t3, t4, t5, tf⟩ := six_at HTG.out
 obtain ⟨⟨-, c1, -, -, -, c5⟩, cf⟩ := HAG.out.cells
 go_wp2_with fail
 refine (HT.out E G nv (q.go 1) 1200 HAG.out (by have := HN.out; simp only [QS.go]; omega)).mono ?_
 rintro e w4 ⟨x, t9, p, nv4, q4, bad4, rfl, hA4, hF4, ht4, hs4⟩
 rw [tvQ_lit]
 obtain ⟨X, hX⟩ : ∃ V, V = w4.alloc (.cells #[.int .i64 x.k, .int .i64 x.n, .string ⟨x.s.toArray⟩, .slice x.A x.len x.cap] 34) := ⟨_, rfl⟩
 obtain ⟨bx, hbx⟩ : ∃ b, b = w4.heap.size := ⟨_, rfl⟩
 have hbX : Below w4.heap.size w4 X := by rw [hX]; exact (Below.refl _ _).alloc (Nat.le_refl _) _
 have HX4 : Hid (X.heap[bx]? = some (.cells #[.int .i64 x.k, .int .i64 x.n, .string ⟨x.s.toArray⟩, .slice x.A x.len x.cap] 34 (0, 0))) := Lib.hid (by rw [hX, hbx]; exact heap_alloc_new _ _)
 have hbl : br < G.heap.size := (Array.getElem?_eq_some_iff.1 HRG.out).1
 have HBL := Lib.hid hbl
 have HA4 := Lib.hid (hA4.later hbX)
 have HF4 := Lib.hid ((HFG.out.trans hF4).below hbX)
 have HR4 := Lib.hid ((hbX.block br (by have := hF4.size; omega)).trans (hF4.box HAG.out HRG.out (by decide) (by decide)))
 have HT4 := Lib.hid (ht4.go' (NewX.below hbX))
 have HS4 := Lib.hid hs4
 clear hA4 hF4 ht4 hs4 hbX hbl t0 t1 t2 t3 t4 t5 tf c1 c5 cf
 go_upto_region 23 with fail
 rw [← hX, ← hbx]
 clear hX hbx
 cases bad4 with
 | true =>
  go_wp2_with fail
  refine (need_bad HA4.out 41).mono ?_
  rintro e w5 ⟨rfl, hb5⟩
  have HA5 := Lib.hid (HA4.out.later hb5)
  have HF5 := Lib.hid (HF4.out.below hb5)
  have HR5 := Lib.hid ((hb5.block br (Array.getElem?_eq_some_iff.1 HR4.out).1).trans HR4.out)
  have HX5 := Lib.hid ((hb5.block bx (Array.getElem?_eq_some_iff.1 HX4.out).1).trans HX4.out)
  have HT5 := Lib.hid (HT4.out.go' (NewX.below hb5))
  have HS5 : Hid (Says R true (t9, (0 : Int)) q4) := Lib.hid (by
   have h1 := HS4.out
   rw [HR.out]
   unfold parenQ
   cases hx : termQ (opsQ E.es) E.ts n 1200 (q.go 1) with
   | error a => rw [hx] at h1; exact h1
   | ok r => rw [hx] at h1; exact absurd h1.1 (by decide))
  clear hb5
  obtain ⟨y0, y1, y2, y3, yf⟩ := four_at HX5.out
  have HFIN := Lib.hid (fin_post (res := R) (p := 0) HA5.out HF5.out HV.out.ge HV.out.rb HR5.out HT5.out HBL.out HS5.out)
  have HC4 := Lib.hid (blk_set4 HR5.out rfl (.int .i64 x.k) (.int .i64 x.n) (.string ⟨x.s.toArray⟩) (.slice x.A x.len x.cap))
  obtain ⟨r0, r1, r2, r3, rf⟩ := four_at HR5.out
  go_wp2_with fail
  obtain ⟨z0, z1, z2, z3, -⟩ := four_at HC4.out
  refine ⟨rfl, .tuple #[.agg #[.int .i64 x.k, .int .i64 x.n, .string ⟨x.s.toArray⟩, .slice x.A x.len x.cap], .int .i64 0], by simp [results, Tryz.results66, go_sem, z0, z1, z2, z3], ?_⟩
  rw [HP.out]
  exact HFIN.out
 | false =>
  have HOK : Hid (termQ (opsQ E.es) E.ts n 1200 (q.go 1) = .ok ((t9, p), q4)) := Lib.hid (by
   have h1 := HS4.out
   cases hx : termQ (opsQ E.es) E.ts n 1200 (q.go 1) with
   | error a => rw [hx] at h1; exact absurd h1.1 (by decide)
   | ok r => rw [hx] at h1; rw [h1.2])
  go_wp2_with fail
  refine (need_any HA4.out 41).mono ?_
  rintro e w5 ⟨rfl, hF5, h5⟩
  have HF5 := Lib.hid (HF4.out.trans hF5)
  have HR5 := Lib.hid (hF5.box HA4.out HR4.out (by decide) (by decide))
  have HX5 := Lib.hid (hF5.box HA4.out HX4.out (by decide) (by decide))
  have HT5 := Lib.hid (HT4.out.go' (NewX.step hF5 HA4.out))
  have HRES : Hid (∃ b5 q5, RqAt E w5 nv4 q5 b5 ∧ Says R b5 (t9, (0 : Int)) q5) := Lib.hid (by
   have h6 := HR.out
   unfold parenQ at h6
   rw [HOK.out] at h6
   dsimp only at h6
   unfold needQ at h6
   cases hq2 : isP E.ts q4.at' 41 with
   | true => rw [hq2, if_pos rfl] at h5 h6; exact ⟨_, _, h5, by rw [h6]; exact ⟨rfl, rfl⟩⟩
   | false => rw [hq2, if_neg (by decide)] at h5 h6; exact ⟨_, _, h5, by rw [h6]; exact ⟨rfl, rfl⟩⟩)
  clear hF5 h5
  obtain ⟨b5, q5, hA5, hS5⟩ := HRES.out
  have HA5 := Lib.hid hA5
  have HS5 := Lib.hid hS5
  clear hA5 hS5
  obtain ⟨y0, y1, y2, y3, yf⟩ := four_at HX5.out
  have HFIN := Lib.hid (fin_post (res := R) (p := 0) HA5.out HF5.out HV.out.ge HV.out.rb HR5.out HT5.out HBL.out HS5.out)
  have HC4 := Lib.hid (blk_set4 HR5.out rfl (.int .i64 x.k) (.int .i64 x.n) (.string ⟨x.s.toArray⟩) (.slice x.A x.len x.cap))
  obtain ⟨r0, r1, r2, r3, rf⟩ := four_at HR5.out
  go_wp2_with fail
  obtain ⟨z0, z1, z2, z3, -⟩ := four_at HC4.out
  refine ⟨rfl, .tuple #[.agg #[.int .i64 x.k, .int .i64 x.n, .string ⟨x.s.toArray⟩, .slice x.A x.len x.cap], .int .i64 0], by simp [results, Tryz.results66, go_sem, z0, z1, z2, z3], ?_⟩
  rw [HP.out]
  exact HFIN.out
set_option maxHeartbeats 8000000 in
theorem prim_brace {n : Nat} (hT : RTermC n) {E : RqE} {u : World} {nv : Value} {q : QS} (h : RqAt E u nv q false) (hn : E.ts.length - q.at' < n + 1) (most : Int) (t : Tok) (ht : t = peekF E.ts q.at') (R : Except Nat ((Tm × Int) × QS)) (hR : R = braceQ E.ts (termQ (opsQ E.es) E.ts n) q) (hk : t.kind = 6) (q40 : isP E.ts q.at' 40 = false) (q91 : isP E.ts q.at' 91 = false) (q123 : isP E.ts q.at' 123 = true) (q125 : isP E.ts (q.at' + 1) 125 = false) :
    Calls Tryz.prog 66 #[.pointer (some ⟨E.rb, 0, none⟩), .int .i64 most] u fun e u' => RqPost E u nv R e u' := by
 obtain ⟨P, hP⟩ : ∃ P : Ending → World → Prop, P = fun e u' => RqPost E u nv R e u' := ⟨_, rfl⟩
 rw [← hP]
 have HP := Lib.hid hP
 have HA0 := Lib.hid h
 have hlt : t.kind ≠ 0 → q.at' < E.ts.length := fun h => peek_lt (by rw [← ht]; exact h)
 have HTK := Lib.hid ht
 have HR := Lib.hid hR
 have HT := Lib.hid hT
 have HN := Lib.hid hn
 clear ht hP hR h hT hn
 obtain ⟨k, ln, tn, st, op, ti⟩ := t
 simp only at HR hlt hk
 subst hk
 replace hlt := hlt (by decide)
 go_enter Tryz.func66, Tryz.ntmps66
 go_wp2_with fail
 refine (look_any (HA0.out.later ((Below.refl _ _).alloc (Nat.le_refl _) _))).mono ?_
 rintro e w1 ⟨rfl, hb1⟩
 rw [← HTK.out]
 simp only [tokW]
 obtain ⟨V, br, bt, hV, hbr, hbt, hPV⟩ := prim_pre HA0.out hb1 ⟨6, ln, tn, st, op, ti⟩
 have HV := Lib.hid hPV
 clear hPV hb1
 simp only at hV
 go_upto_region 3 with fail
 rw [← hV, ← hbr, ← hbt]
 clear hV hbr hbt
 obtain ⟨t0, t1, t2, t3, t4, t5, tf⟩ := six_at HV.out.tok
 simp only at t0 t1 t2 t3 t4 t5
 obtain ⟨⟨-, c1, -, -, -, c5⟩, cf⟩ := HV.out.at'.cells
 go_wp2_with fail
 refine (punctQ_any HV.out.at' 40).mono ?_
 rintro e w2 ⟨rfl, hb2⟩
 rw [q40]
 replace HV := Lib.hid (HV.out.later hb2)
 clear hb2 t0 t1 t2 t3 t4 t5 tf c1 c5 cf
 obtain ⟨V, rfl⟩ : ∃ V : World, V = w2 := ⟨_, rfl⟩
 obtain ⟨t0, t1, t2, t3, t4, t5, tf⟩ := six_at HV.out.tok
 simp only at t0 t1 t2 t3 t4 t5
 obtain ⟨⟨-, c1, -, -, -, c5⟩, cf⟩ := HV.out.at'.cells
 go_wp2_with fail
 refine (punctQ_any HV.out.at' 91).mono ?_
 rintro e w2 ⟨rfl, hb2⟩
 rw [q91]
 replace HV := Lib.hid (HV.out.later hb2)
 clear hb2 t0 t1 t2 t3 t4 t5 tf c1 c5 cf
 obtain ⟨V, rfl⟩ : ∃ V : World, V = w2 := ⟨_, rfl⟩
 obtain ⟨t0, t1, t2, t3, t4, t5, tf⟩ := six_at HV.out.tok
 simp only at t0 t1 t2 t3 t4 t5
 obtain ⟨⟨-, c1, -, -, -, c5⟩, cf⟩ := HV.out.at'.cells
 go_wp2_with fail
 refine (punctQ_any HV.out.at' 123).mono ?_
 rintro e w2 ⟨rfl, hb2⟩
 rw [q123]
 replace HV := Lib.hid (HV.out.later hb2)
 clear hb2 t0 t1 t2 t3 t4 t5 tf c1 c5 cf
 obtain ⟨V, rfl⟩ : ∃ V : World, V = w2 := ⟨_, rfl⟩
 obtain ⟨t0, t1, t2, t3, t4, t5, tf⟩ := six_at HV.out.tok
 simp only at t0 t1 t2 t3 t4 t5
 obtain ⟨⟨-, c1, -, -, -, c5⟩, cf⟩ := HV.out.at'.cells
 have hf := HV.out.at'.few
 have hwr : IntKind.i64.wrap ((q.at' : Int) + 1) = (q.at' : Int) + 1 := IntWalk.i64_in _ (by omega)
 obtain ⟨G, hG⟩ : ∃ G, G = V.setCell ⟨E.rb, 1, none⟩ (.int .i64 ((q.at' : Int) + 1)) := ⟨_, rfl⟩
 have HAG : Hid (RqAt E G nv (q.go 1) false) := Lib.hid (by rw [hG]; exact HV.out.at'.step hlt)
 have HFG : Hid (RqF E u nv G nv) := Lib.hid (by rw [hG]; exact HV.out.fr.set (.inl rfl) _)
 have HRG : Hid (G.heap[br]? = some (.cells #[.int .i64 0, .int .i64 0, .string ⟨#[]⟩, .slice none 0 0] 34 (0, 0))) := Lib.hid (by rw [hG, Below.heap_setCell _ _ _ _ (by have := HV.out.rb; show br ≠ E.rb; omega)]; exact HV.out.res)
 have HTG : Hid (G.heap[bt]? = some (.cells #[.int .i64 6, .int .i64 ln, .int .i64 tn, .string ⟨st.toArray⟩, .bool op, .bool ti] 48 (0, 0))) := Lib.hid (by rw [hG, Below.heap_setCell _ _ _ _ (by have := HV.out.rb; have := HV.out.lt; show bt ≠ E.rb; omega)]; exact HV.out.tok)
 clear hf
 go_upto_region 40 with fail
 rw [← hG]
 clear hG t0 t1 t2 t3 t4 t5 tf c1 c5 cf
 obtain ⟨t0, t1, t2, t3, t4, t5, tf⟩ := six_at HTG.out
 obtain ⟨⟨-, c1, -, -, -, c5⟩, cf⟩ := HAG.out.cells
 go_wp2_with fail
 refine (punctQ_any HAG.out 125).mono ?_
 rintro e w2 ⟨rfl, hb2⟩
 rw [show (q.go 1).at' = q.at' + 1 from rfl, q125]
 replace HAG := Lib.hid (HAG.out.later hb2)
 replace HFG := Lib.hid (HFG.out.below hb2)
 replace HRG := Lib.hid ((hb2.block br (Array.getElem?_eq_some_iff.1 HRG.out).1).trans HRG.out)
 replace HTG := Lib.hid ((hb2.block bt (Array.getElem?_eq_some_iff.1 HTG.out).1).trans HTG.out)
 clear hb2 t0 t1 t2 t3 t4 t5 tf c1 c5 cf
 obtain ⟨G, rfl⟩ : ∃ G : World, G = w2 := ⟨_, rfl⟩
 obtain ⟨t0, t1, t2, t3, t4, t5, tf⟩ := six_at HTG.out
 obtain ⟨⟨-, c1, -, -, -, c5⟩, cf⟩ := HAG.out.cells
 go_wp2_with fail
 refine (HT.out E G nv (q.go 1) 1200 HAG.out (by have := HN.out; simp only [QS.go]; omega)).mono ?_
 rintro e w4 ⟨x, t9, p, nv4, q4, bad4, rfl, hA4, hF4, ht4, hs4⟩
 rw [tvQ_lit]
 obtain ⟨X, hX⟩ : ∃ V, V = w4.alloc (.cells #[.int .i64 x.k, .int .i64 x.n, .string ⟨x.s.toArray⟩, .slice x.A x.len x.cap] 34) := ⟨_, rfl⟩
 obtain ⟨bx, hbx⟩ : ∃ b, b = w4.heap.size := ⟨_, rfl⟩
 have hbX : Below w4.heap.size w4 X := by rw [hX]; exact (Below.refl _ _).alloc (Nat.le_refl _) _
 have HX4 : Hid (X.heap[bx]? = some (.cells #[.int .i64 x.k, .int .i64 x.n, .string ⟨x.s.toArray⟩, .slice x.A x.len x.cap] 34 (0, 0))) := Lib.hid (by rw [hX, hbx]; exact heap_alloc_new _ _)
 have hbl : br < G.heap.size := (Array.getElem?_eq_some_iff.1 HRG.out).1
 have HBL := Lib.hid hbl
 have HA4 := Lib.hid (hA4.later hbX)
 have HF4 := Lib.hid ((HFG.out.trans hF4).below hbX)
 have HR4 := Lib.hid ((hbX.block br (by have := hF4.size; omega)).trans (hF4.box HAG.out HRG.out (by decide) (by decide)))
 have HT4 := Lib.hid (ht4.go' (NewX.below hbX))
 have HS4 := Lib.hid hs4
 have HGX : Hid (G.heap.size ≤ X.heap.size) := Lib.hid (Nat.le_trans hF4.size hbX.size)
 clear hA4 hF4 ht4 hs4 hbX hbl t0 t1 t2 t3 t4 t5 tf c1 c5 cf
 go_upto_region 45 with fail
 rw [← hX, ← hbx]
 clear hX hbx
 cases bad4 with
 | true =>
  go_wp2_with fail
  refine (need_bad HA4.out 125).mono ?_
  rintro e w5 ⟨rfl, hb5⟩
  have HA5 := Lib.hid (HA4.out.later hb5)
  have HF5 := Lib.hid (HF4.out.below hb5)
  have HR5 := Lib.hid ((hb5.block br (Array.getElem?_eq_some_iff.1 HR4.out).1).trans HR4.out)
  have HX5 := Lib.hid ((hb5.block bx (Array.getElem?_eq_some_iff.1 HX4.out).1).trans HX4.out)
  have HT5 := Lib.hid (HT4.out.go' (NewX.below hb5))
  have HS5 : Hid (Says R true (compT [123, 125] [t9], (0 : Int)) q4) := Lib.hid (by
   have h1 := HS4.out
   rw [HR.out]
   unfold braceQ
   cases hx : termQ (opsQ E.es) E.ts n 1200 (q.go 1) with
   | error a => rw [hx] at h1; exact h1
   | ok r => rw [hx] at h1; exact absurd h1.1 (by decide))
  have HXW := hb5.size
  clear hb5
  obtain ⟨y0, y1, y2, y3, yf⟩ := four_at HX5.out
  have h5s : G.heap.size ≤ w5.heap.size := Nat.le_trans HGX.out HXW
  obtain ⟨Y, hY⟩ : ∃ Y, Y = w5.alloc (.cells #[.int .i64 x.k, .int .i64 x.n, .string ⟨x.s.toArray⟩, .slice x.A x.len x.cap] 34) := ⟨_, rfl⟩
  have hbY : Below w5.heap.size w5 Y := by rw [hY]; exact (Below.refl _ _).alloc (Nat.le_refl _) _
  have HO := Lib.hid (one_new HT5.out h5s [123, 125] (by decide))
  have HA6 := Lib.hid (HA5.out.later hbY)
  have HF6 := Lib.hid (HF5.out.below hbY)
  have HR6 := Lib.hid ((hbY.block br (Array.getElem?_eq_some_iff.1 HR5.out).1).trans HR5.out)
  clear hbY
  subst hY
  have HFIN := Lib.hid (fin_post (res := R) (p := 0) HA6.out HF6.out HV.out.ge HV.out.rb HR6.out HO.out HBL.out HS5.out)
  have HC4 := Lib.hid (blk_set4 HR6.out rfl (.int .i64 4) (.int .i64 0) (.string ⟨#[123, 125]⟩) (.slice (some ⟨w5.heap.size, 0, none⟩) 1 1))
  obtain ⟨r0, r1, r2, r3, rf⟩ := four_at HR6.out
  go_wp2_with fail
  obtain ⟨z0, z1, z2, z3, -⟩ := four_at HC4.out
  refine ⟨rfl, .tuple #[.agg #[.int .i64 4, .int .i64 0, .string ⟨#[123, 125]⟩, .slice (some ⟨w5.heap.size, 0, none⟩) 1 1], .int .i64 0], by simp [results, Tryz.results66, go_sem, z0, z1, z2, z3], ?_⟩
  rw [HP.out]
  exact HFIN.out
 | false =>
  have HOK : Hid (termQ (opsQ E.es) E.ts n 1200 (q.go 1) = .ok ((t9, p), q4)) := Lib.hid (by
   have h1 := HS4.out
   cases hx : termQ (opsQ E.es) E.ts n 1200 (q.go 1) with
   | error a => rw [hx] at h1; exact absurd h1.1 (by decide)
   | ok r => rw [hx] at h1; rw [h1.2])
  go_wp2_with fail
  refine (need_any HA4.out 125).mono ?_
  rintro e w5 ⟨rfl, hF5, h5⟩
  have HF5 := Lib.hid (HF4.out.trans hF5)
  have HR5 := Lib.hid (hF5.box HA4.out HR4.out (by decide) (by decide))
  have HX5 := Lib.hid (hF5.box HA4.out HX4.out (by decide) (by decide))
  have HT5 := Lib.hid (HT4.out.go' (NewX.step hF5 HA4.out))
  have HRES : Hid (∃ b5 q5, RqAt E w5 nv4 q5 b5 ∧ Says R b5 (compT [123, 125] [t9], (0 : Int)) q5) := Lib.hid (by
   have h6 := HR.out
   unfold braceQ at h6
   rw [HOK.out] at h6
   dsimp only at h6
   unfold needQ at h6
   cases hq2 : isP E.ts q4.at' 125 with
   | true => rw [hq2, if_pos rfl] at h5 h6; exact ⟨_, _, h5, by rw [h6]; exact ⟨rfl, rfl⟩⟩
   | false => rw [hq2, if_neg (by decide)] at h5 h6; exact ⟨_, _, h5, by rw [h6]; exact ⟨rfl, rfl⟩⟩)
  have HXW := hF5.size
  clear hF5 h5
  obtain ⟨b5, q5, hA5, hS5⟩ := HRES.out
  have HA5 := Lib.hid hA5
  have HS5 := Lib.hid hS5
  clear hA5 hS5
  obtain ⟨y0, y1, y2, y3, yf⟩ := four_at HX5.out
  have h5s : G.heap.size ≤ w5.heap.size := Nat.le_trans HGX.out HXW
  obtain ⟨Y, hY⟩ : ∃ Y, Y = w5.alloc (.cells #[.int .i64 x.k, .int .i64 x.n, .string ⟨x.s.toArray⟩, .slice x.A x.len x.cap] 34) := ⟨_, rfl⟩
  have hbY : Below w5.heap.size w5 Y := by rw [hY]; exact (Below.refl _ _).alloc (Nat.le_refl _) _
  have HO := Lib.hid (one_new HT5.out h5s [123, 125] (by decide))
  have HA6 := Lib.hid (HA5.out.later hbY)
  have HF6 := Lib.hid (HF5.out.below hbY)
  have HR6 := Lib.hid ((hbY.block br (Array.getElem?_eq_some_iff.1 HR5.out).1).trans HR5.out)
  clear hbY
  subst hY
  have HFIN := Lib.hid (fin_post (res := R) (p := 0) HA6.out HF6.out HV.out.ge HV.out.rb HR6.out HO.out HBL.out HS5.out)
  have HC4 := Lib.hid (blk_set4 HR6.out rfl (.int .i64 4) (.int .i64 0) (.string ⟨#[123, 125]⟩) (.slice (some ⟨w5.heap.size, 0, none⟩) 1 1))
  obtain ⟨r0, r1, r2, r3, rf⟩ := four_at HR6.out
  go_wp2_with fail
  obtain ⟨z0, z1, z2, z3, -⟩ := four_at HC4.out
  refine ⟨rfl, .tuple #[.agg #[.int .i64 4, .int .i64 0, .string ⟨#[123, 125]⟩, .slice (some ⟨w5.heap.size, 0, none⟩) 1 1], .int .i64 0], by simp [results, Tryz.results66, go_sem, z0, z1, z2, z3], ?_⟩
  rw [HP.out]
  exact HFIN.out
end Go.Proofs.YtiffopheamnngaaGreatDoor
