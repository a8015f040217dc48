import Derived.Test.YtjdnigepnfeboaaGreatDoorJG23
namespace Go.Proofs.YtjdnigepnfeboaaGreatDoor
open Go.RowKit Go.Maps
set_option maxRecDepth 100000
variable [Base]
set_option linter.unusedSectionVars false
section
variable {rb sb room : Nat} {u u' : World} {safe : Bool} {w : Nat} {wv cv bv : Value} {ps : List (Nat × Nat)} {xs : List ScM} {cs : List Sc} {ys : List (Nat × Int)}
set_option maxHeartbeats 16000000 in
theorem one_un (h : UnAt rb sb u safe w wv ps) (hs : StAt sb room u cv bv xs cs ys) (a b : Nat) (ha : a < cs.length) (hb : b < cs.length) (hm : ys.length + 1 ≤ 100000000) (hp : ps.length + 255 ≤ 100000000) :
    Calls Tryz.prog 358 #[.pointer (some ⟨rb, 0, none⟩), .agg #[.int .i64 (a : Nat), .int .i64 (b : Nat)], .func (.func 356) #[.pointer (some ⟨rb, 0, none⟩)] #[]] u fun e u' => OneOut rb sb room u safe w ps cs ys a b e u' := by
 obtain ⟨ra, hra⟩ := hs.flw a ha
 obtain ⟨rr, hrr⟩ := hs.flw b hb
 obtain ⟨U, hU⟩ : ∃ U, U = u.alloc (.cells #[.int .i64 (a : Nat), .int .i64 (b : Nat)] 493) := ⟨_, rfl⟩
 have hbU : Below u.heap.size u U := by rw [hU]; exact (Below.refl _ _).alloc (Nat.le_refl _) _
 have hz : U.heap[u.heap.size]? = some (.cells #[.int .i64 (a : Nat), .int .i64 (b : Nat)] 493 (0, 0)) := by rw [hU]; exact heap_alloc_new _ _
 have z0 : U.cell? ⟨u.heap.size, 0, none⟩ = some (.int .i64 (a : Nat)) := by rw [cell_of_row U u.heap.size 0 _ _ (0, 0) hz]; rfl
 have z1 : U.cell? ⟨u.heap.size, 1, none⟩ = some (.int .i64 (b : Nat)) := by rw [cell_of_row U u.heap.size 1 _ _ (0, 0) hz]; rfl
 have HU := Lib.hid (h.later hbU)
 have HS := Lib.hid (hs.later hbU)
 obtain ⟨p0, -, -, -, -⟩ := (h.later hbU).cells
 have HF0 : Hid (TF unS u U) := Lib.hid (by rw [hU]; exact (TF.refl _ _).alloc _)
 have HR := Lib.hid (And.intro hra hrr)
 have HSS := Lib.hid (And.intro p0 (And.intro z0 z1))
 have hul : u.heap.size < U.heap.size := (Array.getElem?_eq_some_iff.1 hz).1
 have hlr : rb < U.heap.size := (h.later hbU).lt
 obtain ⟨P, hP⟩ : ∃ P : Ending → World → Prop, P = fun e u' => OneOut rb sb room u safe w ps cs ys a b e u' := ⟨_, rfl⟩
 rw [← hP]
 have HP := Lib.hid hP
 clear hP h hs hra hrr hbU hz p0 z0 z1
 go_enter Tryz.func358, Tryz.ntmps358
 go_upto_region 1 with fail
 rw [← hU]
 clear hU
 go_region_held3 (fun v => v.cell? ⟨rb, 0, none⟩ = some (.pointer (some ⟨sb, 0, none⟩)) ∧ v.cell? ⟨u.heap.size, 0, none⟩ = some (.int .i64 (a : Nat)) ∧ v.cell? ⟨u.heap.size, 1, none⟩ = some (.int .i64 (b : Nat)))
  (first | (with_reducible exact HSS.out) | exact HSS.out)
  (first | (go_at_call 183; with_reducible refine (Follow_any (HS.out.later (Below.refl _ _).drew) HR.out.1).mono ?_; rintro e w1 ⟨rfl, rfl⟩) | (go_at_call 183; with_reducible refine (Follow_any (HS.out.later (Below.refl _ _).drew) HR.out.2).mono ?_; rintro e w1 ⟨rfl, rfl⟩))
 have HU1 : Hid (UnAt rb sb U.drew safe w wv ps ∧ StAt sb room U.drew cv bv xs cs ys ∧ TF unS u U.drew) := Lib.hid ⟨HU.out.later (Below.refl _ _).drew, HS.out.later (Below.refl _ _).drew, HF0.out.drew⟩
 clear HU HS HF0 HSS hul hlr
 obtain ⟨V, hV⟩ : ∃ V, V = U.drew := ⟨_, rfl⟩
 rw [← hV] at HU1 ⊢
 clear hV
 by_cases hrv : ra = rr
 ·subst hrv
  have hq : ((ra : Int) == (ra : Int)) = true := beq_self_eq_true _
  go_wp2_with fail
  show P _ _
  rw [HP.out]
  exact OneOut.same HU1.out.2.2 HR.out.1 HR.out.2 HU1.out.1 HU1.out.2.1
 have hq : ((ra : Int) == (rr : Int)) = false := beq_eq_false_iff_ne.2 (by omega)
 obtain ⟨x, hx, -⟩ := HR.out.1.free
 obtain ⟨y, hy, -⟩ := HR.out.2.free
 have hxn := HU1.out.2.1.ar ra x hx
 have hyn := HU1.out.2.1.ar rr y hy
 obtain ⟨p0, -, -, -, -⟩ := HU1.out.1.cells
 have hlr : rb < V.heap.size := HU1.out.1.lt
 have HX := Lib.hid (And.intro hx hy)
 clear hx hy
 go_wp2_with fail
 clear hq
 refine (look_st HU1.out.2.1 HR.out.1.self HX.out.1 (by omega)).mono ?_
 rintro e W1 ⟨A1, c1, rfl, ha1, -, hb1⟩
 obtain ⟨X, hX⟩ : ∃ X, X = shF ra x := ⟨_, rfl⟩
 rw [← hX]
 obtain ⟨W2, hW2⟩ : ∃ W, W = W1.alloc (.cells #[.int .i64 X.k, .int .i64 X.n, .string ⟨X.s.toArray⟩, .slice X.A X.len X.cap] 27) := ⟨_, rfl⟩
 have hb2 : Below W1.heap.size W1 W2 := by rw [hW2]; exact (Below.refl _ _).alloc (Nat.le_refl _) _
 have hbv : Below V.heap.size V W2 := hb1.trans (hb2.mono hb1.size)
 have hz1 : W2.heap[W1.heap.size]? = some (.cells #[.int .i64 X.k, .int .i64 X.n, .string ⟨X.s.toArray⟩, .slice X.A X.len X.cap] 27 (0, 0)) := by rw [hW2]; exact heap_alloc_new _ _
 have HU2 := Lib.hid (And.intro (HU1.out.1.later hbv) (And.intro (HU1.out.2.1.later hbv) (And.intro (HU1.out.2.2.later hbv) (And.intro (ha1.later hb2) hz1))))
 have hl2 : rb < W2.heap.size := (HU1.out.1.later hbv).lt
 obtain ⟨p0, -, -, -, -⟩ := (HU1.out.1.later hbv).cells
 have HXX := Lib.hid hX
 clear hX ha1 hb1 hb2 hbv hz1
 unfold tvV
 go_upto_region 5 with fail
 rw [← hW2]
 clear hW2
 obtain ⟨T1, hT1⟩ : ∃ T, T = W1.heap.size := ⟨_, rfl⟩
 rw [← hT1] at HU2 ⊢
 clear hT1
 go_wp2_with fail
 refine (look_st HU2.out.2.1 HR.out.2.self HX.out.2 (by omega)).mono ?_
 rintro e W3 ⟨A3, c3, rfl, ha3, -, hb3⟩
 obtain ⟨Y, hY⟩ : ∃ Y, Y = shF rr y := ⟨_, rfl⟩
 rw [← hY]
 obtain ⟨W4, hW4⟩ : ∃ W, W = W3.alloc (.cells #[.int .i64 Y.k, .int .i64 Y.n, .string ⟨Y.s.toArray⟩, .slice Y.A Y.len Y.cap] 27) := ⟨_, rfl⟩
 have hb4 : Below W3.heap.size W3 W4 := by rw [hW4]; exact (Below.refl _ _).alloc (Nat.le_refl _) _
 have hbv : Below W2.heap.size W2 W4 := hb3.trans (hb4.mono hb3.size)
 have hz3 : W4.heap[W3.heap.size]? = some (.cells #[.int .i64 Y.k, .int .i64 Y.n, .string ⟨Y.s.toArray⟩, .slice Y.A Y.len Y.cap] 27 (0, 0)) := by rw [hW4]; exact heap_alloc_new _ _
 have hz1 := (hbv.block T1 (Array.getElem?_eq_some_iff.1 HU2.out.2.2.2.2).1).trans HU2.out.2.2.2.2
 have HU4 := Lib.hid (And.intro (HU2.out.1.later hbv) (And.intro (HU2.out.2.1.later hbv) (And.intro (HU2.out.2.2.1.later hbv) (And.intro (HU2.out.2.2.2.1.later hbv) (ha3.later hb4)))))
 have hl4 : rb < W4.heap.size := (HU2.out.1.later hbv).lt
 obtain ⟨p0, -, -, -, -⟩ := (HU2.out.1.later hbv).cells
 obtain ⟨T3, hT3⟩ : ∃ T, T = W3.heap.size := ⟨_, rfl⟩
 rw [← hT3] at hz3
 have HYY := Lib.hid hY
 obtain ⟨x0, x1, x2, -, xf⟩ := four_at hz1
 obtain ⟨y0, y1, y2, -, yf⟩ := four_at hz3
 have hlx : T1 < W4.heap.size := (Array.getElem?_eq_some_iff.1 hz1).1
 have hly : T3 < W4.heap.size := (Array.getElem?_eq_some_iff.1 hz3).1
 clear hY ha3 hb3 hb4 hbv hz1 hz3 HU1 HU2 hl2 hlr
 unfold tvV
 go_upto_region 6 with fail
 rw [← hW4, ← hT3]
 clear hW4 hT3
 have HK : Hid (X.k = x.k ∧ Y.k = y.k ∧ (x.k ≠ 1 → X.n = x.n ∧ X.s = x.s) ∧ (y.k ≠ 1 → Y.n = y.n ∧ Y.s = y.s)) := Lib.hid (by
  rw [HXX.out, HYY.out]
  exact ⟨shF_k .., shF_k .., fun h => shF_ns _ _ h, fun h => shF_ns _ _ h⟩)
 clear HXX HYY
 obtain ⟨Xk, Xn, Xs, XA, Xl, Xc⟩ := X
 obtain ⟨Yk, Yn, Ys, YA, Yl, Yc⟩ := Y
 simp only at HK x0 x1 x2 y0 y1 y2
 by_cases hk1 : Xk = 1
 ·have b1 : (Xk == 1) = true := by rw [hk1]; rfl
  have HK1 := Lib.hid (HK.out.1.symm.trans hk1)
  clear hk1
  go_wp2_with fail
  refine (bind_un HU4.out.1 HU4.out.2.1 HR.out.1.self HR.out.2.self hrv HX.out.1 HK1.out hm Yk).mono ?_
  intro e W5 h5
  have HQ : Hid (P e W5) := Lib.hid (by
   rw [HP.out]
   exact OneOut.bind HU4.out.2.2.1 HR.out.1 HR.out.2 hrv (.inl ⟨rfl, rfl⟩) HX.out.1 HK1.out h5)
  rcases h5 with ⟨z, w', -, -, rfl, -⟩ | ⟨w', bv', xs', tp, -, -, rfl, -⟩
  ·go_wp2_with fail
   exact HQ.out
  ·go_wp2_with fail
   exact HQ.out
 have b1 : (Xk == 1) = false := beq_eq_false_iff_ne.2 hk1
 by_cases hk2 : Yk = 1
 ·have b2 : (Yk == 1) = true := by rw [hk2]; rfl
  have HK1 := Lib.hid (HK.out.2.1.symm.trans hk2)
  clear hk1 hk2
  go_wp2_with fail
  refine (bind_un HU4.out.1 HU4.out.2.1 HR.out.2.self HR.out.1.self (Ne.symm hrv) HX.out.2 HK1.out hm Xk).mono ?_
  intro e W5 h5
  have HQ : Hid (P e W5) := Lib.hid (by
   rw [HP.out]
   exact OneOut.bind HU4.out.2.2.1 HR.out.1 HR.out.2 hrv (.inr ⟨rfl, rfl⟩) HX.out.2 HK1.out h5)
  rcases h5 with ⟨z, w', -, -, rfl, -⟩ | ⟨w', bv', xs', tp, -, -, rfl, -⟩
  ·go_wp2_with fail
   exact HQ.out
  ·go_wp2_with fail
   exact HQ.out
 have b2 : (Yk == 1) = false := beq_eq_false_iff_ne.2 hk2
 have HKN : Hid (x.k ≠ 1 ∧ y.k ≠ 1 ∧ Xk = x.k ∧ Yk = y.k ∧ Xn = x.n ∧ Yn = y.n ∧ Xs = x.s ∧ Ys = y.s) := Lib.hid (by
  have q1 : x.k ≠ 1 := by rw [← HK.out.1]; exact hk1
  have q2 : y.k ≠ 1 := by rw [← HK.out.2.1]; exact hk2
  exact ⟨q1, q2, HK.out.1, HK.out.2.1, (HK.out.2.2.1 q1).1, (HK.out.2.2.2 q2).1, (HK.out.2.2.1 q1).2, (HK.out.2.2.2 q2).2⟩)
 clear hk1 hk2 HK
 obtain ⟨n1, hn1⟩ : ∃ n, n = x.args.length := ⟨_, rfl⟩
 obtain ⟨n2, hn2⟩ : ∃ n, n = y.args.length := ⟨_, rfl⟩
 rw [← hn1] at hxn ⊢
 rw [← hn2] at hyn ⊢
 have HN := Lib.hid (And.intro hn1 hn2)
 clear hn1 hn2
 have HCL : Hid (¬ (Xk = Yk ∧ Xn = Yn ∧ Xs = Ys ∧ n1 = n2) → P (.returned (.tuple #[.bool false, .int .i64 0])) W4) := Lib.hid fun hc => by
  rw [HP.out]
  refine OneOut.clash HU4.out.2.2.1 HR.out.1 HR.out.2 HX.out.1 HX.out.2 HKN.out.1 HKN.out.2.1 (fun e => hc ?_) HU4.out.1 HU4.out.2.1
  obtain ⟨-, -, q1, q2, q3, q4, q5, q6⟩ := HKN.out
  rw [q1, q2, q3, q4, q5, q6, HN.out.1, HN.out.2]
  exact e
 by_cases hk : Xk = Yk
 case neg =>
  have b3 : (Xk != Yk) = true := bne_iff_ne.2 hk
  have b3' : (Xk == Yk) = false := beq_eq_false_iff_ne.2 hk
  have HQ := Lib.hid (HCL.out fun e => hk e.1)
  clear hk HCL
  go_wp2_with fail
  exact HQ.out
 by_cases hn : Xn = Yn
 case neg =>
  have b3 : (Xk != Yk) = false := by rw [hk]; exact bne_self_eq_false _
  have b3' : (Xk == Yk) = true := by rw [hk]; exact beq_self_eq_true _
  have b4 : (Xn != Yn) = true := bne_iff_ne.2 hn
  have b4' : (Xn == Yn) = false := beq_eq_false_iff_ne.2 hn
  have HQ := Lib.hid (HCL.out fun e => hn e.2.1)
  clear hk hn HCL
  go_wp2_with fail
  exact HQ.out
 by_cases hs : Xs = Ys
 case neg =>
  have b3 : (Xk != Yk) = false := by rw [hk]; exact bne_self_eq_false _
  have b3' : (Xk == Yk) = true := by rw [hk]; exact beq_self_eq_true _
  have b4 : (Xn != Yn) = false := by rw [hn]; exact bne_self_eq_false _
  have b4' : (Xn == Yn) = true := by rw [hn]; exact beq_self_eq_true _
  have b5 : (Xs == Ys) = false := beq_eq_false_iff_ne.2 hs
  have HQ := Lib.hid (HCL.out fun e => hs e.2.2.1)
  clear hk hn hs HCL
  go_wp2_with fail
  exact HQ.out
 by_cases hnn : n1 = n2
 case neg =>
  have b3 : (Xk != Yk) = false := by rw [hk]; exact bne_self_eq_false _
  have b3' : (Xk == Yk) = true := by rw [hk]; exact beq_self_eq_true _
  have b4 : (Xn != Yn) = false := by rw [hn]; exact bne_self_eq_false _
  have b4' : (Xn == Yn) = true := by rw [hn]; exact beq_self_eq_true _
  have b5 : (Xs == Ys) = true := by rw [hs]; exact beq_self_eq_true _
  have b6 : ((n1 : Int) != (n2 : Int)) = true := bne_iff_ne.2 (by omega)
  have b6' : ((n1 : Int) == (n2 : Int)) = false := beq_eq_false_iff_ne.2 (by omega)
  have HQ := Lib.hid (HCL.out fun e => hnn e.2.2.2)
  clear hk hn hs hnn HCL
  go_wp2_with fail
  exact HQ.out
 subst hk hn hs hnn
 have b3 : (Xk != Xk) = false := bne_self_eq_false _
 have b4 : (Xn != Xn) = false := bne_self_eq_false _
 have b5 : (Xs == Xs) = true := beq_self_eq_true _
 have b6 : ((n1 : Int) != (n1 : Int)) = false := bne_self_eq_false _
 have hwn : IntKind.i64.wrap ((n1 : Int) - 1) = (n1 : Int) - 1 := IntWalk.i64_in _ (by omega)
 clear HCL
 go_wp2_with fail
 clear b1 b2 b3 b4 b5 b6 x0 x1 x2 xf y0 y1 y2 yf hlx hly p0
 go_loopw [14] (fun i wi => ∃ (k : Nat) (wv' : Value), i = .int .i64 ((k : Int) - 1) ∧ k ≤ n1 ∧ Hid (UnAt rb sb wi safe w wv' (ps ++ ((x.args.zip y.args).drop k).reverse) ∧ TF unT W4 wi)) (fun i _ => (intOf i + 1).toNat)
 case atStart => exact ⟨n1, wv, rfl, Nat.le_refl _, Lib.hid ⟨by rw [List.drop_eq_nil_of_le (by rw [List.length_zip, ← HN.out.1, ← HN.out.2]; omega), List.reverse_nil, List.append_nil]; exact HU4.out.1, TF.refl _ _⟩⟩
 case round =>
  obtain ⟨k, wv', rfl, hk, HI⟩ := hrel
  obtain _ | k := k
  ·have hng : ¬ (((0 : Nat) : Int) - 1 ≥ 0) := by omega
   have HQ : Hid (P (.returned (.tuple #[.bool true, .int .i64 0])) wr) := Lib.hid (by
    rw [HP.out]
    obtain ⟨q0, q1, q2, q3, q4, q5, q6, q7⟩ := HKN.out
    have h1 := HI.out.1
    rw [List.drop_zero] at h1
    exact OneOut.args (HU4.out.2.2.1.trans (HI.out.2.mono fun _ hx => List.mem_append_left _ hx)) HR.out.1 HR.out.2 HX.out.1 HX.out.2 q0 q1 ⟨by rw [← q2, ← q3], by rw [← q4, ← q5], by rw [← q6, ← q7], by rw [← HN.out.1, ← HN.out.2]⟩ h1 (HU4.out.2.1.tf HI.out.2 (by decide)))
   go_wp2_with fail
   exact HQ.out
  ·obtain ⟨p1, hp1⟩ : ∃ p, x.args[k]? = some p := ⟨_, List.getElem?_eq_getElem (by rw [← HN.out.1]; omega)⟩
   obtain ⟨p2, hp2⟩ : ∃ p, y.args[k]? = some p := ⟨_, List.getElem?_eq_getElem (by rw [← HN.out.2]; omega)⟩
   obtain ⟨g1, o1, rfl, t1, q1⟩ := (HU4.out.2.2.2.1.keep (u' := wr) fun b hb => HI.out.2.block hb (by decide)).at' k p1 hp1
   obtain ⟨g2, o2, rfl, t2, q2⟩ := (HU4.out.2.2.2.2.keep (u' := wr) fun b hb => HI.out.2.block hb (by decide)).at' k p2 hp2
   have ek : (((k + 1 : Nat) : Int) - 1) = (k : Int) := by omega
   have hk0 : (0 : Int) ≤ (k : Int) := by omega
   have hk1 : (k : Int) < (n1 : Int) := by omega
   have hwk1 : IntKind.i64.wrap ((k : Int) - 1) = (k : Int) - 1 := IntWalk.i64_in _ (by omega)
   have HS : Hid (∀ v, TF unT wr v → v.cell? ⟨g1, o1 + k, none⟩ = some (.int .i64 (p1 : Nat)) ∧ v.cell? ⟨g2, o2 + k, none⟩ = some (.int .i64 (p2 : Nat))) := Lib.hid fun v hv => ⟨(World.cell?_of_block (a := ⟨g1, o1 + k, none⟩) (hv.block t1 (by decide))).trans q1, (World.cell?_of_block (a := ⟨g2, o2 + k, none⟩) (hv.block t2 (by decide))).trans q2⟩
   have HPP := Lib.hid (And.intro hp1 hp2)
   have hl1 := t1.lt
   have hl2 := t2.lt
   have HLK : Hid ((ps ++ ((x.args.zip y.args).drop (k + 1)).reverse).length + 1 ≤ 100000000) := Lib.hid (by
    rw [List.length_append, List.length_reverse, List.length_drop, List.length_zip]
    have := HN.out.1
    omega)
   rw [ek]
   clear hp1 hp2 t1 t2 q1 q2
   go_wp2_with fail
   go_region_held3 (fun v => v.cell? ⟨g1, o1 + k, none⟩ = some (.int .i64 (p1 : Nat)) ∧ v.cell? ⟨g2, o2 + k, none⟩ = some (.int .i64 (p2 : Nat)))
    (first | (with_reducible exact HS.out _ (TF.refl _ _)) | (with_reducible exact HS.out _ (TF.refl _ _).drew) | (with_reducible exact HS.out _ ((TF.refl _ _).drew.trans hf5)))
    (first | (go_at_call 356; refine (put_un (HI.out.1.later (Below.refl _ _).drew) p1 p2 HLK.out).mono ?_; rintro e w5 ⟨rfl, ⟨wv5, hu5⟩, hf5⟩))
   have HN5 := Lib.hid (And.intro hu5 (HI.out.2.drew.trans hf5))
   clear hu5 hf5 HS
   go_wp2_with fail
   go_roundw
   case rel =>
    refine ⟨k, wv5, rfl, by omega, Lib.hid ⟨?_, HN5.out.2⟩⟩
    have hz : (x.args.zip y.args)[k]? = some (p1, p2) := by rw [List.getElem?_zip_eq_some]; exact HPP.out
    obtain ⟨hlt, hz⟩ := List.getElem?_eq_some_iff.1 hz
    rw [List.drop_eq_getElem_cons hlt, hz, List.reverse_cons, ← List.append_assoc]
    exact HN5.out.1
   case measure =>
    simp only [intOf]
    omega
end
end Go.Proofs.YtjdnigepnfeboaaGreatDoor
namespace Go.Proofs.YtjdnigepnfeboaaGreatDoor
open Go.RowKit Go.Maps
set_option maxRecDepth 100000
variable [Base]
set_option linter.unusedSectionVars false
section
variable {rb sb room : Nat} {u u' : World} {safe : Bool} {w : Nat} {wv cv bv : Value} {ps : List (Nat × Nat)} {xs : List ScM} {cs : List Sc} {ys : List (Nat × Int)}
def AllOut (sb room : Nat) (u : World) (safe : Bool) (cs : List Sc) (ys : List (Nat × Int)) (a b : Nat) (e : Ending) (u' : World) : Prop :=
 ∃ (ok : Bool) (z : Int) (cv' bv' : Value) (xs' : List ScM) (cs' : List Sc) (ys' : List (Nat × Int)) (csF : List Sc) (bsF : List Nat),
  e = .returned (.tuple #[.bool ok, .int .i64 z]) ∧ StAt sb room u' cv' bv' xs' cs' ys' ∧ TF unS u u' ∧ (∃ e', ys' = ys ++ e' ∧ ys'.length ≤ ys.length + 20001) ∧ Uni safe cs [] [(a, b)] 0 (ok, z) csF bsF ∧ (ok = true → csF = cs' ∧ ys'.map (·.1) = ys.map (·.1) ++ bsF)
structure AllAt (rb sb room : Nat) (u : World) (safe : Bool) (cs : List Sc) (ys : List (Nat × Int)) (a b : Nat) (gk : Nat) (wr : World) (w' : Nat) (wv' cv' bv' : Value) (ps' : List (Nat × Nat)) (xs' : List ScM) (cs' : List Sc) (ys' : List (Nat × Int)) (bs' : List Nat) : Prop where
 un : UnAt rb sb wr safe w' wv' ps'
 st : StAt sb room wr cv' bv' xs' cs' ys'
 fr : TF unS u wr
 len : cs'.length = cs.length
 ext : ∃ e', ys' = ys ++ e'
 yl : ys'.length ≤ ys.length + w'
 pl : ps'.length ≤ 1 + 255 * w'
 in' : ∀ p ∈ ps', p.1 < cs.length ∧ p.2 < cs.length
 bs : ys'.map (·.1) = ys.map (·.1) ++ bs'
 uni : ∀ R cs9 bs9, Uni safe cs' bs' ps'.reverse w' R cs9 bs9 → Uni safe cs [] [(a, b)] 0 R cs9 bs9
 gas : w' + gk = 20001
set_option maxHeartbeats 16000000 in
theorem all_un (h : UnAt rb sb u safe 0 wv []) (hs : StAt sb room u cv bv xs cs ys) (a b : Nat) (ha : a < cs.length) (hb : b < cs.length) (hm : ys.length + 20001 ≤ 100000000) :
    Calls Tryz.prog 327 #[.pointer (some ⟨rb, 0, none⟩), .int .i64 (a : Nat), .int .i64 (b : Nat)] u fun e u' => AllOut sb room u safe cs ys a b e u' := by
 have H := Lib.hid (And.intro h hs)
 have HAB := Lib.hid (And.intro ha hb)
 obtain ⟨P, hP⟩ : ∃ P : Ending → World → Prop, P = fun e u' => AllOut sb room u safe cs ys a b e u' := ⟨_, rfl⟩
 rw [← hP]
 have HP := Lib.hid hP
 have hl := h.lt
 clear hP h hs ha hb
 go_enter Tryz.func327, Tryz.ntmps327
 go_wp2_with (go_at_call 356; refine (put_un H.out.1 a b (by simp)).mono ?_; rintro e w1 ⟨rfl, ⟨wv1, hu1⟩, hf1⟩)
 have HI0 : Hid (AllAt rb sb room u safe cs ys a b 20001 w1 0 wv1 cv bv [(a, b)] xs cs ys []) := Lib.hid
  ⟨hu1, H.out.2.tf hf1 (by decide), hf1.mono fun _ hx => List.mem_append_left _ hx, rfl, ⟨[], by simp⟩, by omega, by simp, fun p hp => by rw [List.mem_singleton] at hp; rw [hp]; exact HAB.out, by simp, fun _ _ _ h => h, rfl⟩
 clear hu1 hf1 H
 go_wp2_with fail
 go_loopg [] 20001 (fun gk wr => ∃ (w' : Nat) (wv' cv' bv' : Value) (ps' : List (Nat × Nat)) (xs' : List ScM) (cs' : List Sc) (ys' : List (Nat × Int)) (bs' : List Nat), Hid (AllAt rb sb room u safe cs ys a b gk wr w' wv' cv' bv' ps' xs' cs' ys' bs'))
 case atStart => exact ⟨_, _, _, _, _, _, _, _, _, HI0⟩
 case round =>
  obtain ⟨w', wv', cv', bv', ps', xs', cs', ys', bs', HI⟩ := hrel
  clear HI0
  by_cases hnil : ps' = []
  ·subst hnil
   obtain ⟨A2, c2, e2⟩ := HI.out.un.row.shape
   subst e2
   obtain ⟨-, -, -, p3, -⟩ := HI.out.un.cells
   have hlw := HI.out.un.lt
   have HQ : Hid (P (.returned (.tuple #[.bool true, .int .i64 0])) wr) := Lib.hid (by
    rw [HP.out]
    have hw := HI.out.un.work
    exact ⟨true, 0, _, _, _, cs', ys', cs', bs', rfl, HI.out.st, HI.out.fr, HI.out.ext.imp fun e' he => ⟨he, by have := HI.out.yl; omega⟩, HI.out.uni _ _ _ .done, fun _ => ⟨rfl, HI.out.bs⟩⟩)
   go_wp2_with fail
   exact HQ.out
  ·obtain ⟨l0, p, rfl⟩ : ∃ l0 p, ps' = l0 ++ [p] := ⟨_, _, (List.dropLast_concat_getLast hnil).symm⟩
   obtain ⟨g, cap, e1, g1, g2, g3, g4⟩ := HI.out.un.row.cells encQ_len hnil
   rw [List.length_append, List.length_singleton] at e1 g3
   subst e1
   have q0 := (g4 l0.length p (by simp) 0 _ rfl).1
   have q1 := (g4 l0.length p (by simp) 1 _ rfl).1
   obtain ⟨-, -, -, p3, pf⟩ := HI.out.un.cells
   have hlw := HI.out.un.lt
   have hpl := HI.out.pl
   rw [List.length_append, List.length_singleton] at hpl
   have hwk := HI.out.un.work
   have hw1 : IntKind.i64.wrap (((l0.length + 1 : Nat) : Int) - 1) = (l0.length : Int) := by rw [IntWalk.i64_in _ (by omega)]; omega
   have hw2 : IntKind.i64.wrap (l0.length : Int) = (l0.length : Int) := IntWalk.i64_in _ (by omega)
   have hn0 : (0 : Int) ≤ (l0.length : Int) := by omega
   have hn1 : (0 : Int) < (l0.length : Int) + 1 := by omega
   have hn2 : (l0.length : Int) < (l0.length : Int) + 1 := by omega
   have hn3 : ((l0.length + 1 : Nat) : Int) = (l0.length : Int) + 1 := by omega
   have hn4 : l0.length < l0.length + 1 := by omega
   rw [Nat.add_zero] at q0
   obtain ⟨pa, pb⟩ := p
   simp only at q0 q1
   clear g4 hnil hpl hwk
   have HS : Hid (∀ v, TF [] wr v → v.cell? ⟨rb, 3, none⟩ = some (.slice (some ⟨g, 0, none⟩) (l0.length + 1) cap) ∧ v.cell? ⟨g, l0.length * 2, none⟩ = some (.int .i64 (pa : Nat)) ∧ v.cell? ⟨g, l0.length * 2 + 1, none⟩ = some (.int .i64 (pb : Nat))) := Lib.hid fun v hv =>
    have h1 := hv.block (t := 456) ⟨_, HI.out.un.blk⟩ (by simp)
    have h2 := hv.block (HI.out.un.row.ty (g := g) rfl) (by simp)
    ⟨(World.cell?_of_block (a := ⟨rb, 3, none⟩) h1).trans p3, (World.cell?_of_block (a := ⟨g, l0.length * 2, none⟩) h2).trans q0, (World.cell?_of_block (a := ⟨g, l0.length * 2 + 1, none⟩) h2).trans q1⟩
   go_upto_region 4 with fail
   clear p3 q0 q1
   go_region_held3 (fun v => v.cell? ⟨rb, 3, none⟩ = some (.slice (some ⟨g, 0, none⟩) (l0.length + 1) cap) ∧ v.cell? ⟨g, l0.length * 2, none⟩ = some (.int .i64 (pa : Nat)) ∧ v.cell? ⟨g, l0.length * 2 + 1, none⟩ = some (.int .i64 (pb : Nat)))
    (first | (with_reducible exact HS.out _ (TF.refl _ _)) | (with_reducible exact HS.out _ (TF.refl _ _).drew) | (with_reducible exact HS.out _ ((TF.refl _ _).drew.alloc _)) | exact HS.out _ ((((TF.refl _ _).drew.alloc _).new (by simp) _).new (by simp) _))
    (fail)
   obtain ⟨V, hV⟩ : ∃ V, V = (wr.alloc (.cells #[.int .i64 (pa : Nat), .int .i64 (pb : Nat)] 493)).drew := ⟨_, rfl⟩
   have hbV : Below wr.heap.size wr V := by rw [hV]; exact ((Below.refl _ _).alloc (Nat.le_refl _) _).drew
   have hz : V.heap[wr.heap.size]? = some (.cells #[.int .i64 (pa : Nat), .int .i64 (pb : Nat)] 493 (0, 0)) := by rw [hV]; exact heap_alloc_new _ _
   rw [← hV]
   clear hV pf HS hlw
   obtain ⟨-, -, -, p3, pf⟩ := (HI.out.un.later hbV).cells
   have hlV := (HI.out.un.later hbV).lt
   have HV := Lib.hid (And.intro hbV hz)
   obtain ⟨T1, hT1⟩ : ∃ T, T = wr.heap.size := ⟨_, rfl⟩
   rw [← hT1]
   have HT1 := Lib.hid hT1
   have hTV : T1 < V.heap.size := by rw [hT1]; exact (Array.getElem?_eq_some_iff.1 hz).1
   clear hbV hz hT1
   go_upto_region 5 with fail
   have hn5 : (l0.length : Int) < ((l0.length + 1 : Nat) : Int) := by omega
   have hn6 : (l0.length : Int) ≤ (cap : Int) := by omega
   have hn7 : l0.length ≤ cap := by omega
   (refine wp_region_still_tail 14 (by kernel_rfl) (by kernel_rfl) ?_; simp only [List.take_succ_cons, List.take_zero, List.drop_succ_cons, List.drop_zero]; repeat (with_reducible refine wpStill_step ?_; intro KK hKK; go_simp; with_reducible refine hKK _ ?_; clear hKK KK)); try (with_reducible refine wpStill_nil ?_)
   go_wp2_with fail
   have HI2 : Hid (UnAt rb sb (V.setCell ⟨rb, 3, none⟩ (.slice (some ⟨g, 0, none⟩) l0.length cap)).drew safe w' (.slice (some ⟨g, 0, none⟩) l0.length cap) l0 ∧ StAt sb room (V.setCell ⟨rb, 3, none⟩ (.slice (some ⟨g, 0, none⟩) l0.length cap)).drew cv' bv' xs' cs' ys' ∧ TF unS u (V.setCell ⟨rb, 3, none⟩ (.slice (some ⟨g, 0, none⟩) l0.length cap)).drew ∧ (V.setCell ⟨rb, 3, none⟩ (.slice (some ⟨g, 0, none⟩) l0.length cap)).drew.heap[T1]? = some (.cells #[.int .i64 (pa : Nat), .int .i64 (pb : Nat)] 493 (0, 0))) := Lib.hid (by
    have hu := HI.out.un.later HV.out.1
    have hrun : TyB V 456 rb := ⟨_, hu.blk⟩
    have hn : T1 ≠ rb := fun e => by have := HI.out.un.lt; rw [HT1.out] at e; omega
    refine ⟨⟨blk_put hu.blk _, (Row.front encQ_len hu.row).keep fun k hk' => Below.heap_setCell _ _ _ _ (((Row.front encQ_len hu.row).ty hk').ne hrun (by decide)), hu.work, ⟨by have := hu.few.1; rw [List.length_append] at this; omega, hu.ge⟩⟩, ?_, ((HI.out.fr.later HV.out.1).set (p := ⟨rb, 3, none⟩) hrun (by decide) hu.ge _).drew, ?_⟩
    ·exact (HI.out.st.later HV.out.1).keep fun t b ht hb => Below.heap_setCell _ _ _ _ (hb.ne hrun (fun e => by subst e; exact absurd ht (by decide)))
    ·rw [← HT1.out] at HV
     exact (Below.heap_setCell _ _ _ _ hn).trans HV.out.2)
   have hTV2 : T1 < (V.setCell ⟨rb, 3, none⟩ (.slice (some ⟨g, 0, none⟩) l0.length cap)).drew.heap.size := by simpa [World.setCell] using hTV
   obtain ⟨V2, hV2⟩ : ∃ V2, V2 = (V.setCell ⟨rb, 3, none⟩ (.slice (some ⟨g, 0, none⟩) l0.length cap)).drew := ⟨_, rfl⟩
   rw [← hV2] at HI2 hTV2
   rw [← hV2]
   clear hV2 p3 pf hlV hTV
   have HG := Lib.hid (And.intro HI.out.gas (And.intro HI.out.len (And.intro HI.out.in' (And.intro HI.out.pl (And.intro HI.out.yl HI.out.uni)))))
   have HE := Lib.hid (And.intro HI.out.ext HI.out.bs)
   clear HI HV
   refine (look_un HI2.out.1).mono ?_
   rintro e W3 h3
   rcases h3 with ⟨h20, rfl, rfl⟩ | ⟨h20, rfl, hu3, hf3, hk3⟩
   ·have HQ : Hid (P (.returned (.tuple #[.bool false, .int .i64 16])) V2) := Lib.hid (by
     rw [HP.out]
     refine ⟨false, 16, _, _, _, cs', ys', cs', bs', rfl, HI2.out.2.1, HI2.out.2.2.1, HE.out.1.imp fun e' he => ⟨he, by have := HG.out.2.2.2.2.1; omega⟩, HG.out.2.2.2.2.2 _ _ _ ?_, fun e => (by cases e)⟩
     rw [List.reverse_append, List.reverse_singleton]
     exact .tired (by omega))
    clear h20
    go_wp2_with fail
    exact HQ.out
   have hz3 := (hk3 T1 (fun e => by have := HI2.out.1.blk; rw [← e, HI2.out.2.2.2] at this; injection this with this; injection this with _ this; exact absurd this (by decide))).trans HI2.out.2.2.2
   have HI3 : Hid (UnAt rb sb W3 safe (w' + 1) (.slice (some ⟨g, 0, none⟩) l0.length cap) l0 ∧ StAt sb room W3 cv' bv' xs' cs' ys' ∧ TF unS u W3) := Lib.hid
    ⟨hu3, HI2.out.2.1.tf hf3 (by decide), HI2.out.2.2.1.trans (hf3.mono fun _ hx => List.mem_append_left _ hx)⟩
   have z0 : W3.cell? ⟨T1, 0, none⟩ = some (.int .i64 (pa : Nat)) := by rw [cell_of_row W3 T1 0 _ _ (0, 0) hz3]; rfl
   have z1 : W3.cell? ⟨T1, 1, none⟩ = some (.int .i64 (pb : Nat)) := by rw [cell_of_row W3 T1 1 _ _ (0, 0) hz3]; rfl
   clear hu3 hf3 hk3 hz3 HI2 hTV2
   go_wp2_with fail
   have HIN := HG.out.2.2.1 (pa, pb) (List.mem_append_right _ (List.mem_singleton.2 rfl))
   refine (one_un HI3.out.1 HI3.out.2.1 pa pb (by rw [HG.out.2.1]; exact HIN.1) (by rw [HG.out.2.1]; exact HIN.2) (by have := HG.out.2.2.2.2.1; omega) (by have := HG.out.2.2.2.1; rw [List.length_append] at this; omega)).mono ?_
   rintro e W5 ⟨ok, z, w5, wv5, cv5, bv5, ps5, xs5, cs5, ys5, rfl, hu5, hs5, hf5, hw5, hc5, he5, hp5, hi5, hF, hT⟩
   have HO := Lib.hid (And.intro hu5 (And.intro hs5 (And.intro hf5 (And.intro hw5 (And.intro hc5 (And.intro he5 (And.intro hp5 hi5)))))))
   have HFT := Lib.hid (And.intro hF hT)
   clear hu5 hs5 hf5 hw5 hc5 he5 hp5 hi5 hF hT z0 z1 HIN
   cases ok with
   | false =>
    have HQ : Hid (P (.returned (.tuple #[.bool false, .int .i64 z])) W5) := Lib.hid (by
     rw [HP.out]
     obtain ⟨e5, h6, h7⟩ := HO.out.2.2.2.2.2.1
     obtain ⟨e', h8⟩ := HE.out.1
     refine ⟨false, z, _, _, _, cs5, ys5, cs', bs', rfl, HO.out.2.1, HI3.out.2.2.trans HO.out.2.2.1, ⟨e' ++ e5, by rw [h6, h8, List.append_assoc], by have := HG.out.2.2.2.2.1; omega⟩, HG.out.2.2.2.2.2 _ _ _ ?_, fun e => (by cases e)⟩
     rw [List.reverse_append, List.reverse_singleton]
     exact HFT.out.1 rfl _ _ _ rfl)
    go_wp2_with fail
    exact HQ.out
   | true =>
    have HNX : Hid (0 < gk ∧ ∃ bs5, AllAt rb sb room u safe cs ys a b (20001 - w5) W5 w5 wv5 cv5 bv5 ps5 xs5 cs5 ys5 bs5) := Lib.hid (by
     obtain ⟨hu5, hs5, hf5, hw5, hc5, ⟨e5, h6, h7⟩, hp5, hi5⟩ := HO.out
     obtain ⟨e', h8⟩ := HE.out.1
     obtain ⟨d, bs5, h9, h10, h11⟩ := HFT.out.2 rfl
     obtain ⟨k1, k2, k3, k4, k5, k6⟩ := HG.out
     have hwk := hu5.work
     rw [List.length_append, List.length_singleton] at k4
     refine ⟨by omega, bs' ++ bs5, hu5, hs5, HI3.out.2.2.trans hf5, by rw [hc5, k2], ⟨e' ++ e5, by rw [h6, h8, List.append_assoc]⟩, by omega, by omega, fun p hp => ?_, by rw [h10, HE.out.2, List.append_assoc], fun R cs9 bs9 hU => k6 R cs9 bs9 ?_, by omega⟩
     ·rcases hi5 p hp with hp | hp
      ·exact k3 p (List.mem_append_left _ hp)
      ·rw [k2] at hp
       exact hp
     ·rw [List.reverse_append, List.reverse_singleton]
      refine h11 _ _ _ _ _ _ rfl ?_
      rw [h9, List.reverse_append, List.reverse_reverse] at hU
      exact hU)
    have hlt : 20001 - w5 < gk := by
     have h1 := HG.out.1
     have h2 := HO.out.2.2.2.1
     have h3 := HNX.out.1
     omega
    go_wp2_with fail
    go_roundg (20001 - w5)
    case measure => exact hlt
    case rel =>
     obtain ⟨bs5, h⟩ := HNX.out.2
     exact ⟨_, _, _, _, _, _, _, _, _, Lib.hid h⟩
end
end Go.Proofs.YtjdnigepnfeboaaGreatDoor
namespace Go.Proofs.YtjdnigepnfeboaaGreatDoor
open Go.RowKit Go.Maps
set_option maxRecDepth 100000
variable [Base]
set_option linter.unusedSectionVars false
section
variable {sb room : Nat} {u u' : World} {safe : Bool} {cv bv : Value} {xs : List ScM} {cs : List Sc} {ys : List (Nat × Int)}
set_option maxHeartbeats 8000000 in
theorem begin_any (hs : StAt sb room u cv bv xs cs ys) (a b : Nat) (ha : a < cs.length) (hb : b < cs.length) (hm : ys.length + 20001 ≤ 100000000) :
    Calls Tryz.prog 254 #[.pointer (some ⟨sb, 0, none⟩), .int .i64 (a : Nat), .int .i64 (b : Nat), .bool safe] u fun e u' => AllOut sb room u safe cs ys a b e u' := by
 have H := Lib.hid hs
 have HAB := Lib.hid (And.intro ha hb)
 obtain ⟨P, hP⟩ : ∃ P : Ending → World → Prop, P = fun e u' => AllOut sb room u safe cs ys a b e u' := ⟨_, rfl⟩
 rw [← hP]
 have HP := Lib.hid hP
 obtain ⟨U, hU⟩ : ∃ U, U = u.alloc (.cells #[.pointer (some ⟨sb, 0, none⟩), .bool safe, .int .i64 0, .slice none 0 0] 456) := ⟨_, rfl⟩
 have hbU : Below u.heap.size u U := by rw [hU]; exact (Below.refl _ _).alloc (Nat.le_refl _) _
 have HU : Hid (UnAt u.heap.size sb U safe 0 (.slice none 0 0) [] ∧ StAt sb room U cv bv xs cs ys ∧ TF unS u U) := Lib.hid
  ⟨⟨by rw [hU]; exact heap_alloc_new _ _, Row.nil _ _ _ _ _, Nat.zero_le _, by simp, by have := hs.ge; have := hs.lt; omega⟩, hs.later hbU, by rw [hU]; exact (TF.refl _ _).alloc _⟩
 clear hP hs ha hb hbU
 go_enter Tryz.func254, Tryz.ntmps254
 go_wp2_with (first | (go_at_call 326; with_reducible refine (cell_un H.out HAB.out.1).mono ?_; rintro e w1 ⟨rfl, rfl⟩) | (go_at_call 326; with_reducible refine (cell_un H.out HAB.out.2).mono ?_; rintro e w1 ⟨rfl, rfl⟩) | (go_at_call 141; refine (mark_any H.out).mono ?_; rintro e w1 ⟨rfl, rfl⟩) | fail)
 rw [← hU]
 clear hU
 refine (all_un HU.out.1 HU.out.2.1 a b HAB.out.1 HAB.out.2 hm).mono ?_
 rintro e W ⟨ok, z, cv5, bv5, xs5, cs5, ys5, csF, bsF, rfl, hs5, hf5, he5, hu5, ht5⟩
 have H5 := Lib.hid (And.intro hs5 (And.intro (HU.out.2.2.trans hf5) (And.intro he5 (And.intro hu5 ht5))))
 clear hs5 hf5 he5 hu5 ht5
 cases ok with
 | true =>
  have HQ : Hid (P (.returned (.tuple #[.bool true, .int .i64 z])) W) := Lib.hid (by
   rw [HP.out]
   obtain ⟨h1, h2, h3, h4, h5⟩ := H5.out
   exact ⟨true, z, _, _, _, cs5, ys5, csF, bsF, rfl, h1, h2, h3, h4, h5⟩)
  go_wp2_with fail
  exact HQ.out
 | false =>
  go_wp2_with fail
  refine (undo_any H5.out.1 ys.length (by obtain ⟨e', h, -⟩ := H5.out.2.2.1; rw [h, List.length_append]; omega)).mono ?_
  rintro e W2 ⟨rfl, ⟨bv6, xs6, h6⟩, hf6⟩
  have HQ : Hid (P (.returned (.tuple #[.bool false, .int .i64 z])) W2) := Lib.hid (by
   rw [HP.out]
   obtain ⟨h1, h2, ⟨e', h3, -⟩, h4, -⟩ := H5.out
   have e7 : ys5.take ys.length = ys := by rw [h3, List.take_left]
   rw [e7] at h6
   exact ⟨false, z, _, _, _, _, ys, csF, bsF, rfl, h6, h2.trans (hf6.mono fun _ hx => List.mem_append_right _ hx), ⟨[], by simp, by omega⟩, h4, fun e => (by cases e)⟩)
  clear h6 hf6
  go_wp2_with fail
  exact HQ.out
set_option maxHeartbeats 4000000 in
theorem Unify_any (hs : StAt sb room u cv bv xs cs ys) (a b : Nat) (ha : a < cs.length) (hb : b < cs.length) (hm : ys.length + 20001 ≤ 100000000) :
    Calls Tryz.prog 160 #[.pointer (some ⟨sb, 0, none⟩), .int .i64 (a : Nat), .int .i64 (b : Nat)] u fun e u' => AllOut sb room u false cs ys a b e u' := by
 have HC := Lib.hid (begin_any (safe := false) hs a b ha hb hm)
 obtain ⟨P, hP⟩ : ∃ P : Ending → World → Prop, P = fun e u' => AllOut sb room u false cs ys a b e u' := ⟨_, rfl⟩
 rw [← hP]
 have HP := Lib.hid hP
 clear hP hs ha hb hm
 go_enter Tryz.func160, Tryz.ntmps160
 go_wp2_with fail
 refine HC.out.mono ?_
 intro e W h
 have HQ : Hid (P e W) := Lib.hid (by rw [HP.out]; exact h)
 obtain ⟨ok, z, -, -, -, -, -, -, -, rfl, -⟩ := h
 go_wp2_with fail
 exact HQ.out
set_option maxHeartbeats 4000000 in
theorem Safely_any (hs : StAt sb room u cv bv xs cs ys) (a b : Nat) (ha : a < cs.length) (hb : b < cs.length) (hm : ys.length + 20001 ≤ 100000000) :
    Calls Tryz.prog 162 #[.pointer (some ⟨sb, 0, none⟩), .int .i64 (a : Nat), .int .i64 (b : Nat)] u fun e u' => AllOut sb room u true cs ys a b e u' := by
 have HC := Lib.hid (begin_any (safe := true) hs a b ha hb hm)
 obtain ⟨P, hP⟩ : ∃ P : Ending → World → Prop, P = fun e u' => AllOut sb room u true cs ys a b e u' := ⟨_, rfl⟩
 rw [← hP]
 have HP := Lib.hid hP
 clear hP hs ha hb hm
 go_enter Tryz.func162, Tryz.ntmps162
 go_wp2_with fail
 refine HC.out.mono ?_
 intro e W h
 have HQ : Hid (P e W) := Lib.hid (by rw [HP.out]; exact h)
 obtain ⟨ok, z, -, -, -, -, -, -, -, rfl, -⟩ := h
 go_wp2_with fail
 exact HQ.out
end
end Go.Proofs.YtjdnigepnfeboaaGreatDoor
