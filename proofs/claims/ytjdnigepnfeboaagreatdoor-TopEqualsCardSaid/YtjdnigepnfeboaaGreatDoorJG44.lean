import Derived.Test.YtjdnigepnfeboaaGreatDoorJG35
import Derived.Test.YtjdnigepnfeboaaGreatDoorJG43
import Derived.Test.YtjdnigepnfeboaaGreatDoorJG37
namespace Go.Proofs.YtjdnigepnfeboaaGreatDoor
open Go.RowKit Go.Maps
set_option maxRecDepth 100000
set_option maxHeartbeats 4000000 in
theorem Known_p (w : World) : Calls Tryz.prog 28 #[.string ⟨#[112]⟩, .int .i64 1] w fun e w' => e = .returned (.bool false) ∧ Below w.heap.size w w' := by
 have HK := Lib.hid (kind_any w 4 0 [112] none 0 0 1 (.inr rfl) (by decide) (by decide) (by decide))
 have hk0 : kindF 4 [112] 1 = 0 := by decide +kernel
 rw [hk0] at HK
 clear hk0
 go_enter Tryz.func28, Tryz.ntmps28
 go_wp2_with fail
 refine HK.out.mono ?_
 rintro e w1 ⟨rfl, hb1⟩
 have HB1 := Lib.hid hb1
 clear hb1 HK
 go_upto_region 7 with fail
 go_wp2_with fail
 refine (blt_any _ _).mono ?_
 rintro e w3 ⟨b, rfl, h3⟩
 have hlk := (BltAt.of h3).look [112] 1 (by unfold okPK; decide)
 rw [show mget bltL ([112], (1 : Int)) = none by decide +kernel] at hlk
 have HB3 := Lib.hid h3
 clear h3
 go_wp2_with fail
 refine (tdoes_p _).mono ?_
 rintro e w4 ⟨rfl, rfl⟩
 go_wp2_with fail
 refine (sdoes_p _).mono ?_
 rintro e w5 ⟨rfl, rfl⟩
 go_wp2_with fail
 go_ret
 obtain ⟨L, hL, -⟩ := HB3.out
 exact ⟨rfl, HB1.out.trans (((Below.refl _ _).alloc (Nat.le_refl _) _).trans (hL.below.mono (by simp)) |>.mono HB1.out.size)⟩
def trueB : List UInt8 := [116, 114, 117, 101]
def trueT : Tm := .mk 3 0 trueB []
def zeroV : Value := .agg #[.int .i64 0, .int .i64 0, .string ⟨#[]⟩, .slice none 0 0]
theorem leaf_of {w : World} {S : Nat → Prop} {y : TV} {k n : Int} {s : List UInt8} (h : TermS w S y (.mk k n s [])) : y.k = k ∧ y.n = n ∧ y.s = s ∧ y.len = 0 ∧ s.length ≤ maxLen := by
 cases h with
 | mk _ args xs h1 h2 h3 hc ht => exact ⟨rfl, rfl, rfl, h2.symm, h3⟩
theorem leaf_any {w : World} {S : Nat → Prop} {y : TV} {k n : Int} {s : List UInt8} (h : TermS w S y (.mk k n s [])) (w' : World) (S' : Nat → Prop) : TermS w' S' y (.mk k n s []) := by
 obtain ⟨h1, h2, h3, h4, h5⟩ := leaf_of h
 obtain ⟨k', n', s', A, len, cap⟩ := y
 dsimp only at h1 h2 h3 h4
 subst h1 h2 h3 h4
 exact TermS.leaf w' S' _ _ _ _ _ h5
set_option maxHeartbeats 4000000 in
theorem Clause_any (u : World) (G : Nat → Prop) (x : TV) (t : Tm) (hx : TermS u (TyT u G) x t) (hm : t.may = true) (hsz : t.size ≤ 2000) (hk : x.k = 4) (hs : x.s ≠ [58, 45]) :
    Calls Tryz.prog 27 #[tvV x] u fun e u' => ∃ y z : TV, e = .returned (.tuple #[tvV y, tvV z, .int .i64 0, zeroV]) ∧ TermS u' (NewT u u' G) y t ∧ TermS u' (NewT u u' G) z trueT ∧ Below u.heap.size u u' := by
 obtain ⟨P, hP⟩ : ∃ P : Ending → World → Prop, P = fun e u' => ∃ y z : TV, e = .returned (.tuple #[tvV y, tvV z, .int .i64 0, zeroV]) ∧ TermS u' (NewT u u' G) y t ∧ TermS u' (NewT u u' G) z trueT ∧ Below u.heap.size u u' := ⟨_, rfl⟩
 rw [← hP]
 have HP := Lib.hid hP
 obtain ⟨k, n, s, A, len, cap⟩ := x
 dsimp only at hk hs
 subst hk
 have hsb : (s == [58, 45]) = false := beq_false_of_ne hs
 obtain ⟨W, hW⟩ : ∃ W, W = (((u.alloc (.cells #[.int .i64 4, .int .i64 n, .string ⟨s.toArray⟩, .slice A len cap] 27)).alloc (.cells #[.int .i64 0, .int .i64 0, .string ⟨#[]⟩, .slice none 0 0] 27)).alloc (.cells #[.int .i64 0, .int .i64 0, .string ⟨#[]⟩, .slice none 0 0] 27)).alloc (.cells #[.int .i64 0, .int .i64 0, .string ⟨#[]⟩, .slice none 0 0] 27) := ⟨_, rfl⟩
 have hbW : Below u.heap.size u W := by rw [hW]; exact ((((Below.refl _ _).alloc (Nat.le_refl _) _).alloc (by simp) _).alloc (by simp <;> omega) _).alloc (by simp <;> omega) _
 have h4 : W.heap[u.heap.size]? = some (.cells #[.int .i64 4, .int .i64 n, .string ⟨s.toArray⟩, .slice A len cap] 27 (0, 0)) ∧ (∀ i, 1 ≤ i → i ≤ 3 → W.heap[u.heap.size + i]? = some (.cells #[.int .i64 0, .int .i64 0, .string ⟨#[]⟩, .slice none 0 0] 27 (0, 0))) := by
  rw [hW]
  refine ⟨?_, fun i h1 h3 => ?_⟩
  ·rw [Below.heap_alloc _ _ _ (by simp <;> omega), Below.heap_alloc _ _ _ (by simp <;> omega), Below.heap_alloc _ _ _ (by simp)]
   exact heap_alloc_new _ _
  ·have hn : ∀ (w : World) (j : Nat), w.heap.size = j → (w.alloc (.cells #[.int .i64 0, .int .i64 0, .string ⟨#[]⟩, .slice none 0 0] 27)).heap[j]? = some (.cells #[.int .i64 0, .int .i64 0, .string ⟨#[]⟩, .slice none 0 0] 27 (0, 0)) := fun w j h => by rw [← h]; exact heap_alloc_new _ _
   rcases (show i = 1 ∨ i = 2 ∨ i = 3 by omega) with rfl | rfl | rfl
   ·rw [Below.heap_alloc _ _ _ (by simp <;> omega), Below.heap_alloc _ _ _ (by simp)]
    exact hn _ _ (by simp)
   ·rw [Below.heap_alloc _ _ _ (by simp)]
    exact hn _ _ (by simp)
   ·exact hn _ _ (by simp)
 have HXW : Hid (TermS W (TyT W fun b => b < u.heap.size ∧ G b) ⟨4, n, s, A, len, cap⟩ t) := Lib.hid (hx.move fun b hb => ⟨⟨hb.1.keep (hbW.block b hb.1.lt), hb.1.lt, hb.2⟩, hbW.block b hb.1.lt⟩)
 have HB := Lib.hid hbW
 have H4 := Lib.hid h4
 have HZ := Lib.hid (And.intro hsz hm)
 obtain ⟨z0, z1, z2, z3, -⟩ := four_at h4.1
 have hlW : u.heap.size + 3 < W.heap.size := (Array.getElem?_eq_some_iff.1 (h4.2 3 (by omega) (by omega))).1
 clear hP hx hm hsz hs hbW h4
 unfold tvV
 go_enter Tryz.func27, Tryz.ntmps27
 go_upto_region 1 with fail
 rw [← hW]
 clear hW
 go_wp2_with fail
 refine (check_any W ⟨4, n, s, A, len, cap⟩ t (HXW.out.at fun b hb => hb.1.lt) (by have := HZ.out.1; omega) (by have := HZ.out.1; have := deep_size t; omega)).mono ?_
 rintro e w1 ⟨rfl, hb1⟩
 rw [checkT_ok HZ.out.2 HZ.out.1]
 obtain ⟨V, hV⟩ : ∃ V, V = (w1.alloc (.cells #[.int .i64 4, .int .i64 n, .string ⟨s.toArray⟩, .slice A len cap] 27)).alloc (.cells #[.int .i64 3, .int .i64 0, .string ⟨#[116, 114, 117, 101]⟩, .slice none 0 0] 27) := ⟨_, rfl⟩
 have hbV : Below w1.heap.size w1 V := by rw [hV]; exact ((Below.refl _ _).alloc (Nat.le_refl _) _).alloc (by simp) _
 have hbWV := hb1.trans (hbV.mono hb1.size)
 have hV6 : V.heap[w1.heap.size]? = some (.cells #[.int .i64 4, .int .i64 n, .string ⟨s.toArray⟩, .slice A len cap] 27 (0, 0)) := by
  rw [hV, Below.heap_alloc _ _ _ (by simp)]
  exact heap_alloc_new _ _
 have hV7 : V.heap[w1.heap.size + 1]? = some (.cells #[.int .i64 3, .int .i64 0, .string ⟨#[116, 114, 117, 101]⟩, .slice none 0 0] 27 (0, 0)) := by
  have := heap_alloc_new (w1.alloc (.cells #[.int .i64 4, .int .i64 n, .string ⟨s.toArray⟩, .slice A len cap] 27)) (.cells #[.int .i64 3, .int .i64 0, .string ⟨#[116, 114, 117, 101]⟩, .slice none 0 0] 27)
  rw [World.size_alloc] at this
  rw [hV]; exact this
 have hV4 : V.heap[u.heap.size]? = some (.cells #[.int .i64 4, .int .i64 n, .string ⟨s.toArray⟩, .slice A len cap] 27 (0, 0)) ∧ (∀ i, 1 ≤ i → i ≤ 3 → V.heap[u.heap.size + i]? = some (.cells #[.int .i64 0, .int .i64 0, .string ⟨#[]⟩, .slice none 0 0] 27 (0, 0))) := ⟨(hbWV.block _ (by omega)).trans H4.out.1, fun i h1 h3 => (hbWV.block _ (by omega)).trans (H4.out.2 i h1 h3)⟩
 have HXV : Hid (TermS V (TyT V fun b => b < u.heap.size ∧ G b) ⟨4, n, s, A, len, cap⟩ t) := Lib.hid (HXW.out.move fun b hb => ⟨⟨hb.1.keep (hbWV.block b hb.1.lt), hb.2⟩, hbWV.block b hb.1.lt⟩)
 have HBV := Lib.hid (HB.out.trans (hbWV.mono HB.out.size))
 have HV4 := Lib.hid hV4
 have HV67 := Lib.hid (And.intro hV6 hV7)
 have hW1 := (hb1.block _ (by omega)).trans H4.out.1
 obtain ⟨z0, z1, z2, z3, -⟩ := four_at hV4.1
 obtain ⟨w10, w11, w12, w13, -⟩ := four_at hW1
 obtain ⟨x0, x1, x2, x3, -⟩ := four_at hV6
 obtain ⟨y0, y1, y2, y3, -⟩ := four_at hV7
 have hsz1 : u.heap.size + 3 < w1.heap.size := Nat.lt_of_lt_of_le hlW hb1.size
 clear hb1 hbV hbWV hV4 hV6 hV7 HXW HB H4 hlW hW1
 go_upto_region 5 with fail
 rw [← hV]
 clear hV
 go_upto_region 12 with fail
 clear w10 w11 w12 w13 z0 z1 z2 z3 x0 x1 x2 x3
 go_wp2_with fail
 refine (Body_any V (fun _ => False) ⟨3, 0, trueB, none, 0, 0⟩ trueT (TermS.leaf _ _ _ _ _ _ _ (by decide)) (by decide) (by decide) (by decide) (by decide) (.inl rfl) (by decide +kernel)).mono ?_
 rintro e w2 ⟨y, rfl, hy, hb2⟩
 have hyT := leaf_of hy
 obtain ⟨w3, hw3⟩ : ∃ w3, w3 = ((((w2.setCell ⟨u.heap.size + 2, 0, none⟩ (.int .i64 y.k)).setCell ⟨u.heap.size + 2, 1, none⟩ (.int .i64 y.n)).setCell ⟨u.heap.size + 2, 2, none⟩ (.string ⟨y.s.toArray⟩)).setCell ⟨u.heap.size + 2, 3, none⟩ (.slice y.A y.len y.cap)) := ⟨_, rfl⟩
 have hlV : w1.heap.size + 1 < V.heap.size := (Array.getElem?_eq_some_iff.1 HV67.out.2).1
 have h24 : ∀ i, 1 ≤ i → i ≤ 3 → w2.heap[u.heap.size + i]? = some (.cells #[.int .i64 0, .int .i64 0, .string ⟨#[]⟩, .slice none 0 0] 27 (0, 0)) := fun i h1 h3 => (hb2.block _ (by omega)).trans (HV4.out.2 i h1 h3)
 have hp3 : PutT u w2 w3 (u.heap.size + 2) y := by rw [hw3]; exact put_t (h24 2 (by omega) (by omega)) rfl (by omega) y
 have h6 : w3.heap[w1.heap.size]? = some (.cells #[.int .i64 4, .int .i64 n, .string ⟨s.toArray⟩, .slice A len cap] 27 (0, 0)) := (hp3.off _ (by omega)).trans ((hb2.block _ (by omega)).trans HV67.out.1)
 have HBW3 := Lib.hid (hp3.below (HBV.out.trans (hb2.mono HBV.out.size)))
 have HX3 : Hid (TermS w3.drew (TyT w3.drew fun b => b < u.heap.size ∧ G b) ⟨4, n, s, A, len, cap⟩ t) := Lib.hid (HXV.out.move fun b hb => by
  have h1 : w3.heap[b]? = V.heap[b]? := (hp3.off _ (by have := hb.2.1; omega)).trans (hb2.block b hb.1.lt)
  exact ⟨⟨TyB.keep hb.1 h1, hb.2⟩, h1⟩)
 have hsz3 : w1.heap.size < w3.heap.size := (Array.getElem?_eq_some_iff.1 h6).1
 have HS : Hid (∀ v, Below w3.heap.size w3 v → v.heap[w1.heap.size]? = some (.cells #[.int .i64 4, .int .i64 n, .string ⟨s.toArray⟩, .slice A len cap] 27 (0, 0)) ∧ v.heap[u.heap.size + 1]? = some (.cells #[.int .i64 0, .int .i64 0, .string ⟨#[]⟩, .slice none 0 0] 27 (0, 0)) ∧ v.heap[u.heap.size + 2]? = some (.cells #[.int .i64 y.k, .int .i64 y.n, .string ⟨y.s.toArray⟩, .slice y.A y.len y.cap] 27 (0, 0)) ∧ v.heap[u.heap.size + 3]? = some (.cells #[.int .i64 0, .int .i64 0, .string ⟨#[]⟩, .slice none 0 0] 27 (0, 0))) := Lib.hid fun v hv =>
  ⟨(hv.block _ (by omega)).trans h6, (hv.block _ (by omega)).trans ((hp3.off _ (by omega)).trans (h24 1 (by omega) (by omega))), (hv.block _ (by omega)).trans hp3.blk, (hv.block _ (by omega)).trans ((hp3.off _ (by omega)).trans (h24 3 (by omega) (by omega)))⟩
 obtain ⟨r0, r1, r2, r3, rf⟩ := four_at (h24 2 (by omega) (by omega))
 have HY := Lib.hid (And.intro hy hyT)
 clear hb2 h24 hp3 h6 HXV HV4 HV67 HBV hlV hy hyT y0 y1 y2 y3
 unfold tvV
 go_upto_region 13 with fail
 rw [← hw3]
 clear hw3 r0 r1 r2 r3 rf
 go_upto_region 17 with fail
 obtain ⟨SB, hSB⟩ : ∃ SB : World → Prop, SB = fun v => (v.heap[w1.heap.size]? = some (.cells #[.int .i64 4, .int .i64 n, .string ⟨s.toArray⟩, .slice A len cap] 27 (0, 0)) ∧ v.heap[u.heap.size + 1 + 1]? = some (.cells #[.int .i64 y.k, .int .i64 y.n, .string ⟨y.s.toArray⟩, .slice y.A y.len y.cap] 27 (0, 0))) := ⟨_, rfl⟩
 have HSC : Hid (∀ v, SB v → (v.cell? ⟨w1.heap.size, 0, none⟩ = some (.int .i64 4) ∧ v.cell? ⟨w1.heap.size, 1, none⟩ = some (.int .i64 n) ∧ v.cell? ⟨w1.heap.size, 2, none⟩ = some (.string ⟨s.toArray⟩) ∧ v.cell? ⟨w1.heap.size, 3, none⟩ = some (.slice A len cap)) ∧ (v.cell? ⟨u.heap.size + 1 + 1, 0, none⟩ = some (.int .i64 y.k) ∧ v.cell? ⟨u.heap.size + 1 + 1, 1, none⟩ = some (.int .i64 y.n) ∧ v.cell? ⟨u.heap.size + 1 + 1, 2, none⟩ = some (.string ⟨y.s.toArray⟩) ∧ v.cell? ⟨u.heap.size + 1 + 1, 3, none⟩ = some (.slice y.A y.len y.cap))) := Lib.hid fun v hv => by
  rw [hSB] at hv
  obtain ⟨a, b, c, d, -⟩ := four_at hv.1
  obtain ⟨a', b', c', d', -⟩ := four_at hv.2
  exact ⟨⟨a, b, c, d⟩, a', b', c', d'⟩
 have H0 : Hid (∀ v, Below w3.heap.size w3 v → SB v) := Lib.hid fun v hv => by rw [hSB]; exact ⟨(HS.out v hv).1, (HS.out v hv).2.2.1⟩
 have H1 : Hid (∀ v a0 a1 a2 a3, SB v → SB ((((v.setCell ⟨u.heap.size + 1, 0, none⟩ a0).setCell ⟨u.heap.size + 1, 1, none⟩ a1).setCell ⟨u.heap.size + 1, 2, none⟩ a2).setCell ⟨u.heap.size + 1, 3, none⟩ a3)) := Lib.hid fun v a0 a1 a2 a3 hv => by
  rw [hSB] at hv ⊢
  exact ⟨(blk_set4_ne _ _ _ _ (by omega)).trans hv.1, (blk_set4_ne _ _ _ _ (by omega)).trans hv.2⟩
 have H3 : Hid (∀ v a0 a1 a2 a3, SB v → SB ((((v.setCell ⟨u.heap.size + 1 + 1 + 1, 0, none⟩ a0).setCell ⟨u.heap.size + 1 + 1 + 1, 1, none⟩ a1).setCell ⟨u.heap.size + 1 + 1 + 1, 2, none⟩ a2).setCell ⟨u.heap.size + 1 + 1 + 1, 3, none⟩ a3)) := Lib.hid fun v a0 a1 a2 a3 hv => by
  rw [hSB] at hv ⊢
  exact ⟨(blk_set4_ne _ _ _ _ (by omega)).trans hv.1, (blk_set4_ne _ _ _ _ (by omega)).trans hv.2⟩
 have H2 : Hid (∀ v, SB v → SB ((((v.setCell ⟨u.heap.size + 1 + 1, 0, none⟩ (.int .i64 y.k)).setCell ⟨u.heap.size + 1 + 1, 1, none⟩ (.int .i64 y.n)).setCell ⟨u.heap.size + 1 + 1, 2, none⟩ (.string ⟨y.s.toArray⟩)).setCell ⟨u.heap.size + 1 + 1, 3, none⟩ (.slice y.A y.len y.cap))) := Lib.hid fun v hv => by
  rw [hSB] at hv ⊢
  exact ⟨(blk_set4_ne _ _ _ _ (by omega)).trans hv.1, blk_set4 hv.2 rfl _ _ _ _⟩
 have HOW : Hid (Calls Tryz.prog 59 #[.agg #[.int .i64 4, .int .i64 n, .string ⟨s.toArray⟩, .slice A len cap]] w3.drew fun e w4 => ∃ z : TV, e = .returned (tvV z) ∧ TermS w4 (NewT w3.drew w4 fun b => b < u.heap.size ∧ G b) z t ∧ Below w3.heap.size w3.drew w4) := Lib.hid (own_any w3.drew ⟨4, n, s, A, len, cap⟩ t HX3.out (by have := HZ.out.1; omega))
 have HR : Hid (∀ w4, Below w3.heap.size w3.drew w4 → Below w3.heap.size w3 w4) := Lib.hid fun w4 h => (Below.refl _ _).drew.trans h
 have HR2 : Hid (∀ w4, Below w3.heap.size w3 w4 → (w4.cell? ⟨u.heap.size + 1, 0, none⟩ = some (.int .i64 0) ∧ w4.cell? ⟨u.heap.size + 1, 1, none⟩ = some (.int .i64 0) ∧ w4.cell? ⟨u.heap.size + 1, 2, none⟩ = some (.string ⟨#[]⟩) ∧ w4.cell? ⟨u.heap.size + 1, 3, none⟩ = some (.slice none 0 0) ∧ (∀ o, w4.frozen? ⟨u.heap.size + 1, o, none⟩ = false)) ∧ (∀ o, w4.frozen? ⟨u.heap.size + 1 + 1, o, none⟩ = false) ∧ (w4.cell? ⟨u.heap.size + 1 + 1 + 1, 0, none⟩ = some (.int .i64 0) ∧ w4.cell? ⟨u.heap.size + 1 + 1 + 1, 1, none⟩ = some (.int .i64 0) ∧ w4.cell? ⟨u.heap.size + 1 + 1 + 1, 2, none⟩ = some (.string ⟨#[]⟩) ∧ w4.cell? ⟨u.heap.size + 1 + 1 + 1, 3, none⟩ = some (.slice none 0 0) ∧ (∀ o, w4.frozen? ⟨u.heap.size + 1 + 1 + 1, o, none⟩ = false))) := Lib.hid fun w4 h => by
  obtain ⟨-, h1, h2, h3⟩ := HS.out w4 h
  exact ⟨four_at h1, (four_at h2).2.2.2.2, four_at h3⟩
 have HD := Lib.hid (HSC.out _ (H0.out _ (Below.refl _ _).drew))
 have HSS := HS
 clear hSB HS HX3 z0 z1 z2 z3 hsb
 go_region_held3 (fun v => (v.cell? ⟨w1.heap.size, 0, none⟩ = some (.int .i64 4) ∧ v.cell? ⟨w1.heap.size, 1, none⟩ = some (.int .i64 n) ∧ v.cell? ⟨w1.heap.size, 2, none⟩ = some (.string ⟨s.toArray⟩) ∧ v.cell? ⟨w1.heap.size, 3, none⟩ = some (.slice A len cap)) ∧ (v.cell? ⟨u.heap.size + 1 + 1, 0, none⟩ = some (.int .i64 y.k) ∧ v.cell? ⟨u.heap.size + 1 + 1, 1, none⟩ = some (.int .i64 y.n) ∧ v.cell? ⟨u.heap.size + 1 + 1, 2, none⟩ = some (.string ⟨y.s.toArray⟩) ∧ v.cell? ⟨u.heap.size + 1 + 1, 3, none⟩ = some (.slice y.A y.len y.cap)))
  (first | (with_reducible exact HSC.out _ HA3) | (with_reducible exact HSC.out _ HA2) | (with_reducible exact HSC.out _ HA1) | (with_reducible exact HSC.out _ HA) | (with_reducible exact HD.out))
  (first | (go_at_call 59; refine HOW.out.mono ?_; rintro e w4 ⟨z, rfl, ht4, hb4⟩; have hb5 := HR.out _ hb4; have HA := H0.out _ hb5; have HA1 := H1.out w4 (.int .i64 z.k) (.int .i64 z.n) (.string ⟨z.s.toArray⟩) (.slice z.A z.len z.cap) HA; have HA2 := H2.out _ HA1; have HA3 := H3.out _ (.int .i64 0) (.int .i64 0) (.string ⟨#[]⟩) (.slice none 0 0) HA2; obtain ⟨⟨r0, r1, r2, r3, rf⟩, r2f, ⟨s0, s1, s2, s3, sf⟩⟩ := HR2.out _ hb5; unfold tvV))
 clear HA HA1 HA2 HA3 r0 r1 r2 r3 rf r2f s0 s1 s2 s3 sf hb4 HOW HSC HD HR HR2 H0 H1 H2 H3 SB
 obtain ⟨A1, hA1⟩ : ∃ A, A = (((((w4).setCell ⟨u.heap.size + 1, 0, none⟩ (.int .i64 z.k)).setCell ⟨u.heap.size + 1, 1, none⟩ (.int .i64 z.n)).setCell ⟨u.heap.size + 1, 2, none⟩ (.string ⟨z.s.toArray⟩)).setCell ⟨u.heap.size + 1, 3, none⟩ (.slice z.A z.len z.cap)) := ⟨_, rfl⟩
 rw [← hA1]
 obtain ⟨A2, hA2⟩ : ∃ A, A = (((((A1).setCell ⟨u.heap.size + 1 + 1, 0, none⟩ (.int .i64 y.k)).setCell ⟨u.heap.size + 1 + 1, 1, none⟩ (.int .i64 y.n)).setCell ⟨u.heap.size + 1 + 1, 2, none⟩ (.string ⟨y.s.toArray⟩)).setCell ⟨u.heap.size + 1 + 1, 3, none⟩ (.slice y.A y.len y.cap)) := ⟨_, rfl⟩
 rw [← hA2]
 obtain ⟨A3, hA3⟩ : ∃ A, A = (((((A2).setCell ⟨u.heap.size + 1 + 1 + 1, 0, none⟩ (.int .i64 0)).setCell ⟨u.heap.size + 1 + 1 + 1, 1, none⟩ (.int .i64 0)).setCell ⟨u.heap.size + 1 + 1 + 1, 2, none⟩ (.string ⟨#[]⟩)).setCell ⟨u.heap.size + 1 + 1 + 1, 3, none⟩ (.slice none 0 0)) := ⟨_, rfl⟩
 rw [← hA3]
 have HQ : Hid ((A3.heap[u.heap.size + 1]? = some (.cells #[.int .i64 z.k, .int .i64 z.n, .string ⟨z.s.toArray⟩, .slice z.A z.len z.cap] 27 (0, 0)) ∧ A3.heap[u.heap.size + 1 + 1]? = some (.cells #[.int .i64 y.k, .int .i64 y.n, .string ⟨y.s.toArray⟩, .slice y.A y.len y.cap] 27 (0, 0)) ∧ A3.heap[u.heap.size + 1 + 1 + 1]? = some (.cells #[.int .i64 0, .int .i64 0, .string ⟨#[]⟩, .slice none 0 0] 27 (0, 0))) ∧ P (.returned (.tuple #[tvV z, tvV y, .int .i64 0, zeroV])) A3) := Lib.hid (by
  obtain ⟨-, k1, k2, k3⟩ := HSS.out w4 hb5
  have hp1 : PutT u w4 A1 (u.heap.size + 1) z := by rw [hA1]; exact put_t k1 rfl (by omega) z
  have hp2 : PutT u A1 A2 (u.heap.size + 1 + 1) y := by rw [hA2]; exact put_t ((hp1.off _ (by omega)).trans k2) rfl (by omega) y
  have hp3 : PutT u A2 A3 (u.heap.size + 1 + 1 + 1) ⟨0, 0, [], none, 0, 0⟩ := by rw [hA3]; exact put_t ((hp2.off _ (by omega)).trans ((hp1.off _ (by omega)).trans k3)) rfl (by omega) ⟨0, 0, [], none, 0, 0⟩
  refine ⟨⟨(hp3.off _ (by omega)).trans ((hp2.off _ (by omega)).trans hp1.blk), (hp3.off _ (by omega)).trans hp2.blk, hp3.blk⟩, ?_⟩
  rw [HP.out]
  refine ⟨z, y, rfl, ht4.move fun b hb => ?_, leaf_any HY.out.1 _ _, hp3.below (hp2.below (hp1.below (HBW3.out.trans (hb5.mono HBW3.out.size))))⟩
  have h4 : ¬ (u.heap.size < b ∧ b ≤ u.heap.size + 3) := fun h => by have := (hb.2 (show b < w3.heap.size by omega)).1; omega
  have hk : A3.heap[b]? = w4.heap[b]? := (hp3.off b (by omega)).trans ((hp2.off b (by omega)).trans (hp1.off b (by omega)))
  exact ⟨⟨hb.1.keep hk, fun h => (hb.2 (show b < w3.heap.size by omega)).2⟩, hk⟩)
 clear hA1 hA2 hA3 HSS HP HBW3 HY HZ ht4 hb5 hsz1 hsz3
 go_wp2_with fail
 obtain ⟨⟨q1, q2, q3⟩, hq⟩ := HQ.out
 obtain ⟨f0, f1, f2, f3, -⟩ := four_at q1
 obtain ⟨g0, g1, g2, g3, -⟩ := four_at q2
 obtain ⟨h0, h1, h2, h3, -⟩ := four_at q3
 exact bodyPost_ret (v := .tuple #[tvV z, tvV y, .int .i64 0, zeroV]) (by simp [results, Tryz.results27, go_sem, f0, f1, f2, f3, g0, g1, g2, g3, h0, h1, h2, h3, tvV, zeroV]) rfl hq
def ordL (q : Nat) : List Int := (List.range q).map fun (i : Nat) => (i : Int)
theorem ordL_succ (q : Nat) : ordL (q + 1) = ordL q ++ [(q : Int)] := by simp [ordL, List.range_succ]
theorem ordL_len (q : Nat) : (ordL q).length = q := by simp [ordL]
def LdS (w : World) (db mb q : Nat) (wr : World) : Prop :=
 ∃ es A c cls ov, LawSt w db mb (q : Nat) es A c cls ov (ordL q) (.slice none 0 0) [] wr ∧ cls.length = q ∧ ∀ (i : Nat) (cc : ClV), cls[i]? = some cc → cc.birth = (i : Int) + 1 ∧ cc.death = -1
theorem LdS.later {w u u' : World} {db mb q : Nat} (h : LdS w db mb q u) (hb : Below u.heap.size u u') : LdS w db mb q u' := by
 obtain ⟨es, A, c, cls, ov, h1, h2⟩ := h
 exact ⟨es, A, c, cls, ov, h1.later hb, h2⟩
theorem LdS.start {w u : World} (h : DbAt u (w.heap.size + 1) w.heap.size 0 [] (.slice none 0 0)) (hb : Below w.heap.size w u) : LdS w (w.heap.size + 1) w.heap.size 0 u :=
 ⟨[], none, 0, [], .slice none 0 0, ⟨h, Row.nil _ _ _ _ _, Row.nil _ _ _ _ _, Row.nil _ _ _ _ _, fun g hg => by simp [Value.ownBlock] at hg, .inl ⟨rfl, rfl, rfl, rfl⟩, fun i cc hi => by simp at hi, Nat.le_succ _, Nat.le_refl _, hb⟩, rfl, fun i cc hi => by simp at hi⟩
theorem LdS.add {w u : World} {db mb q : Nat} {α : Type} {B sz : Nat} {enc : α → List Value} {tv : Value} {ts : List α} (h : LdS w db mb q u) (hq : q < 2) (hr : Row u B 127 sz enc tv ts) (x y : TV)
    (hx : TermS u (TyB u 27) x (.mk 4 0 [112] [.mk 2 ((q + 1 : Nat) : Int) [] []])) (hy : TermS u (TyB u 27) y (.mk 3 0 trB [])) :
    Calls Tryz.prog 29 #[.pointer (some ⟨db, 0, none⟩), tvV x, tvV y, .bool false, .bool true] u fun e u' => e = .returned (.tuple #[.int .i64 (q : Nat), .int .i64 0]) ∧ LdS w db mb (q + 1) u' ∧ Row u' B 127 sz enc tv ts := by
 obtain ⟨es, A, c, cls, ov, h1, rfl, h3⟩ := h
 refine (db_addp w u db mb _ es A c cls ov _ _ _ h1 x y hx hy (by omega) (by rw [ordL_len]; omega) ⟨by omega, by omega⟩).mono ?_
 rintro e u' ⟨rfl, ⟨es', A', c', cc, ov', e1, e2, h4⟩, hf⟩
 refine ⟨rfl, ⟨es', A', c', cls ++ [cc], ov', ?_, by simp, fun i c2 hi => ?_⟩, hr.keep fun g hg => hf.block g (hr.ty hg).lt (setS_ty h1 (hr.ty hg) (by decide))⟩
 ·rw [ordL_succ]
  exact h4
 ·rw [List.getElem?_append] at hi
  split at hi
  ·exact h3 i c2 hi
  ·rename_i hl
   have : i - cls.length = 0 := by
    rcases Nat.eq_zero_or_pos (i - cls.length) with h | h
    ·exact h
    ·rw [List.getElem?_eq_none (by simp; omega)] at hi
     cases hi
   rw [this] at hi
   obtain rfl : cc = c2 := by simpa using hi
   exact ⟨by rw [e1, show i = cls.length by omega], e2⟩
set_option maxHeartbeats 8000000 in
theorem load_any (w : World) (T : List UInt8) (N : Nat) (hT : FixT T) (hE : RdEnv w) (hN : LdTok (lexQ T).1 N) :
    Calls Tryz.prog 18 #[.string ⟨T.toArray⟩] w fun e w' => ∃ db mb, e = .returned (.pointer (some ⟨db, 0, none⟩)) ∧ LdS w db mb N w' := by
 obtain ⟨P, hP⟩ : ∃ P : Ending → World → Prop, P = fun e w' => ∃ db mb, e = .returned (.pointer (some ⟨db, 0, none⟩)) ∧ LdS w db mb N w' := ⟨_, rfl⟩
 rw [← hP]
 have HP := Lib.hid hP
 have HE := Lib.hid hE
 have HN := Lib.hid hN
 have hN2 := hN.le
 clear hP hE hN
 go_enter Tryz.func18, Tryz.ntmps18
 go_wp2_with fail
 refine (dbnew_any w).mono ?_
 rintro e w1 ⟨rfl, hD, hb1⟩
 have HS1 := Lib.hid (LdS.start hD hb1)
 have HE1 := Lib.hid (HE.out.later hb1)
 have HB1 := Lib.hid hb1
 clear hD hb1
 go_wp2_with fail
 refine (lex_c w1 T hT).mono ?_
 rintro e w2 ⟨tv, rfl, hr, hb2⟩
 obtain ⟨An, cn, rfl⟩ := hr.shape
 have HS2 := Lib.hid (HS1.out.later hb2)
 have HE2 := Lib.hid (HE1.out.later hb2)
 have HR2 := Lib.hid hr
 obtain ⟨ts, hts⟩ : ∃ ts, ts = (lexQ T).1 := ⟨_, rfl⟩
 obtain ⟨tl, htl⟩ : ∃ tl, tl = (lexQ T).2.1 := ⟨_, rfl⟩
 obtain ⟨te, hte⟩ : ∃ te, te = (lexQ T).2.2 := ⟨_, rfl⟩
 rw [← hts] at HN HR2 ⊢
 rw [← htl, ← hte]
 clear hts htl hte hr hb2 HS1 HE1 hT
 go_wp2_with fail
 refine (new_any w2 HE2.out.kinds HE2.out.tab).mono ?_
 rintro e w3 ⟨bt, bm, rfl, -, -, -, -, hb3⟩
 obtain ⟨db, hdb⟩ : ∃ db, db = w.heap.size + 1 := ⟨_, rfl⟩
 obtain ⟨mb, hmb⟩ : ∃ mb, mb = w.heap.size := ⟨_, rfl⟩
 rw [← hdb, ← hmb] at HS2
 rw [← hdb]
 have HI0 := Lib.hid (And.intro (HS2.out.later hb3) (HR2.out.later hb3))
 clear hb3 HS2 HE2 HR2 HB1 hdb hmb HE
 obtain ⟨B, hB⟩ : ∃ B, B = w1.heap.size := ⟨_, rfl⟩
 rw [← hB] at HI0
 clear hB
 go_wp2_with fail
 go_loopw [8, 9] (fun a i wr => ∃ q : Nat, q ≤ N ∧ a = .int .i64 ((5 * q : Nat) : Int) ∧ i = .int .i64 (q : Nat) ∧ Hid (LdS w db mb q wr ∧ Row wr B 127 6 encTok (.slice An ts.length cn) ts)) (fun _ i _ => N - (intOf i).toNat)
 case atStart => exact ⟨0, Nat.zero_le _, rfl, rfl, HI0⟩
 case round =>
  obtain ⟨q, hq, rfl, rfl, HI⟩ := hrel
  clear HI0
  have hq40 : (q : Int) < 40 := by omega
  have HTK := Lib.hid (toks_row HI.out.2)
  by_cases hlt : q < N
  ·have HPT := Lib.hid (HN.out.at' q hlt)
   have HRD := Lib.hid (read_num wr An ts.length cn ts HTK.out HN.out.few (5 * q) bt ((q + 1 : Nat) : Int) HPT.out.1 HPT.out.2.1 HPT.out.2.2 (by omega))
   clear HTK HPT
   go_wp2_with fail
   refine HRD.out.mono ?_
   rintro e u1 ⟨hb1, x, nv, B', rfl, hx, hnv⟩
   obtain ⟨Av, cv, rfl⟩ := hnv.shape
   obtain ⟨An', cx, bx, ox, rfl, -⟩ := head_src hx
   obtain ⟨nx, hnx⟩ : ∃ nx : Int, nx = ((5 * q + 4 : Nat) : Int) + 1 := ⟨_, rfl⟩
   obtain ⟨ln, hln⟩ : ∃ ln : Int, ln = (peekF ts (5 * q)).line := ⟨_, rfl⟩
   have HX1 := Lib.hid (show TermS u1 (TyB u1 27) ⟨4, 0, [112], An', 1, cx⟩ (.mk 4 0 [112] [intT ((q + 1 : Nat) : Int)]) from hx)
   have HI1 := Lib.hid (And.intro (HI.out.1.later hb1) (HI.out.2.later hb1))
   dsimp only [clV]
   rw [← hnx, ← hln]
   have HNX := Lib.hid hnx
   clear hnx hnv
   obtain ⟨U, hU⟩ : ∃ U, U = u1.alloc (.cells #[.int .i64 4, .int .i64 0, .string ⟨#[112]⟩, .slice An' 1 cx, .slice Av 0 cv, .int .i64 ln, .int .i64 nx] 40) := ⟨_, rfl⟩
   have hbU : Below u1.heap.size u1 U := by rw [hU]; exact (Below.refl _ _).alloc (Nat.le_refl _) _
   have hz : U.heap[u1.heap.size]? = some (.cells #[.int .i64 4, .int .i64 0, .string ⟨#[112]⟩, .slice An' 1 cx, .slice Av 0 cv, .int .i64 ln, .int .i64 nx] 40 (0, 0)) := by rw [hU]; exact heap_alloc_new _ _
   obtain ⟨z0, z1, z2, z3, z4, z5, z6, zf⟩ := seven_at hz
   have HIU := Lib.hid (And.intro (HI1.out.1.later hbU) (HI1.out.2.later hbU))
   have HXU : Hid (TermS U (TyT U fun _ => True) ⟨4, 0, [112], An', 1, cx⟩ (.mk 4 0 [112] [intT ((q + 1 : Nat) : Int)])) := Lib.hid (HX1.out.keep (fun b hb => ⟨hb.keep (hbU.block b hb.lt), trivial⟩) fun b hb => hbU.block b hb.lt)
   clear hx hb1 HI HI1 HX1 hbU hz hln HRD z4 z5
   go_upto_region 8 with fail
   rw [← hU]
   clear hU
   go_wp2_with fail
   refine (Clause_any U (fun _ => True) ⟨4, 0, [112], An', 1, cx⟩ _ HXU.out (may_p1 (by simp [intT, Tm.may, Tm.mays, mayP])) (by simp [intT, Tm.size, Tm.sizes]) rfl (show ([112] : List UInt8) ≠ [58, 45] by decide)).mono ?_
   rintro e u2 ⟨y, z, rfl, hy, hz, hb2⟩
   have HY2 : Hid (TermS u2 (TyB u2 27) y (.mk 4 0 [112] [intT ((q + 1 : Nat) : Int)])) := Lib.hid (hy.keep (fun b hb => hb.1) fun b hb => rfl)
   obtain ⟨Ay, cy, by', oy, rfl, -⟩ := head_src HY2.out
   have HZ2 : Hid (TermS u2 (TyB u2 27) z trueT) := Lib.hid (hz.keep (fun b hb => hb.1) fun b hb => rfl)
   obtain ⟨kz, nz, sz, Az, lz, cz⟩ := z
   have HI2 := Lib.hid (And.intro (HIU.out.1.later hb2) (HIU.out.2.later hb2))
   clear hy hz hb2 HIU HXU z0 z1 z2 z3 z6 zf
   unfold tvV zeroV
   dsimp only
   obtain ⟨W, hW⟩ : ∃ W, W = ((u2.alloc (.cells #[.int .i64 4, .int .i64 0, .string ⟨#[112]⟩, .slice Ay 1 cy] 27)).alloc (.cells #[.int .i64 kz, .int .i64 nz, .string ⟨sz.toArray⟩, .slice Az lz cz] 27)).alloc (.cells #[.int .i64 0, .int .i64 0, .string ⟨#[]⟩, .slice none 0 0] 27) := ⟨_, rfl⟩
   have hbW : Below u2.heap.size u2 W := by rw [hW]; exact (((Below.refl _ _).alloc (Nat.le_refl _) _).alloc (by simp) _).alloc (by simp <;> omega) _
   have hy3 : W.heap[u2.heap.size]? = some (.cells #[.int .i64 4, .int .i64 0, .string ⟨#[112]⟩, .slice Ay 1 cy] 27 (0, 0)) := by
    rw [hW, Below.heap_alloc _ _ _ (by simp <;> omega), Below.heap_alloc _ _ _ (by simp)]
    exact heap_alloc_new _ _
   have hz3 : W.heap[u2.heap.size + 1]? = some (.cells #[.int .i64 kz, .int .i64 nz, .string ⟨sz.toArray⟩, .slice Az lz cz] 27 (0, 0)) := by
    rw [hW, Below.heap_alloc _ _ _ (by simp)]
    have := heap_alloc_new (u2.alloc (.cells #[.int .i64 4, .int .i64 0, .string ⟨#[112]⟩, .slice Ay 1 cy] 27)) (.cells #[.int .i64 kz, .int .i64 nz, .string ⟨sz.toArray⟩, .slice Az lz cz] 27)
    rwa [World.size_alloc] at this
   have HI3 := Lib.hid (And.intro (HI2.out.1.later hbW) (HI2.out.2.later hbW))
   have HY3 := Lib.hid (HY2.out.keep (w' := W) (S' := TyB W 27) (fun b hb => hb.keep (hbW.block b hb.lt)) fun b hb => hbW.block b hb.lt)
   have HZ3 := Lib.hid (HZ2.out.keep (w' := W) (S' := TyB W 27) (fun b hb => hb.keep (hbW.block b hb.lt)) fun b hb => hbW.block b hb.lt)
   obtain ⟨y0, y1, y2, y3, -⟩ := four_at hy3
   have HHY := Lib.hid (And.intro hy3 hz3)
   clear hbW HI2 HY2 HZ2 hy3 hz3
   go_upto_region 12 with fail
   rw [← hW]
   clear hW
   go_wp2_with fail
   refine (Known_p W).mono ?_
   rintro e w5 ⟨rfl, hb5⟩
   have HI5 := Lib.hid (And.intro (HI3.out.1.later hb5) (HI3.out.2.later hb5))
   have HY5 := Lib.hid (HY3.out.keep (w' := w5) (S' := TyB w5 27) (fun b hb => hb.keep (hb5.block b hb.lt)) fun b hb => hb5.block b hb.lt)
   have HZ5 := Lib.hid (HZ3.out.keep (w' := w5) (S' := TyB w5 27) (fun b hb => hb.keep (hb5.block b hb.lt)) fun b hb => hb5.block b hb.lt)
   have HH5 := Lib.hid (And.intro ((hb5.block _ (Array.getElem?_eq_some_iff.1 HHY.out.1).1).trans HHY.out.1) ((hb5.block _ (Array.getElem?_eq_some_iff.1 HHY.out.2).1).trans HHY.out.2))
   clear y0 y1 y2 y3 hb5 HI3 HY3 HZ3 HHY
   obtain ⟨y0, y1, y2, y3, -⟩ := four_at HH5.out.1
   obtain ⟨z0, z1, z2, z3, -⟩ := four_at HH5.out.2
   have HAD := Lib.hid (HI5.out.1.add (by omega) HI5.out.2 ⟨4, 0, [112], Ay, 1, cy⟩ ⟨kz, nz, sz, Az, lz, cz⟩ HY5.out HZ5.out)
   go_wp2_with fail
   refine HAD.out.mono ?_
   rintro e w6 ⟨rfl, hl6, hr6⟩
   have hwq : IntKind.i64.wrap ((q : Int) + 1) = (q : Int) + 1 := IntWalk.i64_in _ (by omega)
   have HI6 := Lib.hid (And.intro hl6 hr6)
   have hnx' : nx = ((5 * (q + 1) : Nat) : Int) := by rw [HNX.out]; omega
   have HNX' := Lib.hid hnx'
   clear y0 y1 y2 y3 z0 z1 z2 z3 HI5 HY5 HZ5 HH5 HAD hl6 hr6 HNX hnx' hq40
   go_wp2_with fail
   go_roundw
   case rel => exact ⟨q + 1, hlt, by rw [HNX'.out], rfl, HI6⟩
   case measure =>
    simp only [intOf]
    omega
  ·obtain rfl : q = N := by omega
   have HRE := Lib.hid (read_end wr An ts.length cn ts HTK.out ((5 * q : Nat) : Int) bt (opsOf []) (.inr (.inr (by rw [Int.toNat_natCast]; exact HN.out.fin))))
   have hre : readF (opsOf []) ts ((5 * q : Nat) : Int) = (⟨noTm, [], 0, 0⟩, 7) := by
    unfold readF
    rw [if_pos (.inr (.inr (by rw [Int.toNat_natCast]; exact HN.out.fin)))]
   rw [hre] at HRE
   clear HTK hre hlt
   go_wp2_with fail
   refine HRE.out.mono ?_
   rintro e u1 ⟨hb1, x, nv, B', rfl, hx, hnv⟩
   obtain ⟨Av, cv, rfl⟩ := hnv.shape
   obtain ⟨k1, n1, s1, A1, l1, c1⟩ := x
   have HI1 := Lib.hid (HI.out.1.later hb1)
   dsimp only [clV]
   obtain ⟨U, hU⟩ : ∃ U, U = u1.alloc (.cells #[.int .i64 k1, .int .i64 n1, .string ⟨s1.toArray⟩, .slice A1 l1 c1, .slice Av 0 cv, .int .i64 0, .int .i64 0] 40) := ⟨_, rfl⟩
   have HIU := Lib.hid (HI1.out.later (by rw [hU]; exact (Below.refl u1.heap.size u1).alloc (Nat.le_refl _) (.cells #[.int .i64 k1, .int .i64 n1, .string ⟨s1.toArray⟩, .slice A1 l1 c1, .slice Av 0 cv, .int .i64 0, .int .i64 0] 40) : Below u1.heap.size u1 U))
   clear hx hnv HI HI1 HRE hb1
   go_upto_region 8 with fail
   rw [← hU]
   clear hU
   go_wp2_with fail
   show P _ _
   rw [HP.out]
   exact ⟨db, mb, rfl, HIU.out⟩
open Go.RowKit Go.Maps Go.Lib Go.Sort
variable [Base]
set_option linter.unusedSectionVars false
structure EnvB (w : World) : Prop where
 env : RdEnv w
 kinds : 0 < Base.b
 space : 1 < Base.b
 max : 3 < Base.b
 le : Base.b ≤ w.heap.size
theorem EnvB.low {w w' : World} (h : EnvB w) (hb : Below Base.b w w') (hs : w.heap.size ≤ w'.heap.size) : EnvB w' := by
 obtain ⟨m, hm⟩ := h.env.max
 refine ⟨⟨⟨m, ?_⟩, h.env.kinds.keep (hb.block _ h.kinds), tabIs_keep h.env.tab (hb.block _ h.space)⟩, h.kinds, h.space, h.max, Nat.le_trans h.le hs⟩
 exact (World.cell?_of_block (a := ⟨3, 0, none⟩) (hb.block _ h.max)).trans hm
theorem EnvB.later {w w' : World} (h : EnvB w) (hb : Below w.heap.size w w') : EnvB w' := h.low (hb.mono h.le) hb.size
theorem EnvB.tf {tys : List TypeId} {w w' : World} (h : EnvB w) (hf : TF tys w w') : EnvB w' := h.low (hf.low h.le (Nat.le_refl _)) hf.size
omit [Base] in
theorem init_apart : Apart (opsInit.map defOf) ∧ opsInit.length ≤ 256 := by
 refine ⟨?_, by decide +kernel⟩
 unfold Apart
 decide +kernel
set_option maxHeartbeats 8000000 in
theorem answers_any (w : World) (hE : EnvB w) (T : List UInt8) (N : Nat) (hT : FixT T) (hN : LdTok (lexQ T).1 N) (x : TV) (A : Option Addr) (n c : Nat) (most : Int) (Q : Value → List UInt8 → World → Prop)
    (hQ : ∀ v over u u', Q v over u → Below u.heap.size u u' → Q v over u')
    (hRun : ∀ w0 W mb db dmb ob, Below w.heap.size w W → Base.b ≤ mb → MachAt W mb db ob 0 [] → LdS w0 db dmb N W → Calls Tryz.prog 19 #[.pointer (some ⟨mb, 0, none⟩), tvV x, .slice A n c, .int .i64 most] W fun e w' =>
      ∃ v spent over, e = .returned (.tuple #[v, .int .i64 0]) ∧ MachAt w' mb db ob spent over ∧ TF tyA W w' ∧ Q v over w') :
    Calls Tryz.prog 8 #[.string ⟨T.toArray⟩, tvV x, .slice A n c, .int .i64 most] w fun e w' => ∃ v over, e = .returned (.tuple #[v, .bool (over != [])]) ∧ Q v over w' ∧ TF tyA w w' := by
 obtain ⟨P, hP⟩ : ∃ P : Ending → World → Prop, P = fun e w' => ∃ v over, e = .returned (.tuple #[v, .bool (over != [])]) ∧ Q v over w' ∧ TF tyA w w' := ⟨_, rfl⟩
 rw [← hP]
 have HP := Lib.hid hP
 have HE := Lib.hid hE
 have HN := Lib.hid hN
 have HQ := Lib.hid hQ
 have HRUN := Lib.hid hRun
 have HT := Lib.hid hT
 obtain ⟨U, hU⟩ : ∃ U, U = w.alloc (.cells #[.int .i64 x.k, .int .i64 x.n, .string ⟨x.s.toArray⟩, .slice x.A x.len x.cap] 27) := ⟨_, rfl⟩
 have hbU : Below w.heap.size w U := by rw [hU]; exact (Below.refl _ _).alloc (Nat.le_refl _) _
 have hz : U.heap[w.heap.size]? = some (.cells #[.int .i64 x.k, .int .i64 x.n, .string ⟨x.s.toArray⟩, .slice x.A x.len x.cap] 27 (0, 0)) := by rw [hU]; exact heap_alloc_new _ _
 have HBU := Lib.hid hbU
 have HZ := Lib.hid hz
 clear hP hE hN hQ hRun hT hbU hz
 unfold tvV
 go_enter Tryz.func8, Tryz.ntmps8
 go_upto_region 1 with fail
 rw [← hU]
 clear hU
 have HE1 := Lib.hid (HE.out.later HBU.out)
 go_wp2_with fail
 refine (new_anyT U HE1.out.env.kinds HE1.out.env.tab).mono ?_
 rintro e w1 ⟨bt, bm, rfl, h1, -, -, -, hb1, h2⟩
 have HT1 := Lib.hid (And.intro h1 h2)
 have HE2 := Lib.hid (HE1.out.later hb1)
 have HB1 := Lib.hid (HBU.out.trans (hb1.mono HBU.out.size))
 have HZ1 := Lib.hid ((hb1.block _ (Array.getElem?_eq_some_iff.1 HZ.out).1).trans HZ.out)
 clear h1 h2 hb1 HE1 HBU HZ
 go_wp2_with fail
 refine (load_any w1 T N HT.out HE2.out.env HN.out).mono ?_
 rintro e w2 ⟨db, dmb, rfl, hl2⟩
 have hb2 : Below w1.heap.size w1 w2 := by
  obtain ⟨_, _, _, _, _, h, -⟩ := hl2
  exact h.below
 have HT2 := Lib.hid (And.intro (HT1.out.1.later hb2) (show TyB w2 74 bt from (show TyB w1 74 bt from HT1.out.2).keep (hb2.block _ HT1.out.1.lt)))
 have HE3 := Lib.hid (HE2.out.later hb2)
 have HB2 := Lib.hid (HB1.out.trans (hb2.mono HB1.out.size))
 have HZ2 := Lib.hid ((hb2.block _ (Array.getElem?_eq_some_iff.1 HZ1.out).1).trans HZ1.out)
 have HL2 := Lib.hid hl2
 clear hb2 hl2 HT1 HE2 HB1 HZ1
 go_wp2_with fail
 refine (NewM_any w2 db bt).mono ?_
 rintro e w3 ⟨mb, rfl, hmb, hM, hb3⟩
 have HT3 := Lib.hid (And.intro (HT2.out.1.later hb3) (HT2.out.2.keep (hb3.block _ HT2.out.1.lt)))
 have HB3 := Lib.hid (HB2.out.trans (hb3.mono HB2.out.size))
 have hz3 := (hb3.block _ (Array.getElem?_eq_some_iff.1 HZ2.out).1).trans HZ2.out
 obtain ⟨z0, z1, z2, z3, -⟩ := four_at hz3
 have HE4 := Lib.hid (HE3.out.later hb3)
 have HR := Lib.hid (HRUN.out w1 w3 mb db dmb bt HB3.out (Nat.le_trans HE3.out.le hmb) hM (HL2.out.later hb3))
 unfold tvV at HR
 clear hmb hM hb3 hz3 HT2 HB2 HZ2 HE3 HL2 HRUN
 go_wp2_with fail
 refine HR.out.mono ?_
 rintro e w4 ⟨v, spent, over, rfl, hM4, hf4, hq4⟩
 have HE5 := Lib.hid (HE4.out.tf hf4)
 have HT4 : Hid (TabAt w4 bt bm opsInit) := Lib.hid (HT3.out.1.keep (hf4.block HT3.out.2 (by decide)) (hf4.fr.block _ HT3.out.1.map.lt fun e => HT3.out.1.map.ne e.2.choose_spec.2 rfl))
 have HF4 := Lib.hid ((TF.of_below tyA HB3.out).trans hf4)
 have HM4 := Lib.hid (And.intro hM4 hq4)
 clear hM4 hq4 hf4 z0 z1 z2 z3 HR HT3 HB3 HE4
 go_wp2_with fail
 refine (new_any w4 HE5.out.env.kinds HE5.out.env.tab).mono ?_
 rintro e w5 ⟨bt2, bm2, rfl, h5, -, -, -, hb5⟩
 have HT5 := Lib.hid (And.intro h5 (HT4.out.later hb5))
 have HB5 := Lib.hid hb5
 clear h5 hb5 HT4 HE5
 go_wp2_with fail
 refine (oplist_any w5 bt2 bm2 opsInit HT5.out.1 (by have := init_apart.2; omega)).mono ?_
 rintro e w6 ⟨v1, l1, rfl, hs1, hp1, ho1, hb6⟩
 have HT6 := Lib.hid (HT5.out.2.later hb6)
 have HB6 := Lib.hid (HB5.out.trans (hb6.mono HB5.out.size))
 have HS1 := Lib.hid (And.intro hs1 (And.intro hp1 ho1))
 clear hs1 hp1 ho1 hb6 HT5 HB5
 go_wp2_with fail
 refine (oplist_any w6 bt bm opsInit HT6.out (by have := init_apart.2; omega)).mono ?_
 rintro e w7 ⟨v2, l2, rfl, hs2, hp2, ho2, hb7⟩
 obtain rfl : l1 = l2 := sorted_one (HS1.out.2.1.trans hp2.symm) HS1.out.2.2 ho2 (fun a ha b hb => init_apart.1 a (hp2.mem_iff.1 ha) b (hp2.mem_iff.1 hb))
 have HB7 := Lib.hid (HB6.out.trans (hb7.mono HB6.out.size))
 have hll : l1.length ≤ 256 := by
  have := hp2.length_eq
  rw [List.length_map] at this
  have := init_apart.2
  omega
 have HS7 := Lib.hid (And.intro (HS1.out.1.below hb7 |>.up hb7.size) hs2)
 clear hs2 hp2 ho2 hb7 HT6 HB6 HS1
 obtain ⟨A1, cap1, rfl, hA1⟩ := HS7.out.1.shape
 obtain ⟨A2, cap2, rfl, hA2⟩ := HS7.out.2.shape
 have HA1 := Lib.hid hA1
 have HA2 := Lib.hid hA2
 clear hA1 hA2 HS7
 have HM7 := Lib.hid (HM4.out.1.later HB7.out)
 have HQ7 : Hid (Q v over w7 ∧ TF tyA w w7) := Lib.hid ⟨HQ.out v over w4 w7 HM4.out.2 HB7.out, HF4.out.later HB7.out⟩
 clear HM4 HF4 HB7
 go_wp2_with fail
 go_loopw [17, 18] (fun ch i wr => ∃ k nq : Nat, k ≤ l1.length ∧ ch = .bool false ∧ i = .int .i64 k ∧ wr = w7.drewN nq) (fun _ i _ => l1.length - (intOf i).toNat)
 case atStart => exact ⟨0, 0, Nat.zero_le _, rfl, rfl, rfl⟩
 case round =>
  obtain ⟨k, nq, hk, rfl, rfl, rfl⟩ := hrel
  by_cases hlt : k < l1.length
  ·have hne : l1 ≠ [] := by rintro rfl; simp at hlt
   obtain ⟨b1, o1, e1, hb1, hc1⟩ := HA1.out hne
   obtain ⟨b2, o2, e2, hb2, hc2⟩ := HA2.out hne
   have hx := List.getElem?_eq_getElem hlt
   generalize l1[k] = x at hx
   have c0 := hc1 k x hx 0 _ rfl
   have c1 := hc1 k x hx 1 _ rfl
   have c2 := hc1 k x hx 2 _ rfl
   have d0 := hc2 k x hx 0 _ rfl
   have d1 := hc2 k x hx 1 _ rfl
   have d2 := hc2 k x hx 2 _ rfl
   simp only [Nat.add_zero] at c0 d0
   have hlt' : (k : Int) < (l1.length : Int) := by omega
   clear hc1 hc2 hx
   subst e1 e2
   go_wp2_with fail
   go_quiet (fail)
   go_wp2
   go_roundw
   case rel => exact ⟨k + 1, _, hlt, rfl, by go_num, rfl⟩
   case measure => simp [intOf]; omega
  ·obtain rfl : k = l1.length := by omega
   have hng : ¬ (l1.length : Int) < (l1.length : Int) := by omega
   have HMD : Hid (MachAt (w7.drewN nq) mb db bt spent over) := HM7
   have HQD : Hid (Q v over (w7.drewN nq) ∧ TF tyA w (w7.drewN nq)) := Lib.hid ⟨HQ.out v over w7 _ HQ7.out.1 ⟨rfl, rfl, rfl, Nat.le_refl _, fun _ _ => rfl⟩, HQ7.out.2.later ⟨rfl, rfl, rfl, Nat.le_refl _, fun _ _ => rfl⟩⟩
   clear HM7 HQ7 hlt
   go_wp2_with fail
   refine (Over_any _ mb db bt spent over HMD.out).mono ?_
   rintro e w9 ⟨rfl, rfl⟩
   go_wp2_with fail
   ·rename_i hov
    show P (.returned (.tuple #[v, .bool false])) _
    rw [HP.out]
    exact ⟨v, over, by rw [hov]; rfl, HQD.out⟩
   ·rename_i hov
    show P (.returned (.tuple #[v, .bool true])) _
    rw [HP.out]
    exact ⟨v, over, by rw [show (over != []) = true by simpa using hov], HQD.out⟩
end Go.Proofs.YtjdnigepnfeboaaGreatDoor
namespace Go.Proofs.YtjdnigepnfeboaaGreatDoor
open Go.RowKit Go.Maps
set_option maxRecDepth 100000
variable [Base]
set_option linter.unusedSectionVars false
def ClQ (s : List UInt8) (x y : Tm) (v : Value) (over : List UInt8) (w : World) : Prop :=
 ∃ (B : Nat) (l : List (Int × List UInt8)), Row w B 45 2 encV v l ∧ l.length ≤ 100000 ∧ (over ≠ [] ∨ ∃ ok, EqLaw s x y ok ∧ l = [endE ok])
theorem goal_run (W : World) (mb db ob : Nat) (G : TV) (s : List UInt8) (x y : Tm) (hB : Base.b ≤ mb) (hM : MachAt W mb db ob 0 []) (hG : TermS W (TyB W 27) G (goal2 s x y)) (hm : (goal2 s x y).may = true) (h6 : ∀ n ∈ vrT (goal2 s x y), ok6 n) (hsz : x.size ≤ 900 ∧ y.size ≤ 900) (h4 : s = [61] ∨ s = [92, 61] ∨ s = [61, 61] ∨ s = ucB) :
    Calls Tryz.prog 19 #[.pointer (some ⟨mb, 0, none⟩), tvV G, .slice none 0 0, .int .i64 1] W fun e w' => ∃ v spent over, e = .returned (.tuple #[v, .int .i64 0]) ∧ MachAt w' mb db ob spent over ∧ TF tyA W w' ∧ ClQ s x y v over w' := by
 refine (Run_any W mb db ob G (goal2 s x y) none 0 [] 1 (fun v w' => HoldW W mb db ob s x y v w') hM hG hm ?_ ?_ (by simp) (by decide) hB ?_).mono ?_
 ·simp only [Tm.size, Tm.sizes]
  omega
 ·intro q x hq
  simp at hq
 ·intro W' rb r hb hrb hvb hN
  exact hold_all W W' rb mb db ob r s x y G hN hb hvb (hG.keep (fun b hb' => hb'.keep (hb.block b hb'.lt)) fun b hb' => hb.block b hb'.lt) hm h6 hsz h4
 ·rintro e w' ⟨v, rfl, B, l, spent, over, h1, h2, h3, h4, h5⟩
  exact ⟨v, spent, over, rfl, h3, h4, B, l, h1, h2, h5⟩
set_option maxHeartbeats 4000000 in
theorem goal_any (w : World) (hE : EnvB w) (s : List UInt8) (X Y : TV) (x y : Tm) (hX : TermS w (TyB w 27) X x) (hY : TermS w (TyB w 27) Y y) (hm : (goal2 s x y).may = true) (h6 : ∀ n ∈ vrT (goal2 s x y), ok6 n) (hsz : x.size ≤ 900 ∧ y.size ≤ 900) (h4 : s = [61] ∨ s = [92, 61] ∨ s = [61, 61] ∨ s = ucB) :
    Calls Tryz.prog 7 #[.string ⟨s.toArray⟩, tvV X, tvV Y] w fun e w' => ∃ ok lim, e = .returned (.tuple #[.bool ok, .bool lim]) ∧ (lim = true ∨ EqLaw s x y ok) ∧ TF tyA w w' := by
 obtain ⟨P, hP⟩ : ∃ P : Ending → World → Prop, P = fun e w' => ∃ ok lim, e = .returned (.tuple #[.bool ok, .bool lim]) ∧ (lim = true ∨ EqLaw s x y ok) ∧ TF tyA w w' := ⟨_, rfl⟩
 rw [← hP]
 have HP := Lib.hid hP
 have HE := Lib.hid hE
 have HH := Lib.hid (And.intro hm (And.intro h6 (And.intro hsz h4)))
 have hs4 : s.length ≤ maxLen := (kind4 h4).2
 have HS4 := Lib.hid hs4
 obtain ⟨U, hU⟩ : ∃ U, U = (w.alloc (.cells #[.int .i64 X.k, .int .i64 X.n, .string ⟨X.s.toArray⟩, .slice X.A X.len X.cap] 27)).alloc (.cells #[.int .i64 Y.k, .int .i64 Y.n, .string ⟨Y.s.toArray⟩, .slice Y.A Y.len Y.cap] 27) := ⟨_, rfl⟩
 have hbU : Below w.heap.size w U := by rw [hU]; exact ((Below.refl _ _).alloc (Nat.le_refl _) _).alloc (by simp) _
 have hzx : U.heap[w.heap.size]? = some (.cells #[.int .i64 X.k, .int .i64 X.n, .string ⟨X.s.toArray⟩, .slice X.A X.len X.cap] 27 (0, 0)) := by
  rw [hU, Below.heap_alloc _ _ _ (by simp)]
  exact heap_alloc_new _ _
 have hzy : U.heap[w.heap.size + 1]? = some (.cells #[.int .i64 Y.k, .int .i64 Y.n, .string ⟨Y.s.toArray⟩, .slice Y.A Y.len Y.cap] 27 (0, 0)) := by
  have := heap_alloc_new (w.alloc (.cells #[.int .i64 X.k, .int .i64 X.n, .string ⟨X.s.toArray⟩, .slice X.A X.len X.cap] 27)) (.cells #[.int .i64 Y.k, .int .i64 Y.n, .string ⟨Y.s.toArray⟩, .slice Y.A Y.len Y.cap] 27)
  rw [World.size_alloc] at this
  rw [hU]
  exact this
 obtain ⟨x0, x1, x2, x3, -⟩ := four_at hzx
 obtain ⟨y0, y1, y2, y3, -⟩ := four_at hzy
 obtain ⟨V, hV⟩ : ∃ V, V = U.alloc (.cells #[.int .i64 X.k, .int .i64 X.n, .string ⟨X.s.toArray⟩, .slice X.A X.len X.cap, .int .i64 Y.k, .int .i64 Y.n, .string ⟨Y.s.toArray⟩, .slice Y.A Y.len Y.cap] 27) := ⟨_, rfl⟩
 have hbV : Below U.heap.size U V := by rw [hV]; exact (Below.refl _ _).alloc (Nat.le_refl _) _
 have hzv : V.heap[U.heap.size]? = some (.cells #[.int .i64 X.k, .int .i64 X.n, .string ⟨X.s.toArray⟩, .slice X.A X.len X.cap, .int .i64 Y.k, .int .i64 Y.n, .string ⟨Y.s.toArray⟩, .slice Y.A Y.len Y.cap] 27 (0, 0)) := by rw [hV]; exact heap_alloc_new _ _
 have HB := Lib.hid (hbU.trans (hbV.mono hbU.size))
 have HVL := Lib.hid hzv
 have HX := Lib.hid (hX.keep (w' := V) (S' := TyB V 27) (fun b hb => hb.keep (HB.out.block b hb.lt)) fun b hb => HB.out.block b hb.lt)
 have HY := Lib.hid (hY.keep (w' := V) (S' := TyB V 27) (fun b hb => hb.keep (HB.out.block b hb.lt)) fun b hb => HB.out.block b hb.lt)
 clear hP hE hX hY hm h6 hsz h4 hs4 hbU hzx hzy hbV hzv
 unfold tvV
 go_enter Tryz.func7, Tryz.ntmps7
 go_upto_region 1 with fail
 rw [← hU]
 clear hU
 go_wp2_with fail
 rw [← hV]
 refine (f_any V s (some ⟨U.heap.size, 0, none⟩) 2 2).mono ?_
 rintro e w2 ⟨rfl, hb2⟩
 have HG : Hid (TermS w2 (TyB w2 27) ⟨4, 0, s, some ⟨U.heap.size, 0, none⟩, 2, 2⟩ (goal2 s x y)) := Lib.hid (by
  have h1 := TermsS.block (w := V) (S := TyB V 27) (xs := [X, Y]) (((TermsS.nil V _).snoc HX.out).snoc HY.out) (g := U.heap.size) HVL.out ⟨_, HVL.out⟩ s HS4.out 4 0 2
  exact h1.keep (fun b hb => hb.keep (hb2.block b hb.lt)) fun b hb => hb2.block b hb.lt)
 have HE2 := Lib.hid (HE.out.later (HB.out.trans (hb2.mono HB.out.size)))
 have HB2 := Lib.hid (HB.out.trans (hb2.mono HB.out.size))
 have HAN := Lib.hid (answers_any w2 HE2.out [] 0 (.inl rfl) (by rw [none_lex]; exact ld_none) ⟨4, 0, s, some ⟨U.heap.size, 0, none⟩, 2, 2⟩ none 0 0 1 (ClQ s x y)
  (fun v over u u' ⟨B, l, h1, h2, h3⟩ hb => ⟨B, l, h1.later hb, h2, h3⟩)
  (fun w0 W mb db dmb ob hb hB hM _ => goal_run W mb db ob _ s x y hB hM (HG.out.keep (fun b hb' => hb'.keep (hb.block b hb'.lt)) fun b hb' => hb.block b hb'.lt) HH.out.1 HH.out.2.1 HH.out.2.2.1 HH.out.2.2.2))
 clear hb2 hV HX HY HVL HB HE HG HE2 HS4 x0 x1 x2 x3 y0 y1 y2 y3
 unfold tvV at HAN ⊢
 dsimp only at HAN ⊢
 go_wp2_with fail
 refine HAN.out.mono ?_
 rintro e w3 ⟨v, over, rfl, ⟨B, l, h1, h2, h3⟩, hf⟩
 obtain ⟨lim, hlim⟩ : ∃ lim, lim = (over != []) := ⟨_, rfl⟩
 rw [← hlim]
 have HR := Lib.hid (And.intro h1 h2)
 have H3 : Hid (lim = true ∨ ∃ ok, EqLaw s x y ok ∧ l = [endE ok]) := Lib.hid (h3.imp_left fun h => by rw [hlim]; simpa using h)
 have HF := Lib.hid ((TF.of_below tyA HB2.out).trans hf)
 clear h1 h2 h3 hf hlim HAN HB2
 go_wp2_with fail
 refine (only_any w3 B v l 1 HR.out.1 HR.out.2).mono ?_
 rintro e w4 ⟨Ao, co, rfl, hb4⟩
 obtain ⟨no, hno⟩ : ∃ no, no = (l.filter (fun y => decide (y.1 = 1))).length := ⟨_, rfl⟩
 rw [← hno]
 have HNO := Lib.hid hno
 have HB4 := Lib.hid hb4
 clear hno hb4
 obtain ⟨ok, hok⟩ : ∃ ok, ok = ((no : Int) == 1) := ⟨_, rfl⟩
 have HOK := Lib.hid hok
 have hok' := hok.symm
 clear hok
 go_wp2_with fail
 show P (.returned (.tuple #[.bool ok, .bool lim])) _
 rw [HP.out]
 refine ⟨ok, lim, rfl, H3.out.imp_right ?_, HF.out.later HB4.out⟩
 rintro ⟨ok', h1, h2⟩
 have e1 : ok = ok' := by
  rw [HOK.out, HNO.out, h2]
  cases ok' <;> rfl
 rw [e1]
 exact h1
end Go.Proofs.YtjdnigepnfeboaaGreatDoor
namespace Go.Proofs.YtjdnigepnfeboaaGreatDoor
open Go.RowKit Go.Maps
set_option maxRecDepth 100000
variable [Base]
set_option linter.unusedSectionVars false
structure TqAt (w : World) (b5 b6 : Nat) (X Y : TV) (x y : Tm) (u : World) : Prop where
 env : EnvB u
 hx : TermS u (TyB u 27) X x
 hy : TermS u (TyB u 27) Y y
 bx : u.heap[b5]? = some (.cells #[.int .i64 X.k, .int .i64 X.n, .string ⟨X.s.toArray⟩, .slice X.A X.len X.cap] 27 (0, 0))
 by' : u.heap[b6]? = some (.cells #[.int .i64 Y.k, .int .i64 Y.n, .string ⟨Y.s.toArray⟩, .slice Y.A Y.len Y.cap] 27 (0, 0))
 low : Below Base.b w u
theorem TqAt.tf {w u u' : World} {b5 b6 : Nat} {X Y : TV} {x y : Tm} (h : TqAt w b5 b6 X Y x y u) (hf : TF tyA u u') : TqAt w b5 b6 X Y x y u' :=
 ⟨h.env.tf hf, hf.term h.hx (fun _ h => h) (fun _ _ h => h) (by decide), hf.term h.hy (fun _ h => h) (fun _ _ h => h) (by decide),
  (hf.block ⟨_, h.bx⟩ (by decide)).trans h.bx, (hf.block ⟨_, h.by'⟩ (by decide)).trans h.by', h.low.trans (hf.low h.env.le (Nat.le_refl _))⟩
theorem TqAt.run {w u : World} {b5 b6 : Nat} {X Y : TV} {x y : Tm} (h : TqAt w b5 b6 X Y x y u) (s : List UInt8) (hm : x.may = true ∧ y.may = true) (h6 : (∀ n ∈ vrT x, ok6 n) ∧ ∀ n ∈ vrT y, ok6 n) (hsz : x.size ≤ 900 ∧ y.size ≤ 900) (h4 : s = [61] ∨ s = [92, 61] ∨ s = [61, 61] ∨ s = ucB) :
    Calls Tryz.prog 7 #[.string ⟨s.toArray⟩, tvV X, tvV Y] u fun e u' => ∃ ok lim, e = .returned (.tuple #[.bool ok, .bool lim]) ∧ (lim = true ∨ EqLaw s x y ok) ∧ TqAt w b5 b6 X Y x y u' := by
 refine (goal_any u h.env s X Y x y h.hx h.hy ?_ ?_ hsz h4).mono fun e u' ⟨ok, lim, h1, h2, h3⟩ => ⟨ok, lim, h1, h2, h.tf h3⟩
 ·have hp : mayP 4 0 s 2 = true := by rcases h4 with rfl | rfl | rfl | rfl <;> decide
  simp [Tm.may, Tm.mays, hm.1, hm.2, hp]
 ·intro n hn
  rw [goal2, vrT, if_neg (by decide), List.nil_append, vrL, vrL, vrL, List.append_nil, List.mem_append] at hn
  exact hn.elim (h6.1 n) (h6.2 n)
set_option maxHeartbeats 16000000 in
theorem top_law (w : World) (hE : EnvB w) (A0 : Option Addr) (n0 c0 : Nat) (hp0 : PartsIn w A0 n0 c0) (A1 : Option Addr) (n1 c1 : Nat) (hp1 : PartsIn w A1 n1 c1) (hBw : Base.b = w.heap.size)
    (hAw : Calls Tryz.prog 4 #[] w fun e u => e = .returned (.bool true) ∧ Below w.heap.size w u) :
    Calls Tryz.prog 3 #[.slice A0 n0 c0, .slice A1 n1 c1] w fun e w' => e = .returned (.bool true) ∧ Below w.heap.size w w' := by
 obtain ⟨P, hP⟩ : ∃ P : Ending → World → Prop, P = fun e w' => e = .returned (.bool true) ∧ Below w.heap.size w w' := ⟨_, rfl⟩
 rw [← hP]
 have HP := Lib.hid hP
 have HAW := Lib.hid hAw
 have HPP := Lib.hid (And.intro hp0 hp1)
 have HE := Lib.hid (And.intro hE hBw)
 clear hP hAw hp0 hp1 hE hBw
 have HOK : Hid (∀ u, Below w.heap.size w u → P (.returned (.bool true)) u) := Lib.hid fun u hb => by rw [HP.out]; exact ⟨rfl, hb⟩
 clear HP
 by_cases hbig : 60 < n0 ∨ 60 < n1
 ·have hd : decide (60 < n0) = true ∨ (decide (60 < n0) = false ∧ decide (60 < n1) = true) := by simp; omega
  clear hbig
  go_enter Tryz.func3, Tryz.ntmps3
  go_wp2_with fail
  refine HAW.out.mono ?_
  rintro e w1 ⟨rfl, hb1⟩
  have HB1 := Lib.hid hb1
  clear hb1 HAW
  go_wp2_with fail
  refine (great_any w1 A0 n0 c0).mono ?_
  rintro e w2 ⟨rfl, rfl⟩
  rcases hd with hd | ⟨hd, h2⟩
  ·rw [hd]
   go_wp2_with fail
   exact HOK.out _ HB1.out
  ·rw [hd]
   go_wp2_with fail
   refine (great_any _ A1 n1 c1).mono ?_
   rintro e w3 ⟨rfl, rfl⟩
   rw [h2]
   go_wp2_with fail
   exact HOK.out _ HB1.out
 have hd0 : decide (60 < n0) = false := by simp; omega
 have hd1 : decide (60 < n1) = false := by simp; omega
 obtain ⟨l0, hl0, hc0, hpl0, hnl0⟩ := HPP.out.1 (by omega)
 obtain ⟨l1, hl1, hc1, hpl1, hnl1⟩ := HPP.out.2 (by omega)
 subst hl0 hl1
 obtain ⟨m0, s0, v0⟩ := good_run hnl0 (by omega)
 obtain ⟨m1, s1, v1⟩ := good_run hnl1 (by omega)
 have HG := Lib.hid (And.intro (And.intro m0 m1) (And.intro (And.intro v0 v1) (show (goodT l0).size ≤ 900 ∧ (goodT l1).size ≤ 900 from ⟨by omega, by omega⟩)))
 have HPL := Lib.hid (And.intro (And.intro hpl0 hc0) (And.intro hpl1 hc1))
 have HLL := Lib.hid (show l0.length ≤ 60 ∧ l1.length ≤ 60 from ⟨by omega, by omega⟩)
 clear hpl0 hc0 hpl1 hc1 hnl0 hnl1 m0 m1 s0 s1 v0 v1 hbig HPP
 go_enter Tryz.func3, Tryz.ntmps3
 go_wp2_with fail
 refine HAW.out.mono ?_
 rintro e w1 ⟨rfl, hb1⟩
 have HB1 := Lib.hid hb1
 clear hb1 HAW
 go_wp2_with fail
 refine (great_any w1 A0 l0.length c0).mono ?_
 rintro e w2 ⟨rfl, rfl⟩
 rw [hd0]
 go_wp2_with fail
 refine (great_any _ A1 l1.length c1).mono ?_
 rintro e w3 ⟨rfl, rfl⟩
 rw [hd1]
 clear hd0 hd1
 go_wp2_with fail
 refine (good_any l0 _ A0 c0 HPL.out.1.2 (HPL.out.1.1.later HB1.out) (by have := HLL.out; omega)).mono ?_
 rintro e w4 ⟨X, rfl, hX, hb4⟩
 have HX4 := Lib.hid hX
 have HB4 := Lib.hid (HB1.out.trans (hb4.mono HB1.out.size))
 clear hX hb4 HB1
 unfold tvV
 go_wp2_with fail
 refine (good_any l1 _ A1 c1 HPL.out.2.2 (HPL.out.2.1.later HB4.out) (by have := HLL.out; omega)).mono ?_
 rintro e w5 ⟨Y, rfl, hY, hb5⟩
 unfold tvV
 obtain ⟨b5, hb5e⟩ : ∃ b, b = w5.heap.size := ⟨_, rfl⟩
 obtain ⟨W, hW⟩ : ∃ W, W = (w5.alloc (.cells #[.int .i64 X.k, .int .i64 X.n, .string ⟨X.s.toArray⟩, .slice X.A X.len X.cap] 27)).alloc (.cells #[.int .i64 Y.k, .int .i64 Y.n, .string ⟨Y.s.toArray⟩, .slice Y.A Y.len Y.cap] 27) := ⟨_, rfl⟩
 have hbW : Below w5.heap.size w5 W := by rw [hW]; exact ((Below.refl _ _).alloc (Nat.le_refl _) _).alloc (by simp) _
 have hbA := HB4.out.trans ((hb5.trans (hbW.mono hb5.size)).mono HB4.out.size)
 have hT : TqAt w b5 (b5 + 1) X Y (goodT l0) (goodT l1) W := by
  have hXW := (HX4.out.keep (w' := w5) (S' := TyB w5 27) (fun b hb => hb.2.keep (hb5.block b hb.2.lt)) fun b hb => hb5.block b hb.2.lt)
  refine ⟨HE.out.1.later hbA, hXW.keep (fun b hb => hb.keep (hbW.block b hb.lt)) fun b hb => hbW.block b hb.lt, hY.keep (fun b hb => hb.2.keep (hbW.block b hb.2.lt)) fun b hb => hbW.block b hb.2.lt, ?_, ?_, by rw [HE.out.2]; exact hbA⟩
  ·rw [hW, hb5e, Below.heap_alloc _ _ _ (by simp)]
   exact heap_alloc_new _ _
  ·have := heap_alloc_new (w5.alloc (.cells #[.int .i64 X.k, .int .i64 X.n, .string ⟨X.s.toArray⟩, .slice X.A X.len X.cap] 27)) (.cells #[.int .i64 Y.k, .int .i64 Y.n, .string ⟨Y.s.toArray⟩, .slice Y.A Y.len Y.cap] 27)
   rw [World.size_alloc] at this
   rw [hW, hb5e]
   exact this
 have HT := Lib.hid hT
 clear hY hb5 hbW hbA hT HX4 HB4 HPL HLL
 go_upto_region 6 with fail
 rw [← hW, ← hb5e]
 clear hW hb5e
 have HR : Hid (∀ u s, TqAt w b5 (b5 + 1) X Y (goodT l0) (goodT l1) u → (s = [61] ∨ s = [92, 61] ∨ s = [61, 61] ∨ s = ucB) → Calls Tryz.prog 7 #[.string ⟨s.toArray⟩, .agg #[.int .i64 X.k, .int .i64 X.n, .string ⟨X.s.toArray⟩, .slice X.A X.len X.cap], .agg #[.int .i64 Y.k, .int .i64 Y.n, .string ⟨Y.s.toArray⟩, .slice Y.A Y.len Y.cap]] u fun e u' => ∃ ok lim, e = .returned (.tuple #[.bool ok, .bool lim]) ∧ (lim = true ∨ EqLaw s (goodT l0) (goodT l1) ok) ∧ TqAt w b5 (b5 + 1) X Y (goodT l0) (goodT l1) u') := Lib.hid fun u s h h4 => h.run s HG.out.1 HG.out.2.1 HG.out.2.2 h4
 have HRB : Hid (∀ u, TqAt w b5 (b5 + 1) X Y (goodT l0) (goodT l1) u → Calls Tryz.prog 7 #[.string ⟨#[61]⟩, .agg #[.int .i64 Y.k, .int .i64 Y.n, .string ⟨Y.s.toArray⟩, .slice Y.A Y.len Y.cap], .agg #[.int .i64 X.k, .int .i64 X.n, .string ⟨X.s.toArray⟩, .slice X.A X.len X.cap]] u fun e u' => ∃ ok lim, e = .returned (.tuple #[.bool ok, .bool lim]) ∧ (lim = true ∨ EqLaw [61] (goodT l1) (goodT l0) ok) ∧ TqAt w b5 (b5 + 1) X Y (goodT l0) (goodT l1) u') := Lib.hid fun u h => by
  have h' : TqAt w (b5 + 1) b5 Y X (goodT l1) (goodT l0) u := ⟨h.env, h.hy, h.hx, h.by', h.bx, h.low⟩
  refine (h'.run [61] ⟨HG.out.1.2, HG.out.1.1⟩ ⟨HG.out.2.1.2, HG.out.2.1.1⟩ ⟨HG.out.2.2.2, HG.out.2.2.1⟩ (.inl rfl)).mono ?_
  rintro e u' ⟨ok, lim, h1, h2, h3⟩
  exact ⟨ok, lim, h1, h2, ⟨h3.env, h3.hy, h3.hx, h3.by', h3.bx, h3.low⟩⟩
 obtain ⟨x0, x1, x2, x3, -⟩ := four_at HT.out.bx
 obtain ⟨y0, y1, y2, y3, -⟩ := four_at HT.out.by'
 have HC1 := Lib.hid (HR.out W [61] HT.out (.inl rfl))
 go_wp2_with fail
 refine HC1.out.mono ?_
 rintro e u1 ⟨ok1, lim1, rfl, hl1, ht1⟩
 have HL1 := Lib.hid hl1
 have HT1 := Lib.hid ht1
 clear hl1 ht1 HT HC1 x0 x1 x2 x3 y0 y1 y2 y3
 obtain ⟨x0, x1, x2, x3, -⟩ := four_at HT1.out.bx
 obtain ⟨y0, y1, y2, y3, -⟩ := four_at HT1.out.by'
 have HC2 := Lib.hid (HRB.out u1 HT1.out)
 go_wp2_with fail
 refine HC2.out.mono ?_
 rintro e u2 ⟨ok2, lim2, rfl, hl2, ht2⟩
 have HL2 := Lib.hid hl2
 have HT2 := Lib.hid ht2
 clear hl2 ht2 HT1 HC2 HRB x0 x1 x2 x3 y0 y1 y2 y3
 obtain ⟨x0, x1, x2, x3, -⟩ := four_at HT2.out.bx
 obtain ⟨y0, y1, y2, y3, -⟩ := four_at HT2.out.by'
 have HC3 := Lib.hid (HR.out u2 [92, 61] HT2.out (.inr (.inl rfl)))
 go_wp2_with fail
 refine HC3.out.mono ?_
 rintro e u3 ⟨ok3, lim3, rfl, hl3, ht3⟩
 have HL3 := Lib.hid hl3
 have HT3 := Lib.hid ht3
 clear hl3 ht3 HT2 HC3 x0 x1 x2 x3 y0 y1 y2 y3
 obtain ⟨x0, x1, x2, x3, -⟩ := four_at HT3.out.bx
 obtain ⟨y0, y1, y2, y3, -⟩ := four_at HT3.out.by'
 have HC4 := Lib.hid (HR.out u3 [61, 61] HT3.out (.inr (.inr (.inl rfl))))
 go_wp2_with fail
 refine HC4.out.mono ?_
 rintro e u4 ⟨ok4, lim4, rfl, hl4, ht4⟩
 have HL4 := Lib.hid hl4
 have HT4 := Lib.hid ht4
 clear hl4 ht4 HT3 HC4 x0 x1 x2 x3 y0 y1 y2 y3
 obtain ⟨x0, x1, x2, x3, -⟩ := four_at HT4.out.bx
 obtain ⟨y0, y1, y2, y3, -⟩ := four_at HT4.out.by'
 have HC5 := Lib.hid (HR.out u4 ucB HT4.out (.inr (.inr (.inr rfl))))
 unfold ucB at HC5
 go_wp2_with fail
 refine HC5.out.mono ?_
 rintro e u5 ⟨ok5, lim5, rfl, hl5, ht5⟩
 have HL5 := Lib.hid hl5
 have HT5 := Lib.hid ht5
 clear hl5 ht5 HT4 HC5 HR x0 x1 x2 x3 y0 y1 y2 y3
 have HLOW := Lib.hid (show Below w.heap.size w u5 by rw [← HE.out.2]; exact HT5.out.low)
 obtain ⟨x0, x1, x2, x3, -⟩ := four_at HT5.out.bx
 obtain ⟨y0, y1, y2, y3, -⟩ := four_at HT5.out.by'
 have HSM := Lib.hid (same_any (goodT l0).size (goodT l0) (goodT l1) X Y u5 (Nat.le_refl _) (by have := HG.out.2.2; omega) (by have := HG.out.2.2; omega) (HT5.out.hx.at fun b hb => hb.lt) (HT5.out.hy.at fun b hb => hb.lt))
 unfold tvV at HSM
 clear HT5 HE
 go_upto_region 12 with fail
 cases lim1 with
 | true =>
  go_wp2_with fail
  exact HOK.out _ HLOW.out
 | false =>
 cases lim2 with
 | true =>
  go_wp2_with fail
  exact HOK.out _ HLOW.out
 | false =>
 cases lim3 with
 | true =>
  go_wp2_with fail
  exact HOK.out _ HLOW.out
 | false =>
 cases lim4 with
 | true =>
  go_wp2_with fail
  exact HOK.out _ HLOW.out
 | false =>
 cases lim5 with
 | true =>
  go_wp2_with fail
  exact HOK.out _ HLOW.out
 | false =>
 obtain ⟨q1, q2, q3, q4, q5⟩ := equals_last (s := ucB) (by decide) (HL1.out.resolve_left (by decide)) (HL2.out.resolve_left (by decide)) (HL3.out.resolve_left (by decide)) (HL4.out.resolve_left (by decide)) (HL5.out.resolve_left (by decide))
 have hs : sameTm (goodT l0) (goodT l1) = ok4 := by rw [Bool.eq_iff_iff, sameTm_iff]; exact q5.symm
 rw [hs] at HSM
 subst q1 q2
 clear hs q5 HL1 HL2 HL3 HL4 HL5 HG
 cases ok1 <;> cases ok4 <;> cases ok5
 all_goals first
  | exact absurd (q3 rfl) (by decide)
  | exact absurd (q4 rfl) (by decide)
  | (clear q3 q4
     go_wp2_with fail
     refine HSM.out.mono ?_
     rintro e u6 ⟨rfl, hb6⟩
     go_wp2_with fail
     exact HOK.out _ (HLOW.out.trans (hb6.mono HLOW.out.size)))
end Go.Proofs.YtjdnigepnfeboaaGreatDoor
namespace Go.Proofs.YtjdnigepnfeboaaGreatDoor
open Go.RowKit Go.Maps
set_option maxRecDepth 100000
def askG : Tm := .mk 4 0 [112] [varT 0]
theorem ask_cells {W : World} {cb : Nat} {x0 x1 x2 x3 x4 x5 x6 : Value} (hC : W.heap[cb]? = some (.cells #[x0, x1, x2, x3, x4, x5, x6] 40 (0, 0))) (a0 a1 a2 a3 a4 a5 a6 : Value) :
    (((((((W.setCell ⟨cb, 0, none⟩ a0).setCell ⟨cb, 1, none⟩ a1).setCell ⟨cb, 2, none⟩ a2).setCell ⟨cb, 3, none⟩ a3).setCell ⟨cb, 4, none⟩ a4).setCell ⟨cb, 5, none⟩ a5).setCell ⟨cb, 6, none⟩ a6).heap[cb]? = some (.cells #[a0, a1, a2, a3, a4, a5, a6] 40 (0, 0)) := blk_set7 hC _ _ _ _ _ _ _
set_option maxHeartbeats 8000000 in
theorem parse_ask (w : World) (hE : RdEnv w) :
    Calls Tryz.prog 12 #[.string ⟨#[112, 40, 88, 41]⟩] w fun e w' => ∃ x nv B line next, e = .returned (.tuple #[clV x nv line next, .bool true]) ∧ TermS w' (TyB w' 27) x askG ∧ Row w' B 99 2 encB nv [([88], 0)] ∧ Below w.heap.size w w' := by
 obtain ⟨P, hP⟩ : ∃ P : Ending → World → Prop, P = fun e w' => ∃ x nv B line next, e = .returned (.tuple #[clV x nv line next, .bool true]) ∧ TermS w' (TyB w' 27) x askG ∧ Row w' B 99 2 encB nv [([88], 0)] ∧ Below w.heap.size w w' := ⟨_, rfl⟩
 rw [← hP]
 have HP := Lib.hid hP
 obtain ⟨U0, hU0⟩ : ∃ U, U = w.alloc (.cells #[.int .i64 0, .int .i64 0, .string ⟨#[]⟩, .slice none 0 0, .slice none 0 0, .int .i64 0, .int .i64 0] 40) := ⟨_, rfl⟩
 have hb0 : Below w.heap.size w U0 := by rw [hU0]; exact (Below.refl _ _).alloc (Nat.le_refl _) _
 have hc0 : U0.heap[w.heap.size]? = some (.cells #[.int .i64 0, .int .i64 0, .string ⟨#[]⟩, .slice none 0 0, .slice none 0 0, .int .i64 0, .int .i64 0] 40 (0, 0)) := by rw [hU0]; exact heap_alloc_new _ _
 have HB0 := Lib.hid hb0
 have HC0 := Lib.hid hc0
 have HE := Lib.hid (hE.later hb0)
 clear hP hE hb0 hc0
 go_enter Tryz.func12, Tryz.ntmps12
 go_upto_region 1 with fail
 rw [← hU0]
 clear hU0
 go_wp2_with fail
 refine (lex_c U0 askT (.inr (.inl rfl))).mono ?_
 rintro e w2 ⟨tv, rfl, hr, hb2⟩
 rw [ask_lex] at hr ⊢
 dsimp only at hr ⊢
 obtain ⟨An, cn, rfl⟩ := hr.shape
 have HR2 := Lib.hid hr
 have HE2 := Lib.hid (HE.out.later hb2)
 have HB2 := Lib.hid (HB0.out.trans (hb2.mono HB0.out.size))
 have HC2 := Lib.hid ((hb2.block _ (Array.getElem?_eq_some_iff.1 HC0.out).1).trans HC0.out)
 clear hr hb2 HB0 HC0 HE
 go_wp2_with fail
 refine (new_any w2 HE2.out.kinds HE2.out.tab).mono ?_
 rintro e w3 ⟨bt, bm, rfl, -, -, -, -, hb3⟩
 have HRD := Lib.hid (read_var w3 An askL.length cn askL (toks_row (HR2.out.later hb3)) (by decide) 0 bt ask_tok rfl rfl)
 have HB3 := Lib.hid (HB2.out.trans (hb3.mono HB2.out.size))
 have HC3 := Lib.hid ((hb3.block _ (Array.getElem?_eq_some_iff.1 HC2.out).1).trans HC2.out)
 clear hb3 HR2 HE2 HB2 HC2
 go_wp2_with fail
 refine HRD.out.mono ?_
 rintro e u1 ⟨hb1, x, nv, B', rfl, hx, hnv⟩
 obtain ⟨Av, cv, rfl⟩ := hnv.shape
 obtain ⟨k1, n1, s1, A1, l1, c1⟩ := x
 obtain ⟨nx, hnx⟩ : ∃ nx : Int, nx = ((0 + 4 : Nat) : Int) + 1 := ⟨_, rfl⟩
 obtain ⟨ln, hln⟩ : ∃ ln : Int, ln = (peekF askL 0).line := ⟨_, rfl⟩
 dsimp only [clV]
 rw [← hnx, ← hln]
 clear hnx hln HRD
 obtain ⟨U, hU⟩ : ∃ U, U = u1.alloc (.cells #[.int .i64 k1, .int .i64 n1, .string ⟨s1.toArray⟩, .slice A1 l1 c1, .slice Av 1 cv, .int .i64 ln, .int .i64 nx] 40) := ⟨_, rfl⟩
 have hbU : Below u1.heap.size u1 U := by rw [hU]; exact (Below.refl _ _).alloc (Nat.le_refl _) _
 have hz : U.heap[u1.heap.size]? = some (.cells #[.int .i64 k1, .int .i64 n1, .string ⟨s1.toArray⟩, .slice A1 l1 c1, .slice Av 1 cv, .int .i64 ln, .int .i64 nx] 40 (0, 0)) := by rw [hU]; exact heap_alloc_new _ _
 obtain ⟨z0, z1, z2, z3, z4, z5, z6, zf⟩ := seven_at hz
 have hC1 := (hbU.block _ (Nat.lt_of_lt_of_le (Array.getElem?_eq_some_iff.1 HC3.out).1 hb1.size)).trans ((hb1.block _ (Array.getElem?_eq_some_iff.1 HC3.out).1).trans HC3.out)
 obtain ⟨y0, y1, y2, y3, y4, y5, y6, yf⟩ := seven_at hC1
 have hcl := (Array.getElem?_eq_some_iff.1 hC1).1
 have HC := Lib.hid hC1
 have HX := Lib.hid (show TermS u1 (TyB u1 27) ⟨k1, n1, s1, A1, l1, c1⟩ askG from hx)
 have HN := Lib.hid (show Row u1 B' 99 2 encB (.slice Av 1 cv) [([88], 0)] from hnv)
 have HB1 := Lib.hid (HB3.out.trans (hb1.mono HB3.out.size))
 have HBU := Lib.hid hbU
 clear hx hnv hb1 hbU hC1 hz HB3 HC3
 go_upto_region 3 with fail
 rw [← hU]
 clear hU
 go_wp2_with fail
 obtain ⟨WF, hWF⟩ : ∃ WF, WF = ((((((U.setCell ⟨w.heap.size, 0, none⟩ (.int .i64 k1)).setCell ⟨w.heap.size, 1, none⟩ (.int .i64 n1)).setCell ⟨w.heap.size, 2, none⟩ (.string ⟨s1.toArray⟩)).setCell ⟨w.heap.size, 3, none⟩ (.slice A1 l1 c1)).setCell ⟨w.heap.size, 4, none⟩ (.slice Av 1 cv)).setCell ⟨w.heap.size, 5, none⟩ (.int .i64 ln)).setCell ⟨w.heap.size, 6, none⟩ (.int .i64 nx) := ⟨_, rfl⟩
 have hF := ask_cells HC.out (.int .i64 k1) (.int .i64 n1) (.string ⟨s1.toArray⟩) (.slice A1 l1 c1) (.slice Av 1 cv) (.int .i64 ln) (.int .i64 nx)
 have hfr : Fr (fun k => k = w.heap.size) U WF := by rw [hWF]; exact fr_set7 (S := fun k => k = w.heap.size) (Fr.refl _ _) rfl _ _ _ _ _ _ _
 rw [← hWF] at hF ⊢
 have hty : ∀ {t : TypeId} {b : Nat}, TyB u1 t b → t ≠ 40 → WF.heap[b]? = u1.heap[b]? := fun h hn => (hfr.block _ (Nat.lt_of_lt_of_le h.lt HBU.out.size) fun e => (h.keep (HBU.out.block _ h.lt)).ne ⟨_, HC.out⟩ hn e).trans (HBU.out.block _ h.lt)
 obtain ⟨q0, q1, q2, q3, q4, q5, q6, -⟩ := seven_at hF
 refine bodyPost_ret (v := .tuple #[clV ⟨k1, n1, s1, A1, l1, c1⟩ (.slice Av 1 cv) ln nx, .bool true]) (by simp [results, Tryz.results12, go_sem, q0, q1, q2, q3, q4, q5, q6, clV]) rfl ?_
 rw [HP.out]
 exact ⟨_, _, B', ln, nx, rfl, HX.out.keep (fun b hb => hb.keep (hty hb (by decide))) fun b hb => hty hb (by decide), HN.out.keep fun g hg => hty (HN.out.ty hg) (by decide), (HB1.out.trans (HBU.out.mono HB1.out.size)).trans (hfr.below (Nat.le_trans HB1.out.size HBU.out.size) fun k hk e => by omega)⟩
section
variable {db mb : Nat} {u : World}
theorem LdS.two {w : World} (h : LdS w db mb 2 u) : ∃ pb A c cls ver ov, DbP w.heap.size db mb pb A c cls ver ov u := by
 obtain ⟨es, A, c, cls, ov, h1, h2, h3⟩ := h
 rcases h1.pr with ⟨-, -, h, -⟩ | ⟨pb, ver, h4, h5, -⟩
 ·rw [h] at h2
  cases h2
 ·refine ⟨pb, A, c, cls, ver, ov, ?_, h5, ?_, h1.od, h2, h3, h1.facts⟩
  ·have := h1.db'
   rw [h4, h2] at this
   exact this
  ·have := h1.cl
   rw [h2] at this
   exact this
end
end Go.Proofs.YtjdnigepnfeboaaGreatDoor
