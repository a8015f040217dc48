/-
  What db.may answers of a clause that may be: OK. Conditions: the terms' cells, their kinds; fewer than 4096 clauses.
-/
import Derived.Test.YtiaajpfebcccfaaDbP
namespace Go.Proofs.Ytiaajpfebcccfaa
open Go.RowKit Go.Maps
set_option maxRecDepth 100000

set_option maxHeartbeats 4000000 in
theorem may_ok (w : World) (db mb : Nat) (time : Int) (es : List (PK × Nat)) (A : Option Addr) (N c : Nat) (h : DbAt w db mb time es (.slice A N c)) (hN : N < 4096) (x y : TV) (ax ay : Option (Int × Int × List UInt8)) (hx : SrcAt w x ax) (hy : SrcAt w y ay)
    (hcx : checkT (tmOf x ax) = 0) (hcy : checkT (tmOf y ay) = 0) (hk : x.k = 3 ∨ x.k = 4) :
    Calls Try.prog 13 #[.pointer (some ⟨db, 0, none⟩), tvV x, tvV y] w fun e w' => e = .returned (.int .i64 0) ∧ Below w.heap.size w w' := by
  have HCX : Hid (∀ u, SrcAt u x ax → Calls Try.prog 23 #[.agg #[.int .i64 x.k, .int .i64 x.n, .string ⟨x.s.toArray⟩, .slice x.A x.len x.cap]] u fun e w' => e = .returned (.int .i64 0) ∧ Below u.heap.size u w') :=
    Lib.hid fun u h => by rw [← hcx]; exact check_any u x _ h.tm (by have := h.noVar.2.1; omega) (by have := h.noVar.2.2; omega)
  have HCY : Hid (∀ u, SrcAt u y ay → Calls Try.prog 23 #[.agg #[.int .i64 y.k, .int .i64 y.n, .string ⟨y.s.toArray⟩, .slice y.A y.len y.cap]] u fun e w' => e = .returned (.int .i64 0) ∧ Below u.heap.size u w') :=
    Lib.hid fun u h => by rw [← hcy]; exact check_any u y _ h.tm (by have := h.noVar.2.1; omega) (by have := h.noVar.2.2; omega)
  have HSX : Hid (∀ u, SrcAt u x ax → Calls Try.prog 24 #[.agg #[.int .i64 x.k, .int .i64 x.n, .string ⟨x.s.toArray⟩, .slice x.A x.len x.cap]] u fun e w' => e = .returned (.int .i64 ((tmOf x ax).size : Nat)) ∧ Below u.heap.size u w') :=
    Lib.hid fun u h => size_any u x _ h.tm (by have := h.noVar.2.1; omega)
  have HSY : Hid (∀ u, SrcAt u y ay → Calls Try.prog 24 #[.agg #[.int .i64 y.k, .int .i64 y.n, .string ⟨y.s.toArray⟩, .slice y.A y.len y.cap]] u fun e w' => e = .returned (.int .i64 ((tmOf y ay).size : Nat)) ∧ Below u.heap.size u w') :=
    Lib.hid fun u h => size_any u y _ h.tm (by have := h.noVar.2.1; omega)
  have hzx := hx.noVar.2.1
  have hzy := hy.noVar.2.1
  generalize (tmOf x ax).size = zx at *
  generalize (tmOf y ay).size = zy at *
  obtain ⟨W0, hW0⟩ : ∃ W0, allocs w [.cells (encTV x).toArray 33, .cells (encTV y).toArray 33] = W0 := ⟨_, rfl⟩
  have hb0 : Below w.heap.size w W0 := by rw [← hW0]; exact allocs_below _ _
  have h0 : W0.heap[w.heap.size]? = some (.cells (encTV x).toArray 33 (0, 0)) := by rw [← hW0]; exact allocs_at w _ 0 _ rfl
  have h1 : W0.heap[w.heap.size + 1]? = some (.cells (encTV y).toArray 33 (0, 0)) := by rw [← hW0]; exact allocs_at w _ 1 _ rfl
  have HF := Lib.hid (flat_of h0 h1)
  have HX := Lib.hid (hx.later hb0)
  have HY := Lib.hid (hy.later hb0)
  have HD := Lib.hid (h.later hb0)
  have HB0 := Lib.hid hb0
  have HW0 := Lib.hid hW0
  have HK := Lib.hid hk
  have hwr : IntKind.i64.wrap ((zx : Int) + (zy : Int)) = (zx : Int) + (zy : Int) := IntWalk.i64_in _ (by omega)
  have hgt : decide (20000 < (zx : Int) + (zy : Int)) = false := decide_eq_false (by omega)
  have hgt' : ¬ (20000 < (zx : Int) + (zy : Int)) := by omega
  have hN' : (N : Int) < 4096 := by omega
  clear hx hy hb0 h0 h1 hW0 hcx hcy h hk hzx hzy
  rw [tvV_lit, tvV_lit]
  go_enter Try.func13, Try.ntmps13
  obtain ⟨b0, b1, b2, b3, b4, b5, b6, b7⟩ := HF.out
  go_wp2_with fail
  change Calls _ _ _ (allocs w [.cells (encTV x).toArray 33, .cells (encTV y).toArray 33]) _
  rw [HW0.out]
  clear HW0
  refine (HCX.out _ HX.out).mono ?_
  rintro e u1 ⟨rfl, hb1⟩
  obtain ⟨b0, b1, b2, b3, b4, b5, b6, b7⟩ := flat_later HF.out hb1
  go_wp2_with fail
  refine (HCY.out _ (HY.out.later hb1)).mono ?_
  rintro e u2 ⟨rfl, hb2⟩
  have HB2 := Lib.hid (hb1.trans (hb2.mono hb1.size))
  have HF2 := Lib.hid (flat_later HF.out HB2.out)
  have HX2 := Lib.hid (HX.out.later HB2.out)
  have HY2 := Lib.hid (HY.out.later HB2.out)
  have HD2 := Lib.hid (HD.out.later HB2.out)
  clear b0 b1 b2 b3 b4 b5 b6 b7 hb1 hb2 HX HY HD HF
  go_wp2_with fail
  go_region_held3 (fun u => u.cell? ⟨w.heap.size, 0, none⟩ = some (.int .i64 x.k) ∧ u.cell? ⟨w.heap.size, 1, none⟩ = some (.int .i64 x.n) ∧ u.cell? ⟨w.heap.size, 2, none⟩ = some (.string ⟨x.s.toArray⟩) ∧ u.cell? ⟨w.heap.size, 3, none⟩ = some (.slice x.A x.len x.cap) ∧
    u.cell? ⟨w.heap.size + 1, 0, none⟩ = some (.int .i64 y.k) ∧ u.cell? ⟨w.heap.size + 1, 1, none⟩ = some (.int .i64 y.n) ∧ u.cell? ⟨w.heap.size + 1, 2, none⟩ = some (.string ⟨y.s.toArray⟩) ∧ u.cell? ⟨w.heap.size + 1, 3, none⟩ = some (.slice y.A y.len y.cap))
    (first | (with_reducible exact flat_drew HF2.out) | (with_reducible exact HF2.out) | (with_reducible exact flat_later (flat_drew HF2.out) hb3) | (with_reducible exact flat_later (flat_later (flat_drew HF2.out) hb3) hb4))
    (first | (go_at_call 24; with_reducible refine (HSX.out _ (HX2.out.later (Below.refl _ _).drew)).mono ?_; rintro e u3 ⟨rfl, hb3⟩) | (go_at_call 24; with_reducible refine (HSY.out u3 ((HY2.out.later (Below.refl _ _).drew).later hb3)).mono ?_; rintro e u4 ⟨rfl, hb4⟩))
  have HB4 := Lib.hid (HB2.out.trans (((Below.refl u2.heap.size u2).drew.trans (hb3.trans (hb4.mono hb3.size))).mono HB2.out.size))
  obtain ⟨b0, b1, b2, b3, b4, b5, b6, b7⟩ := flat_later (flat_later (flat_drew HF2.out) hb3) hb4
  have HD4 := Lib.hid (((HD2.out.later (Below.refl _ _).drew).later hb3).later hb4)
  obtain ⟨c0, c1, c2, cf⟩ := HD4.out.cells
  clear hb3 hb4
  rcases HK.out with hk | hk
  all_goals
    rw [hk] at b0
    go_wp2_with fail
    go_ret
    exact ⟨rfl, HB0.out.trans (HB4.out.mono HB0.out.size)⟩
end Go.Proofs.Ytiaajpfebcccfaa
