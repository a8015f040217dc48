/-
  What db.made, own, number make of the small terms that law14's DbOrder hands over: copies in memory of their own. Condition: the terms' cells.
-/
import Derived.Test.YtiaajpfebcccfaaTmV
import Derived.Test.YtiaajpfebcccfaaDbA
import Derived.Deep.RegionHeld3
namespace Go.Proofs.Ytiaajpfebcccfaa
open Go.RowKit
set_option maxRecDepth 100000

def leafTV (k n : Int) (s : List UInt8) : TV := ⟨k, n, s, none, 0, 0⟩
theorem four_cells {w1 : World} {b : Nat} {a0 a1 a2 a3 : Value} {t : TypeId} (h : w1.heap[b]? = some (.cells #[a0, a1, a2, a3] t (0, 0))) :
    w1.cell? ⟨b, 0, none⟩ = some a0 ∧ w1.cell? ⟨b, 1, none⟩ = some a1 ∧ w1.cell? ⟨b, 2, none⟩ = some a2 ∧ w1.cell? ⟨b, 3, none⟩ = some a3 ∧ (∀ o, w1.frozen? ⟨b, o, none⟩ = false) :=
  ⟨by rw [cell_of_row w1 b 0 _ t (0, 0) h]; rfl, by rw [cell_of_row w1 b 1 _ t (0, 0) h]; rfl, by rw [cell_of_row w1 b 2 _ t (0, 0) h]; rfl, by rw [cell_of_row w1 b 3 _ t (0, 0) h]; rfl, fun o => by simp [World.frozen?, h]⟩

set_option maxHeartbeats 4000000 in
theorem made_leaf (w : World) (k n : Int) (s : List UInt8) (A : Option Addr) (c : Nat) (f : Value) (hk : k ≠ 1) :
    Calls Try.prog 27 #[tvV ⟨k, n, s, A, 0, c⟩, f] w fun e w' => e = .returned (tvV (leafTV k n s)) ∧ Below w.heap.size w w' := by
  unfold leafTV
  rw [tvV_lit, tvV_lit]
  simp only
  have hkb : (k == 1) = false := by simpa using hk
  clear hk
  go_enter Try.func27, Try.ntmps27
  go_wp2_with fail
  refine bodyPost_ret (v := .agg #[.int .i64 k, .int .i64 n, .string ⟨s.toArray⟩, .slice none 0 0]) (by simp [results, Try.results27, go_sem]) rfl ⟨rfl, ?_⟩
  exact ((Below.refl _ _).alloc (Nat.le_refl _) _).alloc (by simp) _

theorem make_one (u : World) : (Instr.makeSlice 31 (.int .i64 1) (.int .i64 1)).run Try.prog u = .ok (.slice (some ⟨u.heap.size, 0, none⟩) 1 1) (u.alloc (.cells #[.int .i64 0, .int .i64 0, .string ⟨#[]⟩, .slice none 0 0] 33)) := by
  kernel_rfl

set_option maxHeartbeats 4000000 in
theorem made_one (w : World) (k n : Int) (s : List UInt8) (b off c : Nat) (k2 n2 : Int) (s2 : List UInt8) (A2 : Option Addr) (c2 : Nat) (F : FuncId) (rc cs : Array Value) (hk : k ≠ 1) (hk2 : k2 ≠ 1)
    (e0 : w.cell? ⟨b, off, none⟩ = some (.int .i64 k2)) (e1 : w.cell? ⟨b, off + 1, none⟩ = some (.int .i64 n2)) (e2 : w.cell? ⟨b, off + 2, none⟩ = some (.string ⟨s2.toArray⟩)) (e3 : w.cell? ⟨b, off + 3, none⟩ = some (.slice A2 0 c2)) :
    Calls Try.prog 27 #[tvV ⟨k, n, s, some ⟨b, off, none⟩, 1, c⟩, .func (.func F) rc cs] w fun e w' => ∃ g, e = .returned (tvV ⟨k, n, s, some ⟨g, 0, none⟩, 1, 1⟩) ∧ w.heap.size ≤ g ∧
      w'.heap[g]? = some (.cells (encTV (leafTV k2 n2 s2)).toArray 33 (0, 0)) ∧ Below w.heap.size w w' := by
  rw [tvV_lit]
  simp only
  have hkb : (k == 1) = false := by simpa using hk
  have hbl := World.block_lt_of_cell? w _ e0
  simp only at hbl
  have HC : Hid (∀ W : World, Calls Try.prog 27 #[tvV ⟨k2, n2, s2, A2, 0, c2⟩, .func (.func F) rc cs] W fun e w' => e = .returned (tvV (leafTV k2 n2 s2)) ∧ Below W.heap.size W w') := Lib.hid fun W => made_leaf W k2 n2 s2 A2 c2 _ hk2
  have hmk := make_one
  clear hk hk2
  go_enter Try.func27, Try.ntmps27
  go_wp2_with fail
  clear hmk
  generalize hW0 : World.alloc (World.alloc (World.alloc w _) _) _ = W0
  have hb0 : Below w.heap.size w W0 := by rw [← hW0]; exact (((Below.refl _ w).alloc (Nat.le_refl _) _).alloc (by simp) _).alloc (by simp; omega) _
  have hs0 : W0.heap.size = w.heap.size + 3 := by rw [← hW0]; simp
  have hx0 : W0.heap[w.heap.size]? = some (.cells #[.int .i64 k, .int .i64 n, .string ⟨s.toArray⟩, .slice (some ⟨b, off, none⟩) 1 c] 33 (0, 0)) := by
    rw [← hW0, Below.heap_alloc _ _ _ (by simp; omega), Below.heap_alloc _ _ _ (by simp)]
    exact heap_alloc_new w _
  have hx1 : W0.heap[w.heap.size + 1]? = some (.cells #[.int .i64 0, .int .i64 0, .string ⟨#[]⟩, .slice none 0 0] 33 (0, 0)) := by
    rw [← hW0, Below.heap_alloc _ _ _ (by simp)]
    have := heap_alloc_new (w.alloc (.cells #[.int .i64 k, .int .i64 n, .string ⟨s.toArray⟩, .slice (some ⟨b, off, none⟩) 1 c] 33)) (.cells #[.int .i64 0, .int .i64 0, .string ⟨#[]⟩, .slice none 0 0] 33)
    simpa using this
  have hx2 : W0.heap[w.heap.size + 1 + 1]? = some (.cells #[.int .i64 0, .int .i64 0, .string ⟨#[]⟩, .slice none 0 0] 33 (0, 0)) := by
    rw [← hW0]
    have := heap_alloc_new ((w.alloc (.cells #[.int .i64 k, .int .i64 n, .string ⟨s.toArray⟩, .slice (some ⟨b, off, none⟩) 1 c] 33)).alloc (.cells #[.int .i64 0, .int .i64 0, .string ⟨#[]⟩, .slice none 0 0] 33)) (.cells #[.int .i64 0, .int .i64 0, .string ⟨#[]⟩, .slice none 0 0] 33)
    simpa using this
  have HB0 := Lib.hid hb0
  have HX0 := Lib.hid hx0
  have HX1 := Lib.hid hx1
  have HX2 := Lib.hid hx2
  clear hW0 hb0 hx0 hx1 hx2
  go_loopw [29] (fun i u => (i = .int .i64 0 ∧ u = W0) ∨ (i = .int .i64 1 ∧ Hid (Fr (fun k => k = w.heap.size + 1 + 1) W0 u ∧ u.heap[w.heap.size + 1 + 1]? = some (.cells (encTV (leafTV k2 n2 s2)).toArray 33 (0, 0))))) (fun i _ => 1 - (intOf i).toNat)
  case atStart => exact .inl ⟨rfl, rfl⟩
  case round =>
    rcases hrel with ⟨rfl, rfl⟩ | ⟨rfl, HD⟩
    · rw [← HB0.out.cell (p := ⟨b, off, none⟩) hbl] at e0
      rw [← HB0.out.cell (p := ⟨b, off + 1, none⟩) hbl] at e1
      rw [← HB0.out.cell (p := ⟨b, off + 2, none⟩) hbl] at e2
      rw [← HB0.out.cell (p := ⟨b, off + 3, none⟩) hbl] at e3
      go_wp2_with fail
      refine (HC.out _).mono ?_
      rintro e w4 ⟨rfl, hb4⟩
      have hF4 : Fr (fun k => k = w.heap.size + 1 + 1) wr w4 := ((Fr.refl _ wr).alloc _).step hb4
      have hz4 := (hF4.size)
      have hx4 : w4.heap[w.heap.size + 1 + 1]? = some (.cells #[.int .i64 0, .int .i64 0, .string ⟨#[]⟩, .slice none 0 0] 33 (0, 0)) := by
        rw [hb4.block _ (by simp; omega), Below.heap_alloc _ _ _ (by omega)]
        exact HX2.out
      obtain ⟨d0, d1, d2, d3, df⟩ := four_cells hx4
      have HF4 := Lib.hid hF4
      have HX4 := Lib.hid hx4
      clear hb4 hF4 hx4 e0 e1 e2 e3
      unfold leafTV at *
      rw [tvV_lit]
      simp only
      go_wp2_with fail
      go_roundw
      case rel =>
        refine .inr ⟨rfl, Lib.hid ⟨?_, ?_⟩⟩
        · exact (((HF4.out.setCell (p := ⟨w.heap.size + 1 + 1, 0, none⟩) (.inl rfl) _).setCell (p := ⟨w.heap.size + 1 + 1, 1, none⟩) (.inl rfl) _).setCell (p := ⟨w.heap.size + 1 + 1, 2, none⟩) (.inl rfl) _).setCell (p := ⟨w.heap.size + 1 + 1, 3, none⟩) (.inl rfl) _
        · exact blk_put (blk_put (blk_put (blk_put HX4.out _) _) _) _
      case measure => simp [intOf]
    · obtain ⟨hF, hG⟩ := HD.out
      have hx0 := (hF.block w.heap.size (by omega) (by omega)).trans HX0.out
      have hx1 := (hF.block (w.heap.size + 1) (by omega) (by omega)).trans HX1.out
      obtain ⟨c0, c1, c2, c3, cf⟩ := four_cells hx0
      obtain ⟨d0, d1, d2, d3, df⟩ := four_cells hx1
      clear hF hG hx0 hx1 e0 e1 e2 e3
      go_wp2_with fail
      refine bodyPost_ret (v := .agg #[.int .i64 k, .int .i64 n, .string ⟨s.toArray⟩, .slice (some ⟨w.heap.size + 1 + 1, 0, none⟩) 1 1]) (by simp [results, Try.results27, go_sem, d0, d1, d2, d3]) rfl ⟨w.heap.size + 1 + 1, rfl, by omega, ?_, ?_⟩
      · repeat (rw [Deep.blk_setCell_other _ _ _ _ (by first | omega | (simp only; omega))])
        exact HD.out.2
      · repeat (refine Below.setCell ?_ (by simp only; omega) _)
        exact HB0.out.trans (HD.out.1.below (by omega) (fun k hk => by omega))

set_option maxHeartbeats 2000000 in
theorem own_leaf (w : World) (k n : Int) (s : List UInt8) (A : Option Addr) (c : Nat) (hk : k ≠ 1) :
    Calls Try.prog 22 #[tvV ⟨k, n, s, A, 0, c⟩] w fun e w' => e = .returned (tvV (leafTV k n s)) ∧ Below w.heap.size w w' := by
  have HC : Hid (∀ (W : World) (f : Value), Calls Try.prog 27 #[tvV ⟨k, n, s, A, 0, c⟩, f] W fun e w' => e = .returned (tvV (leafTV k n s)) ∧ Below W.heap.size W w') := Lib.hid fun W f => made_leaf W k n s A c f hk
  clear hk
  unfold leafTV at *
  rw [tvV_lit, tvV_lit] at *
  simp only at *
  go_enter Try.func22, Try.ntmps22
  go_wp2_with fail
  refine (HC.out _ _).mono ?_
  rintro e w2 ⟨rfl, hb2⟩
  have hx1 : w2.heap[w.heap.size + 1]? = some (.cells #[.int .i64 0, .int .i64 0, .string ⟨#[]⟩, .slice none 0 0] 33 (0, 0)) := by
    rw [hb2.block _ (by simp)]
    have := heap_alloc_new (w.alloc (.cells #[.int .i64 k, .int .i64 n, .string ⟨s.toArray⟩, .slice A 0 c] 33)) (.cells #[.int .i64 0, .int .i64 0, .string ⟨#[]⟩, .slice none 0 0] 33)
    simpa using this
  obtain ⟨d0, d1, d2, d3, df⟩ := four_cells hx1
  have HB := Lib.hid ((((Below.refl w.heap.size w).alloc (Nat.le_refl _) _).alloc (by simp) _).trans (hb2.mono (by simp; omega)))
  clear hb2 hx1
  go_wp2_with fail
  refine bodyPost_ret (v := .agg #[.int .i64 k, .int .i64 n, .string ⟨s.toArray⟩, .slice none 0 0]) (by simp [results, Try.results22, go_sem, d0, d1, d2, d3]) rfl ⟨rfl, ?_⟩
  repeat (refine Below.setCell ?_ (by simp only; omega) _)
  exact HB.out

set_option maxHeartbeats 2000000 in
theorem own_one (w : World) (k n : Int) (s : List UInt8) (b off c : Nat) (k2 n2 : Int) (s2 : List UInt8) (A2 : Option Addr) (c2 : Nat) (hk : k ≠ 1) (hk2 : k2 ≠ 1)
    (e0 : w.cell? ⟨b, off, none⟩ = some (.int .i64 k2)) (e1 : w.cell? ⟨b, off + 1, none⟩ = some (.int .i64 n2)) (e2 : w.cell? ⟨b, off + 2, none⟩ = some (.string ⟨s2.toArray⟩)) (e3 : w.cell? ⟨b, off + 3, none⟩ = some (.slice A2 0 c2)) :
    Calls Try.prog 22 #[tvV ⟨k, n, s, some ⟨b, off, none⟩, 1, c⟩] w fun e w' => ∃ g, e = .returned (tvV ⟨k, n, s, some ⟨g, 0, none⟩, 1, 1⟩) ∧ w.heap.size ≤ g ∧
      w'.heap[g]? = some (.cells (encTV (leafTV k2 n2 s2)).toArray 33 (0, 0)) ∧ Below w.heap.size w w' := by
  have hbl := World.block_lt_of_cell? w _ e0
  simp only at hbl
  have hw : Below w.heap.size w ((w.alloc (.cells #[.int .i64 k, .int .i64 n, .string ⟨s.toArray⟩, .slice (some ⟨b, off, none⟩) 1 c] 33)).alloc (.cells #[.int .i64 0, .int .i64 0, .string ⟨#[]⟩, .slice none 0 0] 33)) := ((Below.refl w.heap.size w).alloc (Nat.le_refl _) _).alloc (by simp) _
  have HC := Lib.hid (made_one _ k n s b off c k2 n2 s2 A2 c2 34 #[] #[] hk hk2 ((hw.cell (p := ⟨b, off, none⟩) hbl).trans e0) ((hw.cell (p := ⟨b, off + 1, none⟩) hbl).trans e1) ((hw.cell (p := ⟨b, off + 2, none⟩) hbl).trans e2) ((hw.cell (p := ⟨b, off + 3, none⟩) hbl).trans e3))
  have HW := Lib.hid hw
  clear hk hk2 e0 e1 e2 e3 hw
  rw [tvV_lit] at *
  simp only at *
  go_enter Try.func22, Try.ntmps22
  go_wp2_with fail
  refine HC.out.mono ?_
  rintro e w2 ⟨g, rfl, hg, hgc, hb2⟩
  have hx1 : w2.heap[w.heap.size + 1]? = some (.cells #[.int .i64 0, .int .i64 0, .string ⟨#[]⟩, .slice none 0 0] 33 (0, 0)) := by
    rw [hb2.block _ (by simp)]
    have := heap_alloc_new (w.alloc (.cells #[.int .i64 k, .int .i64 n, .string ⟨s.toArray⟩, .slice (some ⟨b, off, none⟩) 1 c] 33)) (.cells #[.int .i64 0, .int .i64 0, .string ⟨#[]⟩, .slice none 0 0] 33)
    simpa using this
  obtain ⟨d0, d1, d2, d3, df⟩ := four_cells hx1
  have HB := Lib.hid (HW.out.trans (hb2.mono (by simp; omega)))
  have HG := Lib.hid hgc
  have hg9 : w.heap.size + 2 ≤ g := by simpa using hg
  clear hb2 hx1 hgc hg
  rw [tvV_lit]
  simp only
  go_wp2_with fail
  refine bodyPost_ret (v := .agg #[.int .i64 k, .int .i64 n, .string ⟨s.toArray⟩, .slice (some ⟨g, 0, none⟩) 1 1]) (by simp [results, Try.results22, go_sem, d0, d1, d2, d3]) rfl ⟨g, rfl, by omega, ?_, ?_⟩
  · repeat (rw [Deep.blk_setCell_other _ _ _ _ (by first | omega | (simp only; omega))])
    exact HG.out
  · repeat (refine Below.setCell ?_ (by simp only; omega) _)
    exact HB.out
end Go.Proofs.Ytiaajpfebcccfaa
