/-
  What term.may answers of any part; what measure.take does with it. Condition: the part's name and count can be read.
-/
import Derived.Test.YtiaajpfebcccfaaTm
import Derived.Lib.Hide
import Derived.WalkKit
import Derived.WalkSmall
import Derived.WalkSpells
namespace Go.Proofs.Ytiaajpfebcccfaa
open Go.RowKit
set_option maxRecDepth 100000

set_option maxHeartbeats 4000000 in
theorem may_any (w : World) (x : TV) (hs : x.s.length ≤ maxLen) (hl : x.len ≤ maxLen) :
    Calls Try.prog 58 #[tvV x] w fun e w' => e = .returned (.bool (mayP x.k x.n x.s x.len)) ∧ Below w.heap.size w w' := by
  obtain ⟨k, n, s, A, m, c⟩ := x
  simp only at hs hl
  unfold tvV
  simp only
  obtain ⟨r, hr⟩ : ∃ r, r = mayP k n s m := ⟨_, rfl⟩
  rw [← hr]
  have HRR := Lib.hid hr
  have hs' : (s.length : Int) ≤ 9223372036854775807 := by unfold maxLen at hs; omega
  have hm' : (m : Int) ≤ 9223372036854775807 := by unfold maxLen at hl; omega
  clear hr hs hl
  by_cases h1 : k = 1
  · subst h1
    go_enter Try.func58, Try.ntmps58
    go_wp2_with fail
    all_goals
      go_ret
      refine ⟨?_, (Below.refl _ _).alloc (Nat.le_refl _) _⟩
      have h := HRR.out
      clear HRR
      subst h
      congr 2
      simp_all [mayP] <;> (first | (intros; omega) | (rw [Bool.eq_iff_iff]; simp; omega) | (rw [Bool.eq_iff_iff]; simp))
  by_cases h2 : k = 2
  · subst h2
    clear h1
    go_enter Try.func58, Try.ntmps58
    go_wp2_with fail
    all_goals
      go_ret
      refine ⟨?_, (Below.refl _ _).alloc (Nat.le_refl _) _⟩
      have h := HRR.out
      clear HRR
      subst h
      congr 2
      simp_all [mayP] <;> (first | (intros; omega) | (rw [Bool.eq_iff_iff]; simp; omega) | (rw [Bool.eq_iff_iff]; simp))
  by_cases h3 : k = 3
  · subst h3
    clear h1 h2
    go_enter Try.func58, Try.ntmps58
    go_wp2_with fail
    all_goals
      go_ret
      refine ⟨?_, (Below.refl _ _).alloc (Nat.le_refl _) _⟩
      have h := HRR.out
      clear HRR
      subst h
      congr 2
      simp_all [mayP] <;> (first | (intros; omega) | (rw [Bool.eq_iff_iff]; simp; omega) | (rw [Bool.eq_iff_iff]; simp))
  by_cases h4 : k = 4
  · subst h4
    clear h1 h2 h3
    go_enter Try.func58, Try.ntmps58
    go_wp2_with fail
    all_goals
      go_ret
      refine ⟨?_, (Below.refl _ _).alloc (Nat.le_refl _) _⟩
      have h := HRR.out
      clear HRR
      subst h
      congr 2
      simp_all [mayP] <;> (first | (intros; omega) | (rw [Bool.eq_iff_iff]; simp; omega) | (rw [Bool.eq_iff_iff]; simp))
  · go_enter Try.func58, Try.ntmps58
    go_wp2_with fail
    all_goals
      go_ret
      refine ⟨?_, (Below.refl _ _).alloc (Nat.le_refl _) _⟩
      have h := HRR.out
      clear HRR
      subst h
      congr 2
      simp_all [mayP]

/-- What term.measure holds. -/
structure Meas where
  bad : Bool
  size : Nat
  deep : Nat
def MeasAt (w : World) (b : Nat) (m : Meas) : Prop := w.heap[b]? = some (.cells #[.bool m.bad, .int .i64 m.size, .int .i64 m.deep] 79 (0, 0))
def Meas.step (m : Meas) (k n : Int) (s : List UInt8) (a d : Nat) : Meas := ⟨m.bad || !mayP k n s a, m.size + 1, max m.deep d⟩
theorem blk_put {w : World} {b i : Nat} {cs : Array Value} {t : TypeId} {fr : Nat × Nat} (h : w.heap[b]? = some (.cells cs t fr)) (u : Value) : (w.setCell ⟨b, i, none⟩ u).heap[b]? = some (.cells (cs.setIfInBounds i u) t fr) := by
  simp [World.setCell, Array.getElem?_modify, h]

theorem meas_cells {w1 : World} {b : Nat} {a0 a1 a2 : Value} {t : TypeId} (h : w1.heap[b]? = some (.cells #[a0, a1, a2] t (0, 0))) :
    w1.cell? ⟨b, 0, none⟩ = some a0 ∧ w1.cell? ⟨b, 1, none⟩ = some a1 ∧ w1.cell? ⟨b, 2, none⟩ = some a2 ∧ (∀ o, w1.frozen? ⟨b, o, none⟩ = false) :=
  ⟨by rw [cell_of_row w1 b 0 _ t (0, 0) h]; rfl, by rw [cell_of_row w1 b 1 _ t (0, 0) h]; rfl, by rw [cell_of_row w1 b 2 _ t (0, 0) h]; rfl, fun o => by simp [World.frozen?, h]⟩
set_option maxHeartbeats 4000000 in
theorem take_any (w : World) (b : Nat) (m : Meas) (x : TV) (d : Nat) (hs : x.s.length ≤ maxLen) (hl : x.len ≤ maxLen) (hb : MeasAt w b m) (hsz : m.size ≤ 1000000000) :
    Calls Try.prog 50 #[.pointer (some ⟨b, 0, none⟩), tvV x, .int .i64 d] w fun e w' => e = .returned (.tuple #[]) ∧ MeasAt w' b (m.step x.k x.n x.s x.len d) ∧ Fr (fun k => k = b) w w' := by
  have HM : Hid (∀ W : World, Calls Try.prog 58 #[tvV x] W fun e W' => e = .returned (.bool (mayP x.k x.n x.s x.len)) ∧ Below W.heap.size W W') := Lib.hid fun W => may_any W x hs hl
  obtain ⟨k, n, s, A, a, c⟩ := x
  unfold tvV at *
  simp only at HM ⊢
  unfold Meas.step
  generalize mayP k n s a = q at *
  obtain ⟨bad, sz, dp⟩ := m
  simp only at hsz ⊢
  have hbl : b < w.heap.size := (Array.getElem?_eq_some_iff.1 hb).1
  have hne : b ≠ w.heap.size := by omega
  unfold MeasAt at hb
  simp only at hb
  have c0 : w.cell? ⟨b, 0, none⟩ = some (.bool bad) := by rw [cell_of_row w b 0 _ _ (0, 0) hb]; rfl
  have c1 : w.cell? ⟨b, 1, none⟩ = some (.int .i64 sz) := by rw [cell_of_row w b 1 _ _ (0, 0) hb]; rfl
  have c2 : w.cell? ⟨b, 2, none⟩ = some (.int .i64 dp) := by rw [cell_of_row w b 2 _ _ (0, 0) hb]; rfl
  have hf : ∀ o, w.frozen? ⟨b, o, none⟩ = false := fun o => by simp [World.frozen?, hb]
  have HB := Lib.hid hb
  clear hb
  by_cases hdd : dp < d
  · have hmax : max dp d = d := by omega
    have hdd' : (dp : Int) < (d : Int) := by omega
    rw [hmax]
    clear hmax hdd
    cases q
    · go_enter Try.func50, Try.ntmps50
      go_wp2_with fail
      refine (HM.out _).mono ?_
      rintro e w2 ⟨rfl, hb2⟩
      have hw2 : w2.heap[b]? = some (.cells #[.bool bad, .int .i64 ((sz : Int) + 1), .int .i64 (d : Nat)] 79 (0, 0)) := by
        rw [hb2.block b (by simp [World.setCell]; omega), Below.heap_alloc _ _ _ (by simp [World.setCell]; omega)]
        exact blk_put (blk_put HB.out _) _
      have hf2 : Fr (fun k => k = b) w w2 := (((Fr.refl (fun k => k = b) w).setCell (p := ⟨b, 1, none⟩) (.inl rfl) _).setCell (p := ⟨b, 2, none⟩) (.inl rfl) _).alloc _ |>.step hb2
      have HF2 := Lib.hid hf2
      have HW2 := Lib.hid hw2
      obtain ⟨d0, d1, d2, df⟩ := meas_cells hw2
      clear hb2 hw2 hf2
      go_wp2_with fail
      go_end0
      exact ⟨rfl, by rw [Bool.not_false, Bool.or_true]; exact blk_put HW2.out _, HF2.out.setCell (p := ⟨b, 0, none⟩) (.inl rfl) _⟩
    · go_enter Try.func50, Try.ntmps50
      go_wp2_with fail
      refine (HM.out _).mono ?_
      rintro e w2 ⟨rfl, hb2⟩
      have hw2 : w2.heap[b]? = some (.cells #[.bool bad, .int .i64 ((sz : Int) + 1), .int .i64 (d : Nat)] 79 (0, 0)) := by
        rw [hb2.block b (by simp [World.setCell]; omega), Below.heap_alloc _ _ _ (by simp [World.setCell]; omega)]
        exact blk_put (blk_put HB.out _) _
      have hf2 : Fr (fun k => k = b) w w2 := (((Fr.refl (fun k => k = b) w).setCell (p := ⟨b, 1, none⟩) (.inl rfl) _).setCell (p := ⟨b, 2, none⟩) (.inl rfl) _).alloc _ |>.step hb2
      have HF2 := Lib.hid hf2
      have HW2 := Lib.hid hw2
      obtain ⟨d0, d1, d2, df⟩ := meas_cells hw2
      clear hb2 hw2 hf2
      go_wp2_with fail
      go_end0
      exact ⟨rfl, by rw [Bool.not_true, Bool.or_false]; exact HW2.out, HF2.out⟩
  · have hmax : max dp d = dp := by omega
    have hdd' : ¬ (dp : Int) < (d : Int) := by omega
    rw [hmax]
    clear hmax hdd
    cases q
    · go_enter Try.func50, Try.ntmps50
      go_wp2_with fail
      refine (HM.out _).mono ?_
      rintro e w2 ⟨rfl, hb2⟩
      have hw2 : w2.heap[b]? = some (.cells #[.bool bad, .int .i64 ((sz : Int) + 1), .int .i64 (dp : Nat)] 79 (0, 0)) := by
        rw [hb2.block b (by simp [World.setCell]; omega), Below.heap_alloc _ _ _ (by simp [World.setCell]; omega)]
        exact blk_put (blk_put HB.out _) _
      have hf2 : Fr (fun k => k = b) w w2 := (((Fr.refl (fun k => k = b) w).setCell (p := ⟨b, 1, none⟩) (.inl rfl) _).setCell (p := ⟨b, 2, none⟩) (.inl rfl) _).alloc _ |>.step hb2
      have HF2 := Lib.hid hf2
      have HW2 := Lib.hid hw2
      obtain ⟨d0, d1, d2, df⟩ := meas_cells hw2
      clear hb2 hw2 hf2
      go_wp2_with fail
      go_end0
      exact ⟨rfl, by rw [Bool.not_false, Bool.or_true]; exact blk_put HW2.out _, HF2.out.setCell (p := ⟨b, 0, none⟩) (.inl rfl) _⟩
    · go_enter Try.func50, Try.ntmps50
      go_wp2_with fail
      refine (HM.out _).mono ?_
      rintro e w2 ⟨rfl, hb2⟩
      have hw2 : w2.heap[b]? = some (.cells #[.bool bad, .int .i64 ((sz : Int) + 1), .int .i64 (dp : Nat)] 79 (0, 0)) := by
        rw [hb2.block b (by simp [World.setCell]; omega), Below.heap_alloc _ _ _ (by simp [World.setCell]; omega)]
        exact blk_put (blk_put HB.out _) _
      have hf2 : Fr (fun k => k = b) w w2 := (((Fr.refl (fun k => k = b) w).setCell (p := ⟨b, 1, none⟩) (.inl rfl) _).setCell (p := ⟨b, 2, none⟩) (.inl rfl) _).alloc _ |>.step hb2
      have HF2 := Lib.hid hf2
      have HW2 := Lib.hid hw2
      obtain ⟨d0, d1, d2, df⟩ := meas_cells hw2
      clear hb2 hw2 hf2
      go_wp2_with fail
      go_end0
      exact ⟨rfl, by rw [Bool.not_true, Bool.or_false]; exact HW2.out, HF2.out⟩
end Go.Proofs.Ytiaajpfebcccfaa
