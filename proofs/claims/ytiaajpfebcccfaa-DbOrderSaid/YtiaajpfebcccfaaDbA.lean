/-
  What law14's ints answers: whether two slices of integers read alike. Condition: the slices can be read.
-/
import Derived.Test.YtiaajpfebcccfaaProg
import Derived.Test.YtiaajpfebcccfaaRowPut
import Derived.Lib.Hide
import Derived.BigQuiet
import Derived.Deep.QuietTactic
import Derived.WalkKit
import Derived.WalkSmall
import Derived.LoopTactic
namespace Go.Proofs.Ytiaajpfebcccfaa
open Go.RowKit
set_option maxRecDepth 100000

/-- A slice of integers that reads as a list. -/
structure IntsAt (w : World) (B : Nat) (A : Option Addr) (n : Nat) (l : List Int) : Prop where
  len : l.length = n
  at' : ∀ i x, l[i]? = some x → ∃ b off, A = some ⟨b, off, none⟩ ∧ b < B ∧ w.cell? ⟨b, off + i, none⟩ = some (.int .i64 x)
theorem IntsAt.below {w w' : World} {B : Nat} {A : Option Addr} {n : Nat} {l : List Int} (h : IntsAt w B A n l) (hb : Below B w w') : IntsAt w' B A n l :=
  ⟨h.len, fun i x hx => by
    obtain ⟨b, off, h1, h2, h3⟩ := h.at' i x hx
    exact ⟨b, off, h1, h2, (World.cell?_of_block (a := ⟨b, off + i, none⟩) (hb.block b h2)).trans h3⟩⟩
theorem IntsAt.up {w : World} {B B' : Nat} {A : Option Addr} {n : Nat} {l : List Int} (h : IntsAt w B A n l) (hb : B ≤ B') : IntsAt w B' A n l :=
  ⟨h.len, fun i x hx => by
    obtain ⟨b, off, h1, h2, h3⟩ := h.at' i x hx
    exact ⟨b, off, h1, by omega, h3⟩⟩
theorem take_snoc_eq {l r : List Int} {k : Nat} {a b : Int} (h : l.take k = r.take k) (ha : l[k]? = some a) (hb : r[k]? = some b) : (a = b → l.take (k + 1) = r.take (k + 1)) ∧ (a ≠ b → l ≠ r) := by
  refine ⟨fun e => ?_, fun e he => ?_⟩
  · rw [List.take_add_one, List.take_add_one, h, ha, hb, e]
  · subst he
    rw [ha] at hb
    exact e (Option.some.inj hb)

set_option maxHeartbeats 2000000 in
theorem ints_any (w : World) (A1 A2 : Option Addr) (n c1 m c2 : Nat) (l r : List Int) (h1 : IntsAt w w.heap.size A1 n l) (h2 : IntsAt w w.heap.size A2 m r) (hn : n ≤ 100000) (hm : m ≤ 100000) :
    Calls Try.prog 9 #[.slice A1 n c1, .slice A2 m c2] w fun e w' => e = .returned (.bool (decide (l = r))) ∧ Below w.heap.size w w' := by
  have HL1 := Lib.hid h1
  have HL2 := Lib.hid h2
  have hll := h1.len
  have hrl := h2.len
  clear h1 h2
  go_enter Try.func9, Try.ntmps9
  by_cases hnm : n = m
  case neg =>
    have hR := Lib.hid (show decide (l = r) = false from decide_eq_false fun h => hnm (by rw [← hll, ← hrl, h]))
    have hnm' : ¬ (n : Int) = (m : Int) := by omega
    clear hll hrl
    go_wp2_with fail
    go_ret
    exact ⟨by rw [hR.out]; rfl, Below.refl _ _⟩
  case pos =>
    subst hnm
    clear hrl
    have HLN := Lib.hid hll
    clear hll
    go_wp2_with fail
    go_loopw [13] (fun i wr => ∃ k nq : Nat, i = .int .i64 k ∧ k ≤ n ∧ Hid (l.take k = r.take k) ∧ wr = w.drewN nq) (fun i _ => n - (intOf i).toNat)
    case atStart => exact ⟨0, 0, rfl, Nat.zero_le _, Lib.hid (by simp), rfl⟩
    case round =>
      obtain ⟨k, nq, rfl, hkn, HK, rfl⟩ := hrel
      by_cases hlt : k < n
      · have hx1 := List.getElem?_eq_getElem (show k < l.length by rw [HL1.out.len]; exact hlt)
        have hx2 := List.getElem?_eq_getElem (show k < r.length by rw [HL2.out.len]; exact hlt)
        generalize l[k]'_ = a at hx1
        generalize r[k]'_ = b at hx2
        obtain ⟨g1, g2⟩ := take_snoc_eq HK.out hx1 hx2
        obtain ⟨p, off, hA1, -, c0⟩ := HL1.out.at' k a hx1
        obtain ⟨p', off', hA2, -, d0⟩ := HL2.out.at' k b hx2
        have hlt' : (k : Int) < (n : Int) := by omega
        clear hx1 hx2
        subst hA1 hA2
        by_cases hab : a = b
        · have HG := Lib.hid (g1 hab)
          subst hab
          clear g1 g2
          go_wp2_with fail
          go_quiet (fail)
          go_wp2
          go_roundw
          case rel => exact ⟨k + 1, _, by go_num, hlt, HG, rfl⟩
          case measure => simp [intOf]; omega
        · have HG : Hid (decide (l = r) = false) := Lib.hid (decide_eq_false (g2 hab))
          have e2 : (a == b) = false := beq_eq_false_iff_ne.2 hab
          clear g1 g2 hab
          go_wp2_with fail
          go_quiet (fail)
          go_wp2
          go_ret
          exact ⟨by rw [HG.out]; rfl, rfl, rfl, rfl, Nat.le_refl _, fun _ _ => rfl⟩
      · have hk : k = n := by omega
        have HG : Hid (decide (l = r) = true) := Lib.hid (decide_eq_true (by
          have h := HK.out
          rw [hk, List.take_of_length_le (by rw [HL1.out.len]; exact Nat.le_refl _), List.take_of_length_le (by rw [HL2.out.len]; exact Nat.le_refl _)] at h
          exact h))
        subst hk
        go_wp2_with fail
        go_ret
        exact ⟨by rw [HG.out]; rfl, rfl, rfl, rfl, Nat.le_refl _, fun _ _ => rfl⟩
end Go.Proofs.Ytiaajpfebcccfaa
