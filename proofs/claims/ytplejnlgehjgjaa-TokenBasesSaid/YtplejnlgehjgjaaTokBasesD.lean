/-
  What the closure of TokenBases answers: a number's digits in a base. Condition: the base is 10, 16, 8 or 2, the captured cell holds the number.
-/
import Derived.Test.YtplejnlgehjgjaaTokBasesP
import Derived.Test.YtplejnlgehjgjaaProg
import Derived.Test.YtplejnlgehjgjaaEsc
import Derived.LoopTactic
import Derived.Laws.DeepStrings4
namespace Go.Proofs.Ytplejnlgehjgjaa
open Go.RowKit
set_option maxRecDepth 100000

theorem digit_text : ∀ d, d < 16 → (⟨#[48, 49, 50, 51, 52, 53, 54, 55, 56, 57, 97, 98, 99, 100, 101, 102]⟩ : ByteArray).extract d (d + 1) = ⟨[hexDigit d].toArray⟩ := by
  intro d hd
  have := slice_mid [48, 49, 50, 51, 52, 53, 54, 55, 56, 57, 97, 98, 99, 100, 101, 102] d (d + 1)
  rw [show d + 1 - d = 1 by omega] at this
  refine this.trans ?_
  have h : ∀ d, d < 16 → (([48, 49, 50, 51, 52, 53, 54, 55, 56, 57, 97, 98, 99, 100, 101, 102] : List UInt8).drop d).take 1 = [hexDigit d] := by decide
  rw [h d hd]

theorem cat_one (c : UInt8) (l : List UInt8) : (⟨#[c]⟩ ++ ⟨l.toArray⟩ : ByteArray) = ⟨(c :: l).toArray⟩ := by
  apply ByteArray.ext
  simp

set_option maxHeartbeats 2000000 in
theorem digits_10 (w : World) (b n : Nat) (hb : w.cell? ⟨b, 0, none⟩ = some (.int .u32 (n : Int))) (hn : n < 4294967296) :
    Calls Try.prog 10 #[.int .u32 10, .pointer (some ⟨b, 0, none⟩)] w fun e w' => e = .returned (.string ⟨(digsB 10 n).toArray⟩) ∧ Below w.heap.size w w' := by
  generalize hD : digsB 10 n = D
  have HD := Lib.hid hD
  clear hD
  have H0 := Lib.hid hn
  go_enter Try.func10, Try.ntmps10
  go_wp2_with fail
  go_loopw [5, 4] (fun k s wr => ∃ (c nq : Nat) (l : List UInt8), c < 4294967296 ∧ k = .int .u32 c ∧ s = .string ⟨l.toArray⟩ ∧ l.length + c ≤ 4294967296 ∧ wr = w.drewN nq ∧ Hid (digsB 10 c ++ l = D)) (fun k _ _ => (intOf k).toNat)
  case atStart => exact ⟨n, 0, [], hn, rfl, rfl, by simp; omega, rfl, Lib.hid (by rw [List.append_nil]; exact HD.out)⟩
  case round =>
    obtain ⟨c, nq, l, hc, rfl, rfl, hl, rfl, hS⟩ := hrel
    have hs := digit_text (c % 10) (by omega)
    by_cases hlt : c < 10
    · have hlt' : (c : Int) < 10 := by omega
      have hS2 := hS.out
      rw [digsB_small hlt] at hS2
      have HS2 := Lib.hid hS2
      clear hS2 hS
      go_wp2_with fail
      go_quiet (fail)
      rw [cat_one, Nat.mod_eq_of_lt hlt]
      go_wp2_with fail
      go_ret
      refine ⟨?_, ?_⟩
      · rw [← HS2.out]; rfl
      · exact below_drewN (Below.refl _ _) _
    · have hlt' : 10 ≤ (c : Int) := by omega
      have hS2 := hS.out
      rw [digsB_step (by omega) hlt, List.append_assoc] at hS2
      have HS2 := Lib.hid hS2
      clear hS2 hS
      go_wp2_with fail
      go_quiet (fail)
      rw [cat_one]
      go_wp2_with fail
      go_roundw
      case rel => exact ⟨c / 10, _, hexDigit (c % 10) :: l, by omega, by go_num, rfl, by rw [List.length_cons]; omega, rfl, HS2⟩
      case measure => simp [intOf]; omega
set_option maxHeartbeats 2000000 in
theorem digits_16 (w : World) (b n : Nat) (hb : w.cell? ⟨b, 0, none⟩ = some (.int .u32 (n : Int))) (hn : n < 4294967296) :
    Calls Try.prog 10 #[.int .u32 16, .pointer (some ⟨b, 0, none⟩)] w fun e w' => e = .returned (.string ⟨(digsB 16 n).toArray⟩) ∧ Below w.heap.size w w' := by
  generalize hD : digsB 16 n = D
  have HD := Lib.hid hD
  clear hD
  have H0 := Lib.hid hn
  go_enter Try.func10, Try.ntmps10
  go_wp2_with fail
  go_loopw [5, 4] (fun k s wr => ∃ (c nq : Nat) (l : List UInt8), c < 4294967296 ∧ k = .int .u32 c ∧ s = .string ⟨l.toArray⟩ ∧ l.length + c ≤ 4294967296 ∧ wr = w.drewN nq ∧ Hid (digsB 16 c ++ l = D)) (fun k _ _ => (intOf k).toNat)
  case atStart => exact ⟨n, 0, [], hn, rfl, rfl, by simp; omega, rfl, Lib.hid (by rw [List.append_nil]; exact HD.out)⟩
  case round =>
    obtain ⟨c, nq, l, hc, rfl, rfl, hl, rfl, hS⟩ := hrel
    have hs := digit_text (c % 16) (by omega)
    by_cases hlt : c < 16
    · have hlt' : (c : Int) < 16 := by omega
      have hS2 := hS.out
      rw [digsB_small hlt] at hS2
      have HS2 := Lib.hid hS2
      clear hS2 hS
      go_wp2_with fail
      go_quiet (fail)
      rw [cat_one, Nat.mod_eq_of_lt hlt]
      go_wp2_with fail
      go_ret
      refine ⟨?_, ?_⟩
      · rw [← HS2.out]; rfl
      · exact below_drewN (Below.refl _ _) _
    · have hlt' : 16 ≤ (c : Int) := by omega
      have hS2 := hS.out
      rw [digsB_step (by omega) hlt, List.append_assoc] at hS2
      have HS2 := Lib.hid hS2
      clear hS2 hS
      go_wp2_with fail
      go_quiet (fail)
      rw [cat_one]
      go_wp2_with fail
      go_roundw
      case rel => exact ⟨c / 16, _, hexDigit (c % 16) :: l, by omega, by go_num, rfl, by rw [List.length_cons]; omega, rfl, HS2⟩
      case measure => simp [intOf]; omega
set_option maxHeartbeats 2000000 in
theorem digits_8 (w : World) (b n : Nat) (hb : w.cell? ⟨b, 0, none⟩ = some (.int .u32 (n : Int))) (hn : n < 4294967296) :
    Calls Try.prog 10 #[.int .u32 8, .pointer (some ⟨b, 0, none⟩)] w fun e w' => e = .returned (.string ⟨(digsB 8 n).toArray⟩) ∧ Below w.heap.size w w' := by
  generalize hD : digsB 8 n = D
  have HD := Lib.hid hD
  clear hD
  have H0 := Lib.hid hn
  go_enter Try.func10, Try.ntmps10
  go_wp2_with fail
  go_loopw [5, 4] (fun k s wr => ∃ (c nq : Nat) (l : List UInt8), c < 4294967296 ∧ k = .int .u32 c ∧ s = .string ⟨l.toArray⟩ ∧ l.length + c ≤ 4294967296 ∧ wr = w.drewN nq ∧ Hid (digsB 8 c ++ l = D)) (fun k _ _ => (intOf k).toNat)
  case atStart => exact ⟨n, 0, [], hn, rfl, rfl, by simp; omega, rfl, Lib.hid (by rw [List.append_nil]; exact HD.out)⟩
  case round =>
    obtain ⟨c, nq, l, hc, rfl, rfl, hl, rfl, hS⟩ := hrel
    have hs := digit_text (c % 8) (by omega)
    by_cases hlt : c < 8
    · have hlt' : (c : Int) < 8 := by omega
      have hS2 := hS.out
      rw [digsB_small hlt] at hS2
      have HS2 := Lib.hid hS2
      clear hS2 hS
      go_wp2_with fail
      go_quiet (fail)
      rw [cat_one, Nat.mod_eq_of_lt hlt]
      go_wp2_with fail
      go_ret
      refine ⟨?_, ?_⟩
      · rw [← HS2.out]; rfl
      · exact below_drewN (Below.refl _ _) _
    · have hlt' : 8 ≤ (c : Int) := by omega
      have hS2 := hS.out
      rw [digsB_step (by omega) hlt, List.append_assoc] at hS2
      have HS2 := Lib.hid hS2
      clear hS2 hS
      go_wp2_with fail
      go_quiet (fail)
      rw [cat_one]
      go_wp2_with fail
      go_roundw
      case rel => exact ⟨c / 8, _, hexDigit (c % 8) :: l, by omega, by go_num, rfl, by rw [List.length_cons]; omega, rfl, HS2⟩
      case measure => simp [intOf]; omega
set_option maxHeartbeats 2000000 in
theorem digits_2 (w : World) (b n : Nat) (hb : w.cell? ⟨b, 0, none⟩ = some (.int .u32 (n : Int))) (hn : n < 4294967296) :
    Calls Try.prog 10 #[.int .u32 2, .pointer (some ⟨b, 0, none⟩)] w fun e w' => e = .returned (.string ⟨(digsB 2 n).toArray⟩) ∧ Below w.heap.size w w' := by
  generalize hD : digsB 2 n = D
  have HD := Lib.hid hD
  clear hD
  have H0 := Lib.hid hn
  go_enter Try.func10, Try.ntmps10
  go_wp2_with fail
  go_loopw [5, 4] (fun k s wr => ∃ (c nq : Nat) (l : List UInt8), c < 4294967296 ∧ k = .int .u32 c ∧ s = .string ⟨l.toArray⟩ ∧ l.length + c ≤ 4294967296 ∧ wr = w.drewN nq ∧ Hid (digsB 2 c ++ l = D)) (fun k _ _ => (intOf k).toNat)
  case atStart => exact ⟨n, 0, [], hn, rfl, rfl, by simp; omega, rfl, Lib.hid (by rw [List.append_nil]; exact HD.out)⟩
  case round =>
    obtain ⟨c, nq, l, hc, rfl, rfl, hl, rfl, hS⟩ := hrel
    have hs := digit_text (c % 2) (by omega)
    by_cases hlt : c < 2
    · have hlt' : (c : Int) < 2 := by omega
      have hS2 := hS.out
      rw [digsB_small hlt] at hS2
      have HS2 := Lib.hid hS2
      clear hS2 hS
      go_wp2_with fail
      go_quiet (fail)
      rw [cat_one, Nat.mod_eq_of_lt hlt]
      go_wp2_with fail
      go_ret
      refine ⟨?_, ?_⟩
      · rw [← HS2.out]; rfl
      · exact below_drewN (Below.refl _ _) _
    · have hlt' : 2 ≤ (c : Int) := by omega
      have hS2 := hS.out
      rw [digsB_step (by omega) hlt, List.append_assoc] at hS2
      have HS2 := Lib.hid hS2
      clear hS2 hS
      go_wp2_with fail
      go_quiet (fail)
      rw [cat_one]
      go_wp2_with fail
      go_roundw
      case rel => exact ⟨c / 2, _, hexDigit (c % 2) :: l, by omega, by go_num, rfl, by rw [List.length_cons]; omega, rfl, HS2⟩
      case measure => simp [intOf]; omega
end Go.Proofs.Ytplejnlgehjgjaa
