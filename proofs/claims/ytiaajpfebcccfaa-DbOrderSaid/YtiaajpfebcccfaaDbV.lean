/-
  What slices.SortFunc does with at most one key: nothing. Condition: the slice has at most one element.
-/
import Derived.Test.YtiaajpfebcccfaaDbU
namespace Go.Proofs.Ytiaajpfebcccfaa
open Go.RowKit Go.Maps
set_option maxRecDepth 100000

theorem len_small (w : World) (n : Nat) (hn : n ≤ 1) : Calls Try.prog 31 #[.int .u64 n] w fun e w' => ∃ v : Int, e = .returned (.int .i64 v) ∧ w = w' := by
  have h : n = 0 ∨ n = 1 := by omega
  have h64 : ∀ m : Nat, m = 0 ∨ m = 1 → Calls Try.prog 48 #[.int .u64 m] w fun e w' => ∃ v : Int, e = .returned (.int .i64 v) ∧ w = w' := by
    intro m hm
    rcases hm with rfl | rfl
    · go_enter Try.func48, Try.ntmps48
      go_wp2_with fail
      go_ret
      exact ⟨_, rfl, rfl⟩
    · go_enter Try.func48, Try.ntmps48
      go_wp2_with fail
      go_ret
      exact ⟨_, rfl, rfl⟩
  have H := Lib.hid (h64 n h)
  clear h64
  rcases h with rfl | rfl
  · go_enter Try.func31, Try.ntmps31
    go_wp2_with fail
    refine H.out.mono ?_
    rintro e w' ⟨v, rfl, rfl⟩
    go_wp2_with fail
    go_ret
    exact ⟨_, rfl, rfl⟩
  · go_enter Try.func31, Try.ntmps31
    go_wp2_with fail
    refine H.out.mono ?_
    rintro e w' ⟨v, rfl, rfl⟩
    go_wp2_with fail
    go_ret
    exact ⟨_, rfl, rfl⟩
theorem ins_small (w : World) (A : Option Addr) (n c : Nat) (hn : n ≤ 1) (f : Value) : Calls Try.prog 39 #[.slice A n c, .int .i64 0, .int .i64 n, f] w fun e w' => e = .returned (.tuple #[]) ∧ w = w' := by
  go_enter Try.func39, Try.ntmps39
  go_wp2_with fail
  go_loopw [8] (fun i u => i = .int .i64 1 ∧ u = w) (fun _ _ => 0)
  case atStart => exact ⟨rfl, rfl⟩
  case round =>
    obtain ⟨rfl, rfl⟩ := hrel
    have h1 : ¬ ((1 : Int) < (n : Int)) := by omega
    go_wp2_with fail
    go_end0
    exact ⟨rfl, rfl⟩
theorem pdq_small (w : World) (A : Option Addr) (n c : Nat) (hn : n ≤ 1) (v : Int) (f : Value) : Calls Try.prog 30 #[.slice A n c, .int .i64 0, .int .i64 n, .int .i64 v, f] w fun e w' => e = .returned (.tuple #[]) ∧ w = w' := by
  have H := Lib.hid (ins_small w A n c hn f)
  have h1 : (n : Int) ≤ 12 := by omega
  go_enter Try.func30, Try.ntmps30
  go_wp2_with fail
  go_loopw [1, 2] (fun a b u => a = .int .i64 0 ∧ b = .int .i64 n ∧ u = w) (fun _ _ _ => 0)
  case atStart => exact ⟨rfl, rfl, rfl⟩
  case round =>
    obtain ⟨rfl, rfl, rfl⟩ := hrel
    go_wp2_with fail
    refine H.out.mono ?_
    rintro e w' ⟨rfl, rfl⟩
    go_wp2_with fail
    exact bodyPost_ret (v := .tuple #[]) (by simp [results, Try.results30, go_sem]) rfl ⟨rfl, rfl⟩
theorem sort_small (w : World) (A : Option Addr) (n c : Nat) (hn : n ≤ 1) (f : Value) : Calls Try.prog 17 #[.slice A n c, f] w fun e w' => e = .returned (.tuple #[]) ∧ w = w' := by
  have H := Lib.hid fun v => pdq_small w A n c hn v f
  have H2 := Lib.hid (len_small w n hn)
  have h1 : (n : Int) ≤ 12 := by omega
  go_enter Try.func17, Try.ntmps17
  go_wp2_with fail
  refine H2.out.mono ?_
  rintro e w' ⟨v, rfl, rfl⟩
  go_wp2_with fail
  refine (H.out v).mono ?_
  rintro e w' ⟨rfl, rfl⟩
  go_wp2_with fail
  go_end0
  exact ⟨rfl, rfl⟩
end Go.Proofs.Ytiaajpfebcccfaa
