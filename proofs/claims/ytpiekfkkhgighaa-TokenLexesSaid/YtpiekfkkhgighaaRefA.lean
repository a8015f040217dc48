/-
  What the document's own functions answer: a byte's sort, a digit. No condition but the sizes that are named.
-/
import Derived.Test.YtpiekfkkhgighaaNameA
import Derived.LoopTactic
namespace Go.Proofs.Ytpiekfkkhgighaa
open Go.RowKit
set_option maxRecDepth 100000

set_option maxHeartbeats 1000000 in
theorem in_any (w : World) (c : UInt8) (l : List UInt8) (hl : (l.length : Int) ≤ 1000000) :
    Calls Try.prog 73 #[.int .u8 (c.toNat : Int), .string ⟨l.toArray⟩] w fun e w' => e = .returned (.bool (decide (c ∈ l))) ∧ w = w' := by
  go_enter Try.func73, Try.ntmps73
  go_wp2_with fail
  go_loop [5] (fun i => ∃ k : Nat, k ≤ l.length ∧ i = .int .i64 k ∧ Hid (c ∉ l.take k)) (fun i => l.length - (intOf i).toNat)
  case atStart => exact ⟨0, Nat.zero_le _, rfl, Lib.hid (by simp)⟩
  case round =>
    obtain ⟨k, hk, rfl, HN⟩ := hrel
    by_cases hlt : k < l.length
    · obtain ⟨d, hd, hx, hg⟩ := byte_at l k hlt
      have HG := Lib.hid hg
      have hlt' : (k : Int) < (l.length : Int) := by omega
      clear hd hg
      by_cases hdc : d = c
      · subst hdc
        have hm := Lib.hid (decide_eq_true (List.mem_of_getElem? HG.out))
        go_wp2_with fail
        go_ret
        exact ⟨by rw [hm.out]; rfl, rfl⟩
      · have t := byte_ne hdc
        have HN2 : Hid (c ∉ l.take (k + 1)) := Lib.hid (by
          obtain ⟨h1, h2⟩ := List.getElem?_eq_some_iff.1 HG.out
          rw [List.take_succ_eq_append_getElem h1, List.mem_append, List.mem_singleton, h2]
          rintro (h | h)
          · exact HN.out h
          · exact hdc h.symm)
        clear HN hdc
        go_wp2_with fail
        go_round
        case rel => exact ⟨k + 1, hlt, by go_num, HN2⟩
        case measure => simp [intOf]; omega
    · have hkn : k = l.length := by omega
      have hn := HN.out
      rw [hkn, List.take_length] at hn
      have hm := Lib.hid (decide_eq_false hn)
      clear hn
      go_wp2_with fail
      go_ret
      exact ⟨by rw [hm.out]; rfl, rfl⟩

theorem in5 (c : UInt8) : decide (c ∈ ([43, 45, 42, 47, 92, 94, 60, 62, 61, 126, 58, 46, 63, 64, 35, 38, 36] : List UInt8)) = decide (bsort c = 5) :=
  beq_iff_eq.1 (u8_all (fun c => decide (c ∈ ([43, 45, 42, 47, 92, 94, 60, 62, 61, 126, 58, 46, 63, 64, 35, 38, 36] : List UInt8)) == decide (bsort c = 5)) (by decide +kernel) c)
theorem in6 (c : UInt8) : decide (c ∈ ([33, 59] : List UInt8)) = decide (bsort c = 6) :=
  beq_iff_eq.1 (u8_all (fun c => decide (c ∈ ([33, 59] : List UInt8)) == decide (bsort c = 6)) (by decide +kernel) c)
theorem in7 (c : UInt8) : decide (c ∈ ([40, 41, 91, 93, 123, 125, 44, 124, 37] : List UInt8)) = decide (bsort c = 7) :=
  beq_iff_eq.1 (u8_all (fun c => decide (c ∈ ([40, 41, 91, 93, 123, 125, 44, 124, 37] : List UInt8)) == decide (bsort c = 7)) (by decide +kernel) c)
theorem in8 (c : UInt8) : decide (c ∈ ([39, 34, 96] : List UInt8)) = decide (bsort c = 8) :=
  beq_iff_eq.1 (u8_all (fun c => decide (c ∈ ([39, 34, 96] : List UInt8)) == decide (bsort c = 8)) (by decide +kernel) c)
/-- Where a byte of a sort lies. -/
def SortAt (c : UInt8) : Prop := ((9 ≤ c.toNat ∧ c.toNat ≤ 13) ∧ bsort c = 1) ∨ (c.toNat = 32 ∧ bsort c = 1) ∨ ((97 ≤ c.toNat ∧ c.toNat ≤ 122) ∧ bsort c = 2) ∨ ((65 ≤ c.toNat ∧ c.toNat ≤ 90) ∧ bsort c = 3) ∨ (c.toNat = 95 ∧ bsort c = 3) ∨ ((48 ≤ c.toNat ∧ c.toNat ≤ 57) ∧ bsort c = 4) ∨
    ((c.toNat < 9 ∨ (14 ≤ c.toNat ∧ c.toNat < 32) ∨ (33 ≤ c.toNat ∧ c.toNat < 48) ∨ (58 ≤ c.toNat ∧ c.toNat < 65) ∨ (91 ≤ c.toNat ∧ c.toNat < 95) ∨ c.toNat = 96 ∨ 123 ≤ c.toNat) ∧ (bsort c = 0 ∨ bsort c = 5 ∨ bsort c = 6 ∨ bsort c = 7 ∨ bsort c = 8))
instance (c : UInt8) : Decidable (SortAt c) := by unfold SortAt; infer_instance
theorem sort_where (c : UInt8) : SortAt c := of_decide_eq_true (u8_all (fun c => decide (SortAt c)) (by decide +kernel) c)

/-- What the four tests by texts answer of a byte of that sort. -/
structure InAt (n : Nat) (k : Int) (w : World) : Prop where
  i5 : Calls Try.prog 73 #[.int .u8 (n : Int), .string ⟨#[43, 45, 42, 47, 92, 94, 60, 62, 61, 126, 58, 46, 63, 64, 35, 38, 36]⟩] w fun e w' => e = .returned (.bool (decide (k = 5))) ∧ w = w'
  i6 : Calls Try.prog 73 #[.int .u8 (n : Int), .string ⟨#[33, 59]⟩] w fun e w' => e = .returned (.bool (decide (k = 6))) ∧ w = w'
  i7 : Calls Try.prog 73 #[.int .u8 (n : Int), .string ⟨#[40, 41, 91, 93, 123, 125, 44, 124, 37]⟩] w fun e w' => e = .returned (.bool (decide (k = 7))) ∧ w = w'
  i8 : Calls Try.prog 73 #[.int .u8 (n : Int), .string ⟨#[39, 34, 96]⟩] w fun e w' => e = .returned (.bool (decide (k = 8))) ∧ w = w'
theorem inAt (w : World) (c : UInt8) : InAt c.toNat (bsort c) w := by
  have I5 := in_any w c [43, 45, 42, 47, 92, 94, 60, 62, 61, 126, 58, 46, 63, 64, 35, 38, 36] (by decide)
  have I6 := in_any w c [33, 59] (by decide)
  have I7 := in_any w c [40, 41, 91, 93, 123, 125, 44, 124, 37] (by decide)
  have I8 := in_any w c [39, 34, 96] (by decide)
  rw [in5] at I5
  rw [in6] at I6
  rw [in7] at I7
  rw [in8] at I8
  exact ⟨I5, I6, I7, I8⟩
set_option maxHeartbeats 1000000 in
theorem rsort_0 (w : World) (n : Nat) (k : Int) (hs : k = 0 ∨ k = 5 ∨ k = 6 ∨ k = 7 ∨ k = 8) (J : Hid (InAt n k w)) (h0 : 0 ≤ n) (h1 : n ≤ 8) : Calls Try.prog 49 #[.int .u8 (n : Int)] w fun e w' => e = .returned (.int .i64 k) ∧ w = w' := by
  have t0 : decide (9 ≤ (n : Int)) = false := decide_eq_false (by omega)
  have t1 : decide ((n : Int) ≤ 13) = true := decide_eq_true (by omega)
  have t2 : ((n : Int) == 32) = false := by rw [beq_eq_false_iff_ne]; omega
  have t3 : decide (97 ≤ (n : Int)) = false := decide_eq_false (by omega)
  have t4 : decide ((n : Int) ≤ 122) = true := decide_eq_true (by omega)
  have t5 : decide (65 ≤ (n : Int)) = false := decide_eq_false (by omega)
  have t6 : decide ((n : Int) ≤ 90) = true := decide_eq_true (by omega)
  have t7 : ((n : Int) == 95) = false := by rw [beq_eq_false_iff_ne]; omega
  have t8 : decide (48 ≤ (n : Int)) = false := decide_eq_false (by omega)
  have t9 : decide ((n : Int) ≤ 57) = true := decide_eq_true (by omega)
  clear h0 h1
  go_enter Try.func49, Try.ntmps49
  go_wp2_with fail
  refine J.out.i5.mono ?_
  rintro e w' ⟨rfl, rfl⟩
  by_cases e5 : k = 5
  · subst e5
    go_wp2_with fail
    go_ret
    exact ⟨rfl, rfl⟩
  rw [decide_eq_false e5]
  go_wp2_with fail
  refine J.out.i6.mono ?_
  rintro e w' ⟨rfl, rfl⟩
  by_cases e6 : k = 6
  · subst e6
    go_wp2_with fail
    go_ret
    exact ⟨rfl, rfl⟩
  rw [decide_eq_false e6]
  go_wp2_with fail
  refine J.out.i7.mono ?_
  rintro e w' ⟨rfl, rfl⟩
  by_cases e7 : k = 7
  · subst e7
    go_wp2_with fail
    go_ret
    exact ⟨rfl, rfl⟩
  rw [decide_eq_false e7]
  go_wp2_with fail
  refine J.out.i8.mono ?_
  rintro e w' ⟨rfl, rfl⟩
  by_cases e8 : k = 8
  · subst e8
    go_wp2_with fail
    go_ret
    exact ⟨rfl, rfl⟩
  rw [decide_eq_false e8]
  obtain rfl : k = 0 := by omega
  go_wp2_with fail
  go_ret
  exact ⟨rfl, rfl⟩
set_option maxHeartbeats 1000000 in
theorem rsort_1 (w : World) (n : Nat) (h0 : 9 ≤ n) (h1 : n ≤ 13) : Calls Try.prog 49 #[.int .u8 (n : Int)] w fun e w' => e = .returned (.int .i64 1) ∧ w = w' := by
  have t0 : decide (9 ≤ (n : Int)) = true := decide_eq_true (by omega)
  have t1 : decide ((n : Int) ≤ 13) = true := decide_eq_true (by omega)
  have t2 : ((n : Int) == 32) = false := by rw [beq_eq_false_iff_ne]; omega
  have t3 : decide (97 ≤ (n : Int)) = false := decide_eq_false (by omega)
  have t4 : decide ((n : Int) ≤ 122) = true := decide_eq_true (by omega)
  have t5 : decide (65 ≤ (n : Int)) = false := decide_eq_false (by omega)
  have t6 : decide ((n : Int) ≤ 90) = true := decide_eq_true (by omega)
  have t7 : ((n : Int) == 95) = false := by rw [beq_eq_false_iff_ne]; omega
  have t8 : decide (48 ≤ (n : Int)) = false := decide_eq_false (by omega)
  have t9 : decide ((n : Int) ≤ 57) = true := decide_eq_true (by omega)
  clear h0 h1
  go_enter Try.func49, Try.ntmps49
  go_wp2_with fail
  go_ret
  exact ⟨rfl, rfl⟩
set_option maxHeartbeats 1000000 in
theorem rsort_2 (w : World) (n : Nat) (k : Int) (hs : k = 0 ∨ k = 5 ∨ k = 6 ∨ k = 7 ∨ k = 8) (J : Hid (InAt n k w)) (h0 : 14 ≤ n) (h1 : n ≤ 31) : Calls Try.prog 49 #[.int .u8 (n : Int)] w fun e w' => e = .returned (.int .i64 k) ∧ w = w' := by
  have t0 : decide (9 ≤ (n : Int)) = true := decide_eq_true (by omega)
  have t1 : decide ((n : Int) ≤ 13) = false := decide_eq_false (by omega)
  have t2 : ((n : Int) == 32) = false := by rw [beq_eq_false_iff_ne]; omega
  have t3 : decide (97 ≤ (n : Int)) = false := decide_eq_false (by omega)
  have t4 : decide ((n : Int) ≤ 122) = true := decide_eq_true (by omega)
  have t5 : decide (65 ≤ (n : Int)) = false := decide_eq_false (by omega)
  have t6 : decide ((n : Int) ≤ 90) = true := decide_eq_true (by omega)
  have t7 : ((n : Int) == 95) = false := by rw [beq_eq_false_iff_ne]; omega
  have t8 : decide (48 ≤ (n : Int)) = false := decide_eq_false (by omega)
  have t9 : decide ((n : Int) ≤ 57) = true := decide_eq_true (by omega)
  clear h0 h1
  go_enter Try.func49, Try.ntmps49
  go_wp2_with fail
  refine J.out.i5.mono ?_
  rintro e w' ⟨rfl, rfl⟩
  by_cases e5 : k = 5
  · subst e5
    go_wp2_with fail
    go_ret
    exact ⟨rfl, rfl⟩
  rw [decide_eq_false e5]
  go_wp2_with fail
  refine J.out.i6.mono ?_
  rintro e w' ⟨rfl, rfl⟩
  by_cases e6 : k = 6
  · subst e6
    go_wp2_with fail
    go_ret
    exact ⟨rfl, rfl⟩
  rw [decide_eq_false e6]
  go_wp2_with fail
  refine J.out.i7.mono ?_
  rintro e w' ⟨rfl, rfl⟩
  by_cases e7 : k = 7
  · subst e7
    go_wp2_with fail
    go_ret
    exact ⟨rfl, rfl⟩
  rw [decide_eq_false e7]
  go_wp2_with fail
  refine J.out.i8.mono ?_
  rintro e w' ⟨rfl, rfl⟩
  by_cases e8 : k = 8
  · subst e8
    go_wp2_with fail
    go_ret
    exact ⟨rfl, rfl⟩
  rw [decide_eq_false e8]
  obtain rfl : k = 0 := by omega
  go_wp2_with fail
  go_ret
  exact ⟨rfl, rfl⟩
set_option maxHeartbeats 1000000 in
theorem rsort_3 (w : World) (n : Nat) (h0 : 32 ≤ n) (h1 : n ≤ 32) : Calls Try.prog 49 #[.int .u8 (n : Int)] w fun e w' => e = .returned (.int .i64 1) ∧ w = w' := by
  have t0 : decide (9 ≤ (n : Int)) = true := decide_eq_true (by omega)
  have t1 : decide ((n : Int) ≤ 13) = false := decide_eq_false (by omega)
  have t2 : ((n : Int) == 32) = true := by rw [beq_iff_eq]; omega
  have t3 : decide (97 ≤ (n : Int)) = false := decide_eq_false (by omega)
  have t4 : decide ((n : Int) ≤ 122) = true := decide_eq_true (by omega)
  have t5 : decide (65 ≤ (n : Int)) = false := decide_eq_false (by omega)
  have t6 : decide ((n : Int) ≤ 90) = true := decide_eq_true (by omega)
  have t7 : ((n : Int) == 95) = false := by rw [beq_eq_false_iff_ne]; omega
  have t8 : decide (48 ≤ (n : Int)) = false := decide_eq_false (by omega)
  have t9 : decide ((n : Int) ≤ 57) = true := decide_eq_true (by omega)
  clear h0 h1
  go_enter Try.func49, Try.ntmps49
  go_wp2_with fail
  go_ret
  exact ⟨rfl, rfl⟩
set_option maxHeartbeats 1000000 in
theorem rsort_4 (w : World) (n : Nat) (k : Int) (hs : k = 0 ∨ k = 5 ∨ k = 6 ∨ k = 7 ∨ k = 8) (J : Hid (InAt n k w)) (h0 : 33 ≤ n) (h1 : n ≤ 47) : Calls Try.prog 49 #[.int .u8 (n : Int)] w fun e w' => e = .returned (.int .i64 k) ∧ w = w' := by
  have t0 : decide (9 ≤ (n : Int)) = true := decide_eq_true (by omega)
  have t1 : decide ((n : Int) ≤ 13) = false := decide_eq_false (by omega)
  have t2 : ((n : Int) == 32) = false := by rw [beq_eq_false_iff_ne]; omega
  have t3 : decide (97 ≤ (n : Int)) = false := decide_eq_false (by omega)
  have t4 : decide ((n : Int) ≤ 122) = true := decide_eq_true (by omega)
  have t5 : decide (65 ≤ (n : Int)) = false := decide_eq_false (by omega)
  have t6 : decide ((n : Int) ≤ 90) = true := decide_eq_true (by omega)
  have t7 : ((n : Int) == 95) = false := by rw [beq_eq_false_iff_ne]; omega
  have t8 : decide (48 ≤ (n : Int)) = false := decide_eq_false (by omega)
  have t9 : decide ((n : Int) ≤ 57) = true := decide_eq_true (by omega)
  clear h0 h1
  go_enter Try.func49, Try.ntmps49
  go_wp2_with fail
  refine J.out.i5.mono ?_
  rintro e w' ⟨rfl, rfl⟩
  by_cases e5 : k = 5
  · subst e5
    go_wp2_with fail
    go_ret
    exact ⟨rfl, rfl⟩
  rw [decide_eq_false e5]
  go_wp2_with fail
  refine J.out.i6.mono ?_
  rintro e w' ⟨rfl, rfl⟩
  by_cases e6 : k = 6
  · subst e6
    go_wp2_with fail
    go_ret
    exact ⟨rfl, rfl⟩
  rw [decide_eq_false e6]
  go_wp2_with fail
  refine J.out.i7.mono ?_
  rintro e w' ⟨rfl, rfl⟩
  by_cases e7 : k = 7
  · subst e7
    go_wp2_with fail
    go_ret
    exact ⟨rfl, rfl⟩
  rw [decide_eq_false e7]
  go_wp2_with fail
  refine J.out.i8.mono ?_
  rintro e w' ⟨rfl, rfl⟩
  by_cases e8 : k = 8
  · subst e8
    go_wp2_with fail
    go_ret
    exact ⟨rfl, rfl⟩
  rw [decide_eq_false e8]
  obtain rfl : k = 0 := by omega
  go_wp2_with fail
  go_ret
  exact ⟨rfl, rfl⟩
set_option maxHeartbeats 1000000 in
theorem rsort_5 (w : World) (n : Nat) (h0 : 48 ≤ n) (h1 : n ≤ 57) : Calls Try.prog 49 #[.int .u8 (n : Int)] w fun e w' => e = .returned (.int .i64 4) ∧ w = w' := by
  have t0 : decide (9 ≤ (n : Int)) = true := decide_eq_true (by omega)
  have t1 : decide ((n : Int) ≤ 13) = false := decide_eq_false (by omega)
  have t2 : ((n : Int) == 32) = false := by rw [beq_eq_false_iff_ne]; omega
  have t3 : decide (97 ≤ (n : Int)) = false := decide_eq_false (by omega)
  have t4 : decide ((n : Int) ≤ 122) = true := decide_eq_true (by omega)
  have t5 : decide (65 ≤ (n : Int)) = false := decide_eq_false (by omega)
  have t6 : decide ((n : Int) ≤ 90) = true := decide_eq_true (by omega)
  have t7 : ((n : Int) == 95) = false := by rw [beq_eq_false_iff_ne]; omega
  have t8 : decide (48 ≤ (n : Int)) = true := decide_eq_true (by omega)
  have t9 : decide ((n : Int) ≤ 57) = true := decide_eq_true (by omega)
  clear h0 h1
  go_enter Try.func49, Try.ntmps49
  go_wp2_with fail
  go_ret
  exact ⟨rfl, rfl⟩
set_option maxHeartbeats 1000000 in
theorem rsort_6 (w : World) (n : Nat) (k : Int) (hs : k = 0 ∨ k = 5 ∨ k = 6 ∨ k = 7 ∨ k = 8) (J : Hid (InAt n k w)) (h0 : 58 ≤ n) (h1 : n ≤ 64) : Calls Try.prog 49 #[.int .u8 (n : Int)] w fun e w' => e = .returned (.int .i64 k) ∧ w = w' := by
  have t0 : decide (9 ≤ (n : Int)) = true := decide_eq_true (by omega)
  have t1 : decide ((n : Int) ≤ 13) = false := decide_eq_false (by omega)
  have t2 : ((n : Int) == 32) = false := by rw [beq_eq_false_iff_ne]; omega
  have t3 : decide (97 ≤ (n : Int)) = false := decide_eq_false (by omega)
  have t4 : decide ((n : Int) ≤ 122) = true := decide_eq_true (by omega)
  have t5 : decide (65 ≤ (n : Int)) = false := decide_eq_false (by omega)
  have t6 : decide ((n : Int) ≤ 90) = true := decide_eq_true (by omega)
  have t7 : ((n : Int) == 95) = false := by rw [beq_eq_false_iff_ne]; omega
  have t8 : decide (48 ≤ (n : Int)) = true := decide_eq_true (by omega)
  have t9 : decide ((n : Int) ≤ 57) = false := decide_eq_false (by omega)
  clear h0 h1
  go_enter Try.func49, Try.ntmps49
  go_wp2_with fail
  refine J.out.i5.mono ?_
  rintro e w' ⟨rfl, rfl⟩
  by_cases e5 : k = 5
  · subst e5
    go_wp2_with fail
    go_ret
    exact ⟨rfl, rfl⟩
  rw [decide_eq_false e5]
  go_wp2_with fail
  refine J.out.i6.mono ?_
  rintro e w' ⟨rfl, rfl⟩
  by_cases e6 : k = 6
  · subst e6
    go_wp2_with fail
    go_ret
    exact ⟨rfl, rfl⟩
  rw [decide_eq_false e6]
  go_wp2_with fail
  refine J.out.i7.mono ?_
  rintro e w' ⟨rfl, rfl⟩
  by_cases e7 : k = 7
  · subst e7
    go_wp2_with fail
    go_ret
    exact ⟨rfl, rfl⟩
  rw [decide_eq_false e7]
  go_wp2_with fail
  refine J.out.i8.mono ?_
  rintro e w' ⟨rfl, rfl⟩
  by_cases e8 : k = 8
  · subst e8
    go_wp2_with fail
    go_ret
    exact ⟨rfl, rfl⟩
  rw [decide_eq_false e8]
  obtain rfl : k = 0 := by omega
  go_wp2_with fail
  go_ret
  exact ⟨rfl, rfl⟩
set_option maxHeartbeats 1000000 in
theorem rsort_7 (w : World) (n : Nat) (h0 : 65 ≤ n) (h1 : n ≤ 90) : Calls Try.prog 49 #[.int .u8 (n : Int)] w fun e w' => e = .returned (.int .i64 3) ∧ w = w' := by
  have t0 : decide (9 ≤ (n : Int)) = true := decide_eq_true (by omega)
  have t1 : decide ((n : Int) ≤ 13) = false := decide_eq_false (by omega)
  have t2 : ((n : Int) == 32) = false := by rw [beq_eq_false_iff_ne]; omega
  have t3 : decide (97 ≤ (n : Int)) = false := decide_eq_false (by omega)
  have t4 : decide ((n : Int) ≤ 122) = true := decide_eq_true (by omega)
  have t5 : decide (65 ≤ (n : Int)) = true := decide_eq_true (by omega)
  have t6 : decide ((n : Int) ≤ 90) = true := decide_eq_true (by omega)
  have t7 : ((n : Int) == 95) = false := by rw [beq_eq_false_iff_ne]; omega
  have t8 : decide (48 ≤ (n : Int)) = true := decide_eq_true (by omega)
  have t9 : decide ((n : Int) ≤ 57) = false := decide_eq_false (by omega)
  clear h0 h1
  go_enter Try.func49, Try.ntmps49
  go_wp2_with fail
  go_ret
  exact ⟨rfl, rfl⟩
set_option maxHeartbeats 1000000 in
theorem rsort_8 (w : World) (n : Nat) (k : Int) (hs : k = 0 ∨ k = 5 ∨ k = 6 ∨ k = 7 ∨ k = 8) (J : Hid (InAt n k w)) (h0 : 91 ≤ n) (h1 : n ≤ 94) : Calls Try.prog 49 #[.int .u8 (n : Int)] w fun e w' => e = .returned (.int .i64 k) ∧ w = w' := by
  have t0 : decide (9 ≤ (n : Int)) = true := decide_eq_true (by omega)
  have t1 : decide ((n : Int) ≤ 13) = false := decide_eq_false (by omega)
  have t2 : ((n : Int) == 32) = false := by rw [beq_eq_false_iff_ne]; omega
  have t3 : decide (97 ≤ (n : Int)) = false := decide_eq_false (by omega)
  have t4 : decide ((n : Int) ≤ 122) = true := decide_eq_true (by omega)
  have t5 : decide (65 ≤ (n : Int)) = true := decide_eq_true (by omega)
  have t6 : decide ((n : Int) ≤ 90) = false := decide_eq_false (by omega)
  have t7 : ((n : Int) == 95) = false := by rw [beq_eq_false_iff_ne]; omega
  have t8 : decide (48 ≤ (n : Int)) = true := decide_eq_true (by omega)
  have t9 : decide ((n : Int) ≤ 57) = false := decide_eq_false (by omega)
  clear h0 h1
  go_enter Try.func49, Try.ntmps49
  go_wp2_with fail
  refine J.out.i5.mono ?_
  rintro e w' ⟨rfl, rfl⟩
  by_cases e5 : k = 5
  · subst e5
    go_wp2_with fail
    go_ret
    exact ⟨rfl, rfl⟩
  rw [decide_eq_false e5]
  go_wp2_with fail
  refine J.out.i6.mono ?_
  rintro e w' ⟨rfl, rfl⟩
  by_cases e6 : k = 6
  · subst e6
    go_wp2_with fail
    go_ret
    exact ⟨rfl, rfl⟩
  rw [decide_eq_false e6]
  go_wp2_with fail
  refine J.out.i7.mono ?_
  rintro e w' ⟨rfl, rfl⟩
  by_cases e7 : k = 7
  · subst e7
    go_wp2_with fail
    go_ret
    exact ⟨rfl, rfl⟩
  rw [decide_eq_false e7]
  go_wp2_with fail
  refine J.out.i8.mono ?_
  rintro e w' ⟨rfl, rfl⟩
  by_cases e8 : k = 8
  · subst e8
    go_wp2_with fail
    go_ret
    exact ⟨rfl, rfl⟩
  rw [decide_eq_false e8]
  obtain rfl : k = 0 := by omega
  go_wp2_with fail
  go_ret
  exact ⟨rfl, rfl⟩
set_option maxHeartbeats 1000000 in
theorem rsort_9 (w : World) (n : Nat) (h0 : 95 ≤ n) (h1 : n ≤ 95) : Calls Try.prog 49 #[.int .u8 (n : Int)] w fun e w' => e = .returned (.int .i64 3) ∧ w = w' := by
  have t0 : decide (9 ≤ (n : Int)) = true := decide_eq_true (by omega)
  have t1 : decide ((n : Int) ≤ 13) = false := decide_eq_false (by omega)
  have t2 : ((n : Int) == 32) = false := by rw [beq_eq_false_iff_ne]; omega
  have t3 : decide (97 ≤ (n : Int)) = false := decide_eq_false (by omega)
  have t4 : decide ((n : Int) ≤ 122) = true := decide_eq_true (by omega)
  have t5 : decide (65 ≤ (n : Int)) = true := decide_eq_true (by omega)
  have t6 : decide ((n : Int) ≤ 90) = false := decide_eq_false (by omega)
  have t7 : ((n : Int) == 95) = true := by rw [beq_iff_eq]; omega
  have t8 : decide (48 ≤ (n : Int)) = true := decide_eq_true (by omega)
  have t9 : decide ((n : Int) ≤ 57) = false := decide_eq_false (by omega)
  clear h0 h1
  go_enter Try.func49, Try.ntmps49
  go_wp2_with fail
  go_ret
  exact ⟨rfl, rfl⟩
set_option maxHeartbeats 1000000 in
theorem rsort_10 (w : World) (n : Nat) (k : Int) (hs : k = 0 ∨ k = 5 ∨ k = 6 ∨ k = 7 ∨ k = 8) (J : Hid (InAt n k w)) (h0 : 96 ≤ n) (h1 : n ≤ 96) : Calls Try.prog 49 #[.int .u8 (n : Int)] w fun e w' => e = .returned (.int .i64 k) ∧ w = w' := by
  have t0 : decide (9 ≤ (n : Int)) = true := decide_eq_true (by omega)
  have t1 : decide ((n : Int) ≤ 13) = false := decide_eq_false (by omega)
  have t2 : ((n : Int) == 32) = false := by rw [beq_eq_false_iff_ne]; omega
  have t3 : decide (97 ≤ (n : Int)) = false := decide_eq_false (by omega)
  have t4 : decide ((n : Int) ≤ 122) = true := decide_eq_true (by omega)
  have t5 : decide (65 ≤ (n : Int)) = true := decide_eq_true (by omega)
  have t6 : decide ((n : Int) ≤ 90) = false := decide_eq_false (by omega)
  have t7 : ((n : Int) == 95) = false := by rw [beq_eq_false_iff_ne]; omega
  have t8 : decide (48 ≤ (n : Int)) = true := decide_eq_true (by omega)
  have t9 : decide ((n : Int) ≤ 57) = false := decide_eq_false (by omega)
  clear h0 h1
  go_enter Try.func49, Try.ntmps49
  go_wp2_with fail
  refine J.out.i5.mono ?_
  rintro e w' ⟨rfl, rfl⟩
  by_cases e5 : k = 5
  · subst e5
    go_wp2_with fail
    go_ret
    exact ⟨rfl, rfl⟩
  rw [decide_eq_false e5]
  go_wp2_with fail
  refine J.out.i6.mono ?_
  rintro e w' ⟨rfl, rfl⟩
  by_cases e6 : k = 6
  · subst e6
    go_wp2_with fail
    go_ret
    exact ⟨rfl, rfl⟩
  rw [decide_eq_false e6]
  go_wp2_with fail
  refine J.out.i7.mono ?_
  rintro e w' ⟨rfl, rfl⟩
  by_cases e7 : k = 7
  · subst e7
    go_wp2_with fail
    go_ret
    exact ⟨rfl, rfl⟩
  rw [decide_eq_false e7]
  go_wp2_with fail
  refine J.out.i8.mono ?_
  rintro e w' ⟨rfl, rfl⟩
  by_cases e8 : k = 8
  · subst e8
    go_wp2_with fail
    go_ret
    exact ⟨rfl, rfl⟩
  rw [decide_eq_false e8]
  obtain rfl : k = 0 := by omega
  go_wp2_with fail
  go_ret
  exact ⟨rfl, rfl⟩
set_option maxHeartbeats 1000000 in
theorem rsort_11 (w : World) (n : Nat) (h0 : 97 ≤ n) (h1 : n ≤ 122) : Calls Try.prog 49 #[.int .u8 (n : Int)] w fun e w' => e = .returned (.int .i64 2) ∧ w = w' := by
  have t0 : decide (9 ≤ (n : Int)) = true := decide_eq_true (by omega)
  have t1 : decide ((n : Int) ≤ 13) = false := decide_eq_false (by omega)
  have t2 : ((n : Int) == 32) = false := by rw [beq_eq_false_iff_ne]; omega
  have t3 : decide (97 ≤ (n : Int)) = true := decide_eq_true (by omega)
  have t4 : decide ((n : Int) ≤ 122) = true := decide_eq_true (by omega)
  have t5 : decide (65 ≤ (n : Int)) = true := decide_eq_true (by omega)
  have t6 : decide ((n : Int) ≤ 90) = false := decide_eq_false (by omega)
  have t7 : ((n : Int) == 95) = false := by rw [beq_eq_false_iff_ne]; omega
  have t8 : decide (48 ≤ (n : Int)) = true := decide_eq_true (by omega)
  have t9 : decide ((n : Int) ≤ 57) = false := decide_eq_false (by omega)
  clear h0 h1
  go_enter Try.func49, Try.ntmps49
  go_wp2_with fail
  go_ret
  exact ⟨rfl, rfl⟩
set_option maxHeartbeats 1000000 in
theorem rsort_12 (w : World) (n : Nat) (k : Int) (hs : k = 0 ∨ k = 5 ∨ k = 6 ∨ k = 7 ∨ k = 8) (J : Hid (InAt n k w)) (h0 : 123 ≤ n) (h1 : n ≤ 255) : Calls Try.prog 49 #[.int .u8 (n : Int)] w fun e w' => e = .returned (.int .i64 k) ∧ w = w' := by
  have t0 : decide (9 ≤ (n : Int)) = true := decide_eq_true (by omega)
  have t1 : decide ((n : Int) ≤ 13) = false := decide_eq_false (by omega)
  have t2 : ((n : Int) == 32) = false := by rw [beq_eq_false_iff_ne]; omega
  have t3 : decide (97 ≤ (n : Int)) = true := decide_eq_true (by omega)
  have t4 : decide ((n : Int) ≤ 122) = false := decide_eq_false (by omega)
  have t5 : decide (65 ≤ (n : Int)) = true := decide_eq_true (by omega)
  have t6 : decide ((n : Int) ≤ 90) = false := decide_eq_false (by omega)
  have t7 : ((n : Int) == 95) = false := by rw [beq_eq_false_iff_ne]; omega
  have t8 : decide (48 ≤ (n : Int)) = true := decide_eq_true (by omega)
  have t9 : decide ((n : Int) ≤ 57) = false := decide_eq_false (by omega)
  clear h0 h1
  go_enter Try.func49, Try.ntmps49
  go_wp2_with fail
  refine J.out.i5.mono ?_
  rintro e w' ⟨rfl, rfl⟩
  by_cases e5 : k = 5
  · subst e5
    go_wp2_with fail
    go_ret
    exact ⟨rfl, rfl⟩
  rw [decide_eq_false e5]
  go_wp2_with fail
  refine J.out.i6.mono ?_
  rintro e w' ⟨rfl, rfl⟩
  by_cases e6 : k = 6
  · subst e6
    go_wp2_with fail
    go_ret
    exact ⟨rfl, rfl⟩
  rw [decide_eq_false e6]
  go_wp2_with fail
  refine J.out.i7.mono ?_
  rintro e w' ⟨rfl, rfl⟩
  by_cases e7 : k = 7
  · subst e7
    go_wp2_with fail
    go_ret
    exact ⟨rfl, rfl⟩
  rw [decide_eq_false e7]
  go_wp2_with fail
  refine J.out.i8.mono ?_
  rintro e w' ⟨rfl, rfl⟩
  by_cases e8 : k = 8
  · subst e8
    go_wp2_with fail
    go_ret
    exact ⟨rfl, rfl⟩
  rw [decide_eq_false e8]
  obtain rfl : k = 0 := by omega
  go_wp2_with fail
  go_ret
  exact ⟨rfl, rfl⟩
theorem rsort_any (w : World) (c : UInt8) : Calls Try.prog 49 #[.int .u8 (c.toNat : Int)] w fun e w' => e = .returned (.int .i64 (bsort c)) ∧ w = w' := by
  have hn := c.toNat_lt
  have hw := sort_where c
  have J := Lib.hid (inAt w c)
  unfold SortAt at hw
  rcases hw with ⟨⟨a1, a2⟩, h⟩ | ⟨a1, h⟩ | ⟨⟨a1, a2⟩, h⟩ | ⟨⟨a1, a2⟩, h⟩ | ⟨a1, h⟩ | ⟨⟨a1, a2⟩, h⟩ | ⟨hr, hs⟩
  · rw [h]; exact rsort_1 w _ a1 a2
  · rw [h]; exact rsort_3 w _ (by omega) (by omega)
  · rw [h]; exact rsort_11 w _ a1 a2
  · rw [h]; exact rsort_7 w _ a1 a2
  · rw [h]; exact rsort_9 w _ (by omega) (by omega)
  · rw [h]; exact rsort_5 w _ a1 a2
  · rcases hr with a | ⟨a, b⟩ | ⟨a, b⟩ | ⟨a, b⟩ | ⟨a, b⟩ | a | a
    · exact rsort_0 w _ _ hs J (by omega) (by omega)
    · exact rsort_2 w _ _ hs J (by omega) (by omega)
    · exact rsort_4 w _ _ hs J (by omega) (by omega)
    · exact rsort_6 w _ _ hs J (by omega) (by omega)
    · exact rsort_8 w _ _ hs J (by omega) (by omega)
    · exact rsort_10 w _ _ hs J (by omega) (by omega)
    · exact rsort_12 w _ _ hs J (by omega) (by omega)
end Go.Proofs.Ytpiekfkkhgighaa
