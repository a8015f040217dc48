/-
  What the document's own digit and Parse answer: the number of digits in a base. Condition: the base is 2, 8, 10 or 16, and the sizes that are named.
-/
import Derived.Test.YtpiekfkkhgighaaRefB
import Derived.Test.YtpiekfkkhgighaaParse
namespace Go.Proofs.Ytpiekfkkhgighaa
open Go.RowKit
set_option maxRecDepth 100000

def dig99 (c : UInt8) : Nat := if digVal c = 36 then 99 else digVal c
theorem dig99_lt {c : UInt8} {b : Nat} (hb : b ≤ 36) : dig99 c < b ↔ digVal c < b := by
  unfold dig99
  split <;> omega
theorem dig99_of {c : UInt8} (h : digVal c < 36) : dig99 c = digVal c := by
  unfold dig99
  rw [if_neg (by omega)]
set_option maxHeartbeats 1000000 in
theorem rdigit_any (w : World) (c : UInt8) : Calls Try.prog 102 #[.int .u8 (c.toNat : Int)] w fun e w' => e = .returned (.int .i64 (dig99 c : Int)) ∧ w = w' := by
  have hc := c.toNat_lt
  unfold dig99 digVal
  generalize c.toNat = n at *
  have hn : (n : Int) < 256 := by omega
  by_cases h1 : 48 ≤ n ∧ n ≤ 57
  · rw [if_pos h1, if_neg (by omega)]
    have a1 : 48 ≤ (n : Int) := by omega
    have a2 : (n : Int) ≤ 57 := by omega
    have H := Lib.hid h1
    clear h1
    go_enter Try.func102, Try.ntmps102
    go_wp2_with fail
    go_ret
    exact ⟨ret_i (by omega), rfl⟩
  rw [if_neg h1]
  by_cases h2 : 97 ≤ n ∧ n ≤ 122
  · rw [if_pos h2, if_neg (by omega)]
    have a1 : 97 ≤ (n : Int) := by omega
    have a2 : (n : Int) ≤ 122 := by omega
    have a3 : decide ((n : Int) ≤ 57) = false := decide_eq_false (by omega)
    have H := Lib.hid h2
    clear h1 h2
    go_enter Try.func102, Try.ntmps102
    go_wp2_with fail
    go_ret
    exact ⟨ret_i (by omega), rfl⟩
  rw [if_neg h2]
  by_cases h3 : 65 ≤ n ∧ n ≤ 90
  · rw [if_pos h3, if_neg (by omega)]
    have a1 : 65 ≤ (n : Int) := by omega
    have a2 : (n : Int) ≤ 90 := by omega
    have a3 : decide ((n : Int) ≤ 57) = false := decide_eq_false (by omega)
    have a4 : decide (97 ≤ (n : Int)) = false := decide_eq_false (by omega)
    have H := Lib.hid h3
    clear h1 h2 h3
    go_enter Try.func102, Try.ntmps102
    go_wp2_with fail
    go_ret
    exact ⟨ret_i (by omega), rfl⟩
  rw [if_neg h3, if_pos rfl]
  have H1 := Lib.hid h1
  have H2 := Lib.hid h2
  have H3 := Lib.hid h3
  clear h1 h2 h3
  rcases (show (n : Int) < 48 ∨ (58 ≤ (n : Int) ∧ (n : Int) < 65) ∨ (91 ≤ (n : Int) ∧ (n : Int) < 97) ∨ 123 ≤ (n : Int) by have := H1.out; have := H2.out; have := H3.out; omega) with h | ⟨h, h'⟩ | ⟨h, h'⟩ | h
  all_goals
    go_enter Try.func102, Try.ntmps102
    go_wp2_with fail
    go_ret
    exact ⟨rfl, rfl⟩

set_option maxHeartbeats 2000000 in
theorem rparse_2 (w : World) (l : List UInt8) (hl : (l.length : Int) ≤ 1000000) :
    Calls Try.prog 75 #[.string ⟨l.toArray⟩, .int .i64 2] w fun e w' => e = .returned (.tuple #[.int .i64 (parseF 2 l).1, .int .i64 (parseF 2 l).2]) ∧ w = w' := by
  generalize hR : parseF 2 l = R
  have HR := Lib.hid hR
  clear hR
  go_enter Try.func75, Try.ntmps75
  go_wp2_with fail
  go_loop [6] (fun i => ∃ k : Nat, k ≤ l.length ∧ i = .int .i64 k ∧ Hid (digitsIn 2 (l.take k) = true)) (fun i => l.length - (intOf i).toNat)
  case atStart => exact ⟨0, Nat.zero_le _, rfl, Lib.hid rfl⟩
  case round =>
    obtain ⟨k, hk, rfl, HD⟩ := hrel
    by_cases hlt : k < l.length
    · obtain ⟨c, -, hx, hg⟩ := byte_at l k hlt
      have HG := Lib.hid hg
      have hlt' : (k : Int) < (l.length : Int) := by omega
      clear hg
      go_wp2_with fail
      refine (rdigit_any w c).mono ?_
      rintro e w' ⟨rfl, rfl⟩
      by_cases hd : digVal c < 2
      · have h99 : (dig99 c : Int) < 2 := by have := (dig99_lt (c := c) (b := 2) (by omega)).2 hd; omega
        have h99' : decide (2 ≤ (dig99 c : Int)) = false := decide_eq_false (by omega)
        have HD2 : Hid (digitsIn 2 (l.take (k + 1)) = true) := Lib.hid (by rw [take_snoc' HG.out, digitsIn_snoc, HD.out]; simpa using hd)
        clear HD
        go_wp2_with fail
        go_round
        case rel => exact ⟨k + 1, hlt, by go_num, HD2⟩
        case measure => simp [intOf]; omega
      · have h99 : 2 ≤ (dig99 c : Int) := by have := (dig99_lt (c := c) (b := 2) (by omega)); omega
        have hF := digitsIn_bad (base := 2) HG.out (by omega)
        have hr := HR.out
        unfold parseF at hr
        rw [if_pos (.inr hF)] at hr
        have HR2 := Lib.hid hr
        clear hr hF
        go_wp2_with fail
        go_ret2
        rw [← HR2.out]
        exact ⟨rfl, rfl⟩
    · have hkn : k = l.length := by omega
      subst hkn
      have hD := HD.out
      rw [List.take_length] at hD
      have HDL := Lib.hid hD
      clear hD HD
      by_cases hne : l = []
      · subst hne
        go_wp2_with fail
        go_ret2
        rw [← HR.out]
        exact ⟨rfl, rfl⟩
      have hne' : (((l.length : Nat) : Int) == 0) = false := beq_eq_false_iff_ne.2 (fun e => hne (List.eq_nil_of_length_eq_zero (by omega)))
      have hne2 : l.isEmpty = false := by simpa using hne
      have HNE := Lib.hid hne
      clear hne
      go_wp2_with fail
      go_loop [7, 8] (fun v i => ∃ k x : Nat, k ≤ l.length ∧ (x : Int) ≤ 9223372036854775808 ∧ i = .int .i64 k ∧ v = .int .u64 x ∧ Hid (ParseSt 2 l k x false)) (fun _ i => l.length - (intOf i).toNat)
      case atStart => exact ⟨0, 0, Nat.zero_le _, by omega, rfl, rfl, ⟨rfl, by omega, fun _ => rfl, fun e => by cases e⟩⟩
      case round =>
        obtain ⟨k, x, hk2, hx8, rfl, rfl, HS⟩ := hrel
        by_cases hlt2 : k < l.length
        · obtain ⟨c, -, hx, hg⟩ := byte_at l k hlt2
          have HG := Lib.hid hg
          have hlt2' : (k : Int) < (l.length : Int) := by omega
          have hd : digVal c < 2 := by
            have h := List.all_eq_true.1 (show l.all (fun c => decide (digVal c < 2)) = true from HDL.out) c (List.mem_of_getElem? hg)
            simpa using h
          have h99 := dig99_of (c := c) (by omega)
          clear hg
          go_wp2_with fail
          refine (rdigit_any w c).mono ?_
          rintro e w' ⟨rfl, rfl⟩
          rw [h99]
          clear h99
          have HN := Lib.hid hlt2
          go_wp2_with fail
          · have hS2 := HS.out.beyond (by omega) HG.out hd (by omega)
            have hv := hS2.yes rfl
            have hm := valOf_mono 2 (by omega) (l.take (k + 1)) (l.drop (k + 1))
            rw [List.take_append_drop] at hm
            have hr := HR.out
            unfold parseF at hr
            rw [if_neg (by simp [HNE.out, HDL.out]), if_pos (by omega)] at hr
            go_ret2
            rw [← hr]
            exact ⟨rfl, rfl⟩
          · have hS2 := HS.out.go (by omega) HG.out hd (by omega)
            have hle := hS2.le
            go_round
            case rel => exact ⟨k + 1, _, HN.out, by omega, by go_num, by go_num, Lib.hid hS2⟩
            case measure => simp [intOf]; omega
        · have hkn : k = l.length := by omega
          have hS' := HS.out
          rw [hkn] at hS'
          have hF := hS'.fin HNE.out
          rw [HR.out] at hF
          have HF := Lib.hid hF
          clear hS' hF hkn
          go_wp2_with fail
          go_ret2
          rw [HF.out]
          exact ⟨ret_tops x (by omega), rfl⟩

set_option maxHeartbeats 2000000 in
theorem rparse_8 (w : World) (l : List UInt8) (hl : (l.length : Int) ≤ 1000000) :
    Calls Try.prog 75 #[.string ⟨l.toArray⟩, .int .i64 8] w fun e w' => e = .returned (.tuple #[.int .i64 (parseF 8 l).1, .int .i64 (parseF 8 l).2]) ∧ w = w' := by
  generalize hR : parseF 8 l = R
  have HR := Lib.hid hR
  clear hR
  go_enter Try.func75, Try.ntmps75
  go_wp2_with fail
  go_loop [6] (fun i => ∃ k : Nat, k ≤ l.length ∧ i = .int .i64 k ∧ Hid (digitsIn 8 (l.take k) = true)) (fun i => l.length - (intOf i).toNat)
  case atStart => exact ⟨0, Nat.zero_le _, rfl, Lib.hid rfl⟩
  case round =>
    obtain ⟨k, hk, rfl, HD⟩ := hrel
    by_cases hlt : k < l.length
    · obtain ⟨c, -, hx, hg⟩ := byte_at l k hlt
      have HG := Lib.hid hg
      have hlt' : (k : Int) < (l.length : Int) := by omega
      clear hg
      go_wp2_with fail
      refine (rdigit_any w c).mono ?_
      rintro e w' ⟨rfl, rfl⟩
      by_cases hd : digVal c < 8
      · have h99 : (dig99 c : Int) < 8 := by have := (dig99_lt (c := c) (b := 8) (by omega)).2 hd; omega
        have h99' : decide (8 ≤ (dig99 c : Int)) = false := decide_eq_false (by omega)
        have HD2 : Hid (digitsIn 8 (l.take (k + 1)) = true) := Lib.hid (by rw [take_snoc' HG.out, digitsIn_snoc, HD.out]; simpa using hd)
        clear HD
        go_wp2_with fail
        go_round
        case rel => exact ⟨k + 1, hlt, by go_num, HD2⟩
        case measure => simp [intOf]; omega
      · have h99 : 8 ≤ (dig99 c : Int) := by have := (dig99_lt (c := c) (b := 8) (by omega)); omega
        have hF := digitsIn_bad (base := 8) HG.out (by omega)
        have hr := HR.out
        unfold parseF at hr
        rw [if_pos (.inr hF)] at hr
        have HR2 := Lib.hid hr
        clear hr hF
        go_wp2_with fail
        go_ret2
        rw [← HR2.out]
        exact ⟨rfl, rfl⟩
    · have hkn : k = l.length := by omega
      subst hkn
      have hD := HD.out
      rw [List.take_length] at hD
      have HDL := Lib.hid hD
      clear hD HD
      by_cases hne : l = []
      · subst hne
        go_wp2_with fail
        go_ret2
        rw [← HR.out]
        exact ⟨rfl, rfl⟩
      have hne' : (((l.length : Nat) : Int) == 0) = false := beq_eq_false_iff_ne.2 (fun e => hne (List.eq_nil_of_length_eq_zero (by omega)))
      have hne2 : l.isEmpty = false := by simpa using hne
      have HNE := Lib.hid hne
      clear hne
      go_wp2_with fail
      go_loop [7, 8] (fun v i => ∃ k x : Nat, k ≤ l.length ∧ (x : Int) ≤ 9223372036854775808 ∧ i = .int .i64 k ∧ v = .int .u64 x ∧ Hid (ParseSt 8 l k x false)) (fun _ i => l.length - (intOf i).toNat)
      case atStart => exact ⟨0, 0, Nat.zero_le _, by omega, rfl, rfl, ⟨rfl, by omega, fun _ => rfl, fun e => by cases e⟩⟩
      case round =>
        obtain ⟨k, x, hk2, hx8, rfl, rfl, HS⟩ := hrel
        by_cases hlt2 : k < l.length
        · obtain ⟨c, -, hx, hg⟩ := byte_at l k hlt2
          have HG := Lib.hid hg
          have hlt2' : (k : Int) < (l.length : Int) := by omega
          have hd : digVal c < 8 := by
            have h := List.all_eq_true.1 (show l.all (fun c => decide (digVal c < 8)) = true from HDL.out) c (List.mem_of_getElem? hg)
            simpa using h
          have h99 := dig99_of (c := c) (by omega)
          clear hg
          go_wp2_with fail
          refine (rdigit_any w c).mono ?_
          rintro e w' ⟨rfl, rfl⟩
          rw [h99]
          clear h99
          have HN := Lib.hid hlt2
          go_wp2_with fail
          · have hS2 := HS.out.beyond (by omega) HG.out hd (by omega)
            have hv := hS2.yes rfl
            have hm := valOf_mono 8 (by omega) (l.take (k + 1)) (l.drop (k + 1))
            rw [List.take_append_drop] at hm
            have hr := HR.out
            unfold parseF at hr
            rw [if_neg (by simp [HNE.out, HDL.out]), if_pos (by omega)] at hr
            go_ret2
            rw [← hr]
            exact ⟨rfl, rfl⟩
          · have hS2 := HS.out.go (by omega) HG.out hd (by omega)
            have hle := hS2.le
            go_round
            case rel => exact ⟨k + 1, _, HN.out, by omega, by go_num, by go_num, Lib.hid hS2⟩
            case measure => simp [intOf]; omega
        · have hkn : k = l.length := by omega
          have hS' := HS.out
          rw [hkn] at hS'
          have hF := hS'.fin HNE.out
          rw [HR.out] at hF
          have HF := Lib.hid hF
          clear hS' hF hkn
          go_wp2_with fail
          go_ret2
          rw [HF.out]
          exact ⟨ret_tops x (by omega), rfl⟩

set_option maxHeartbeats 2000000 in
theorem rparse_10 (w : World) (l : List UInt8) (hl : (l.length : Int) ≤ 1000000) :
    Calls Try.prog 75 #[.string ⟨l.toArray⟩, .int .i64 10] w fun e w' => e = .returned (.tuple #[.int .i64 (parseF 10 l).1, .int .i64 (parseF 10 l).2]) ∧ w = w' := by
  generalize hR : parseF 10 l = R
  have HR := Lib.hid hR
  clear hR
  go_enter Try.func75, Try.ntmps75
  go_wp2_with fail
  go_loop [6] (fun i => ∃ k : Nat, k ≤ l.length ∧ i = .int .i64 k ∧ Hid (digitsIn 10 (l.take k) = true)) (fun i => l.length - (intOf i).toNat)
  case atStart => exact ⟨0, Nat.zero_le _, rfl, Lib.hid rfl⟩
  case round =>
    obtain ⟨k, hk, rfl, HD⟩ := hrel
    by_cases hlt : k < l.length
    · obtain ⟨c, -, hx, hg⟩ := byte_at l k hlt
      have HG := Lib.hid hg
      have hlt' : (k : Int) < (l.length : Int) := by omega
      clear hg
      go_wp2_with fail
      refine (rdigit_any w c).mono ?_
      rintro e w' ⟨rfl, rfl⟩
      by_cases hd : digVal c < 10
      · have h99 : (dig99 c : Int) < 10 := by have := (dig99_lt (c := c) (b := 10) (by omega)).2 hd; omega
        have h99' : decide (10 ≤ (dig99 c : Int)) = false := decide_eq_false (by omega)
        have HD2 : Hid (digitsIn 10 (l.take (k + 1)) = true) := Lib.hid (by rw [take_snoc' HG.out, digitsIn_snoc, HD.out]; simpa using hd)
        clear HD
        go_wp2_with fail
        go_round
        case rel => exact ⟨k + 1, hlt, by go_num, HD2⟩
        case measure => simp [intOf]; omega
      · have h99 : 10 ≤ (dig99 c : Int) := by have := (dig99_lt (c := c) (b := 10) (by omega)); omega
        have hF := digitsIn_bad (base := 10) HG.out (by omega)
        have hr := HR.out
        unfold parseF at hr
        rw [if_pos (.inr hF)] at hr
        have HR2 := Lib.hid hr
        clear hr hF
        go_wp2_with fail
        go_ret2
        rw [← HR2.out]
        exact ⟨rfl, rfl⟩
    · have hkn : k = l.length := by omega
      subst hkn
      have hD := HD.out
      rw [List.take_length] at hD
      have HDL := Lib.hid hD
      clear hD HD
      by_cases hne : l = []
      · subst hne
        go_wp2_with fail
        go_ret2
        rw [← HR.out]
        exact ⟨rfl, rfl⟩
      have hne' : (((l.length : Nat) : Int) == 0) = false := beq_eq_false_iff_ne.2 (fun e => hne (List.eq_nil_of_length_eq_zero (by omega)))
      have hne2 : l.isEmpty = false := by simpa using hne
      have HNE := Lib.hid hne
      clear hne
      go_wp2_with fail
      go_loop [7, 8] (fun v i => ∃ k x : Nat, k ≤ l.length ∧ (x : Int) ≤ 9223372036854775808 ∧ i = .int .i64 k ∧ v = .int .u64 x ∧ Hid (ParseSt 10 l k x false)) (fun _ i => l.length - (intOf i).toNat)
      case atStart => exact ⟨0, 0, Nat.zero_le _, by omega, rfl, rfl, ⟨rfl, by omega, fun _ => rfl, fun e => by cases e⟩⟩
      case round =>
        obtain ⟨k, x, hk2, hx8, rfl, rfl, HS⟩ := hrel
        by_cases hlt2 : k < l.length
        · obtain ⟨c, -, hx, hg⟩ := byte_at l k hlt2
          have HG := Lib.hid hg
          have hlt2' : (k : Int) < (l.length : Int) := by omega
          have hd : digVal c < 10 := by
            have h := List.all_eq_true.1 (show l.all (fun c => decide (digVal c < 10)) = true from HDL.out) c (List.mem_of_getElem? hg)
            simpa using h
          have h99 := dig99_of (c := c) (by omega)
          clear hg
          go_wp2_with fail
          refine (rdigit_any w c).mono ?_
          rintro e w' ⟨rfl, rfl⟩
          rw [h99]
          clear h99
          have HN := Lib.hid hlt2
          go_wp2_with fail
          · have hS2 := HS.out.beyond (by omega) HG.out hd (by omega)
            have hv := hS2.yes rfl
            have hm := valOf_mono 10 (by omega) (l.take (k + 1)) (l.drop (k + 1))
            rw [List.take_append_drop] at hm
            have hr := HR.out
            unfold parseF at hr
            rw [if_neg (by simp [HNE.out, HDL.out]), if_pos (by omega)] at hr
            go_ret2
            rw [← hr]
            exact ⟨rfl, rfl⟩
          · have hS2 := HS.out.go (by omega) HG.out hd (by omega)
            have hle := hS2.le
            go_round
            case rel => exact ⟨k + 1, _, HN.out, by omega, by go_num, by go_num, Lib.hid hS2⟩
            case measure => simp [intOf]; omega
        · have hkn : k = l.length := by omega
          have hS' := HS.out
          rw [hkn] at hS'
          have hF := hS'.fin HNE.out
          rw [HR.out] at hF
          have HF := Lib.hid hF
          clear hS' hF hkn
          go_wp2_with fail
          go_ret2
          rw [HF.out]
          exact ⟨ret_tops x (by omega), rfl⟩

set_option maxHeartbeats 2000000 in
theorem rparse_16 (w : World) (l : List UInt8) (hl : (l.length : Int) ≤ 1000000) :
    Calls Try.prog 75 #[.string ⟨l.toArray⟩, .int .i64 16] w fun e w' => e = .returned (.tuple #[.int .i64 (parseF 16 l).1, .int .i64 (parseF 16 l).2]) ∧ w = w' := by
  generalize hR : parseF 16 l = R
  have HR := Lib.hid hR
  clear hR
  go_enter Try.func75, Try.ntmps75
  go_wp2_with fail
  go_loop [6] (fun i => ∃ k : Nat, k ≤ l.length ∧ i = .int .i64 k ∧ Hid (digitsIn 16 (l.take k) = true)) (fun i => l.length - (intOf i).toNat)
  case atStart => exact ⟨0, Nat.zero_le _, rfl, Lib.hid rfl⟩
  case round =>
    obtain ⟨k, hk, rfl, HD⟩ := hrel
    by_cases hlt : k < l.length
    · obtain ⟨c, -, hx, hg⟩ := byte_at l k hlt
      have HG := Lib.hid hg
      have hlt' : (k : Int) < (l.length : Int) := by omega
      clear hg
      go_wp2_with fail
      refine (rdigit_any w c).mono ?_
      rintro e w' ⟨rfl, rfl⟩
      by_cases hd : digVal c < 16
      · have h99 : (dig99 c : Int) < 16 := by have := (dig99_lt (c := c) (b := 16) (by omega)).2 hd; omega
        have h99' : decide (16 ≤ (dig99 c : Int)) = false := decide_eq_false (by omega)
        have HD2 : Hid (digitsIn 16 (l.take (k + 1)) = true) := Lib.hid (by rw [take_snoc' HG.out, digitsIn_snoc, HD.out]; simpa using hd)
        clear HD
        go_wp2_with fail
        go_round
        case rel => exact ⟨k + 1, hlt, by go_num, HD2⟩
        case measure => simp [intOf]; omega
      · have h99 : 16 ≤ (dig99 c : Int) := by have := (dig99_lt (c := c) (b := 16) (by omega)); omega
        have hF := digitsIn_bad (base := 16) HG.out (by omega)
        have hr := HR.out
        unfold parseF at hr
        rw [if_pos (.inr hF)] at hr
        have HR2 := Lib.hid hr
        clear hr hF
        go_wp2_with fail
        go_ret2
        rw [← HR2.out]
        exact ⟨rfl, rfl⟩
    · have hkn : k = l.length := by omega
      subst hkn
      have hD := HD.out
      rw [List.take_length] at hD
      have HDL := Lib.hid hD
      clear hD HD
      by_cases hne : l = []
      · subst hne
        go_wp2_with fail
        go_ret2
        rw [← HR.out]
        exact ⟨rfl, rfl⟩
      have hne' : (((l.length : Nat) : Int) == 0) = false := beq_eq_false_iff_ne.2 (fun e => hne (List.eq_nil_of_length_eq_zero (by omega)))
      have hne2 : l.isEmpty = false := by simpa using hne
      have HNE := Lib.hid hne
      clear hne
      go_wp2_with fail
      go_loop [7, 8] (fun v i => ∃ k x : Nat, k ≤ l.length ∧ (x : Int) ≤ 9223372036854775808 ∧ i = .int .i64 k ∧ v = .int .u64 x ∧ Hid (ParseSt 16 l k x false)) (fun _ i => l.length - (intOf i).toNat)
      case atStart => exact ⟨0, 0, Nat.zero_le _, by omega, rfl, rfl, ⟨rfl, by omega, fun _ => rfl, fun e => by cases e⟩⟩
      case round =>
        obtain ⟨k, x, hk2, hx8, rfl, rfl, HS⟩ := hrel
        by_cases hlt2 : k < l.length
        · obtain ⟨c, -, hx, hg⟩ := byte_at l k hlt2
          have HG := Lib.hid hg
          have hlt2' : (k : Int) < (l.length : Int) := by omega
          have hd : digVal c < 16 := by
            have h := List.all_eq_true.1 (show l.all (fun c => decide (digVal c < 16)) = true from HDL.out) c (List.mem_of_getElem? hg)
            simpa using h
          have h99 := dig99_of (c := c) (by omega)
          clear hg
          go_wp2_with fail
          refine (rdigit_any w c).mono ?_
          rintro e w' ⟨rfl, rfl⟩
          rw [h99]
          clear h99
          have HN := Lib.hid hlt2
          go_wp2_with fail
          · have hS2 := HS.out.beyond (by omega) HG.out hd (by omega)
            have hv := hS2.yes rfl
            have hm := valOf_mono 16 (by omega) (l.take (k + 1)) (l.drop (k + 1))
            rw [List.take_append_drop] at hm
            have hr := HR.out
            unfold parseF at hr
            rw [if_neg (by simp [HNE.out, HDL.out]), if_pos (by omega)] at hr
            go_ret2
            rw [← hr]
            exact ⟨rfl, rfl⟩
          · have hS2 := HS.out.go (by omega) HG.out hd (by omega)
            have hle := hS2.le
            go_round
            case rel => exact ⟨k + 1, _, HN.out, by omega, by go_num, by go_num, Lib.hid hS2⟩
            case measure => simp [intOf]; omega
        · have hkn : k = l.length := by omega
          have hS' := HS.out
          rw [hkn] at hS'
          have hF := hS'.fin HNE.out
          rw [HR.out] at hF
          have HF := Lib.hid hF
          clear hS' hF hkn
          go_wp2_with fail
          go_ret2
          rw [HF.out]
          exact ⟨ret_tops x (by omega), rfl⟩
end Go.Proofs.Ytpiekfkkhgighaa
