/-
  How many digits of a base stand at a place, as the document's own function answers. Condition: the place lies in the text, the base is 2, 8, 10 or 16.
-/
import Derived.Test.YtpiekfkkhgighaaRefC
import Derived.Test.YtpiekfkkhgighaaEsc
import Derived.Laws.DeepStrings4
namespace Go.Proofs.Ytpiekfkkhgighaa
open Go.RowKit
set_option maxRecDepth 100000

def isDig (b : Nat) (c : UInt8) : Bool := decide (digVal c < b)
theorem rparse_one {b : Nat} (hb : b ≤ 36) (c : UInt8) : parseF b [c] = if digVal c < b then ((digVal c : Int), 0) else (0, 6) := by
  unfold parseF
  by_cases h : digVal c < b
  · rw [if_neg (by simp [digitsIn, h]), if_pos h]
    have hv : valOf b [c] = digVal c := by simp [valOf]
    rw [hv, if_neg (by omega)]
    unfold tops
    rw [if_neg (by omega)]
  · rw [if_pos (by simp [digitsIn]; omega), if_neg h]
theorem one_at {l : List UInt8} {k : Nat} {c : UInt8} (h : l[k]? = some c) : (⟨l.toArray⟩ : ByteArray).extract k (k + 1) = ⟨[c].toArray⟩ := by
  obtain ⟨h1, h2⟩ := List.getElem?_eq_some_iff.1 h
  rw [slice_mid, show k + 1 - k = 1 by omega, List.drop_eq_getElem_cons h1, h2]
  rfl
set_option maxHeartbeats 2000000 in
theorem rdigits_2 (w : World) (l : List UInt8) (a : Nat) (ha : a ≤ l.length) (hl : (l.length : Int) ≤ 1000000) :
    Calls Try.prog 74 #[.string ⟨l.toArray⟩, .int .i64 (a : Int), .int .i64 2] w fun e w' => e = .returned (.int .i64 (spanN (isDig 2) (l.drop a) : Int)) ∧ w = w' := by
  have hsp := spanN_le (isDig 2) (l.drop a)
  rw [List.length_drop] at hsp
  generalize hN : spanN (isDig 2) (l.drop a) = N
  have HN := Lib.hid hN
  rw [hN] at hsp
  clear hN
  go_enter Try.func74, Try.ntmps74
  go_wp2_with fail
  go_loop [7] (fun i => ∃ k : Nat, k ≤ N ∧ i = .int .i64 k) (fun i => l.length - (intOf i).toNat)
  case atStart => exact ⟨0, Nat.zero_le _, rfl⟩
  case round =>
    obtain ⟨k, hk, rfl⟩ := hrel
    by_cases hlt : a + k < l.length
    · obtain ⟨c, -, hx, hg⟩ := byte_at l (a + k) hlt
      have hgd : (l.drop a)[k]? = some c := by rw [List.getElem?_drop]; exact hg
      have hs := one_at hg
      have hlt' : (a : Int) + (k : Int) < (l.length : Int) := by omega
      have hlt2 : (a : Int) + (k : Int) + 1 ≤ (l.length : Int) := by omega
      have HG := Lib.hid hgd
      clear hg hgd hx
      go_wp2_with fail
      refine (rparse_2 w [c] (by simp)).mono ?_
      rintro e w' ⟨rfl, rfl⟩
      rw [rparse_one (by omega)]
      by_cases hd : digVal c < 2
      · have hm := span_more (p := isDig 2) (l := l.drop a) (k := k) (by rw [HN.out]; exact hk) HG.out (decide_eq_true hd)
        rw [HN.out] at hm
        rw [if_pos hd]
        clear hs
        go_wp2_with fail
        go_round
        case rel => exact ⟨k + 1, hm, by go_num⟩
        case measure => simp [intOf]; omega
      · have hs2 := span_stop (p := isDig 2) (l := l.drop a) (k := k) (by rw [HN.out]; exact hk) (fun ⟨d, hd', hpd⟩ => by rw [HG.out] at hd'; cases hd'; exact hd (of_decide_eq_true hpd))
        rw [HN.out] at hs2
        rw [if_neg hd]
        subst hs2
        clear hs
        go_wp2_with fail
        go_ret
        exact ⟨rfl, rfl⟩
    · have hs := span_stop (p := isDig 2) (l := l.drop a) (k := k) (by rw [HN.out]; exact hk) (fun ⟨d, hd, hpd⟩ => by
        have := (List.getElem?_eq_some_iff.1 hd).1
        rw [List.length_drop] at this
        omega)
      rw [HN.out] at hs
      subst hs
      have hge : (l.length : Int) ≤ (a : Int) + (N : Int) := by omega
      go_wp2_with fail
      go_ret
      exact ⟨rfl, rfl⟩
set_option maxHeartbeats 2000000 in
theorem rdigits_8 (w : World) (l : List UInt8) (a : Nat) (ha : a ≤ l.length) (hl : (l.length : Int) ≤ 1000000) :
    Calls Try.prog 74 #[.string ⟨l.toArray⟩, .int .i64 (a : Int), .int .i64 8] w fun e w' => e = .returned (.int .i64 (spanN (isDig 8) (l.drop a) : Int)) ∧ w = w' := by
  have hsp := spanN_le (isDig 8) (l.drop a)
  rw [List.length_drop] at hsp
  generalize hN : spanN (isDig 8) (l.drop a) = N
  have HN := Lib.hid hN
  rw [hN] at hsp
  clear hN
  go_enter Try.func74, Try.ntmps74
  go_wp2_with fail
  go_loop [7] (fun i => ∃ k : Nat, k ≤ N ∧ i = .int .i64 k) (fun i => l.length - (intOf i).toNat)
  case atStart => exact ⟨0, Nat.zero_le _, rfl⟩
  case round =>
    obtain ⟨k, hk, rfl⟩ := hrel
    by_cases hlt : a + k < l.length
    · obtain ⟨c, -, hx, hg⟩ := byte_at l (a + k) hlt
      have hgd : (l.drop a)[k]? = some c := by rw [List.getElem?_drop]; exact hg
      have hs := one_at hg
      have hlt' : (a : Int) + (k : Int) < (l.length : Int) := by omega
      have hlt2 : (a : Int) + (k : Int) + 1 ≤ (l.length : Int) := by omega
      have HG := Lib.hid hgd
      clear hg hgd hx
      go_wp2_with fail
      refine (rparse_8 w [c] (by simp)).mono ?_
      rintro e w' ⟨rfl, rfl⟩
      rw [rparse_one (by omega)]
      by_cases hd : digVal c < 8
      · have hm := span_more (p := isDig 8) (l := l.drop a) (k := k) (by rw [HN.out]; exact hk) HG.out (decide_eq_true hd)
        rw [HN.out] at hm
        rw [if_pos hd]
        clear hs
        go_wp2_with fail
        go_round
        case rel => exact ⟨k + 1, hm, by go_num⟩
        case measure => simp [intOf]; omega
      · have hs2 := span_stop (p := isDig 8) (l := l.drop a) (k := k) (by rw [HN.out]; exact hk) (fun ⟨d, hd', hpd⟩ => by rw [HG.out] at hd'; cases hd'; exact hd (of_decide_eq_true hpd))
        rw [HN.out] at hs2
        rw [if_neg hd]
        subst hs2
        clear hs
        go_wp2_with fail
        go_ret
        exact ⟨rfl, rfl⟩
    · have hs := span_stop (p := isDig 8) (l := l.drop a) (k := k) (by rw [HN.out]; exact hk) (fun ⟨d, hd, hpd⟩ => by
        have := (List.getElem?_eq_some_iff.1 hd).1
        rw [List.length_drop] at this
        omega)
      rw [HN.out] at hs
      subst hs
      have hge : (l.length : Int) ≤ (a : Int) + (N : Int) := by omega
      go_wp2_with fail
      go_ret
      exact ⟨rfl, rfl⟩
set_option maxHeartbeats 2000000 in
theorem rdigits_10 (w : World) (l : List UInt8) (a : Nat) (ha : a ≤ l.length) (hl : (l.length : Int) ≤ 1000000) :
    Calls Try.prog 74 #[.string ⟨l.toArray⟩, .int .i64 (a : Int), .int .i64 10] w fun e w' => e = .returned (.int .i64 (spanN (isDig 10) (l.drop a) : Int)) ∧ w = w' := by
  have hsp := spanN_le (isDig 10) (l.drop a)
  rw [List.length_drop] at hsp
  generalize hN : spanN (isDig 10) (l.drop a) = N
  have HN := Lib.hid hN
  rw [hN] at hsp
  clear hN
  go_enter Try.func74, Try.ntmps74
  go_wp2_with fail
  go_loop [7] (fun i => ∃ k : Nat, k ≤ N ∧ i = .int .i64 k) (fun i => l.length - (intOf i).toNat)
  case atStart => exact ⟨0, Nat.zero_le _, rfl⟩
  case round =>
    obtain ⟨k, hk, rfl⟩ := hrel
    by_cases hlt : a + k < l.length
    · obtain ⟨c, -, hx, hg⟩ := byte_at l (a + k) hlt
      have hgd : (l.drop a)[k]? = some c := by rw [List.getElem?_drop]; exact hg
      have hs := one_at hg
      have hlt' : (a : Int) + (k : Int) < (l.length : Int) := by omega
      have hlt2 : (a : Int) + (k : Int) + 1 ≤ (l.length : Int) := by omega
      have HG := Lib.hid hgd
      clear hg hgd hx
      go_wp2_with fail
      refine (rparse_10 w [c] (by simp)).mono ?_
      rintro e w' ⟨rfl, rfl⟩
      rw [rparse_one (by omega)]
      by_cases hd : digVal c < 10
      · have hm := span_more (p := isDig 10) (l := l.drop a) (k := k) (by rw [HN.out]; exact hk) HG.out (decide_eq_true hd)
        rw [HN.out] at hm
        rw [if_pos hd]
        clear hs
        go_wp2_with fail
        go_round
        case rel => exact ⟨k + 1, hm, by go_num⟩
        case measure => simp [intOf]; omega
      · have hs2 := span_stop (p := isDig 10) (l := l.drop a) (k := k) (by rw [HN.out]; exact hk) (fun ⟨d, hd', hpd⟩ => by rw [HG.out] at hd'; cases hd'; exact hd (of_decide_eq_true hpd))
        rw [HN.out] at hs2
        rw [if_neg hd]
        subst hs2
        clear hs
        go_wp2_with fail
        go_ret
        exact ⟨rfl, rfl⟩
    · have hs := span_stop (p := isDig 10) (l := l.drop a) (k := k) (by rw [HN.out]; exact hk) (fun ⟨d, hd, hpd⟩ => by
        have := (List.getElem?_eq_some_iff.1 hd).1
        rw [List.length_drop] at this
        omega)
      rw [HN.out] at hs
      subst hs
      have hge : (l.length : Int) ≤ (a : Int) + (N : Int) := by omega
      go_wp2_with fail
      go_ret
      exact ⟨rfl, rfl⟩
set_option maxHeartbeats 2000000 in
theorem rdigits_16 (w : World) (l : List UInt8) (a : Nat) (ha : a ≤ l.length) (hl : (l.length : Int) ≤ 1000000) :
    Calls Try.prog 74 #[.string ⟨l.toArray⟩, .int .i64 (a : Int), .int .i64 16] w fun e w' => e = .returned (.int .i64 (spanN (isDig 16) (l.drop a) : Int)) ∧ w = w' := by
  have hsp := spanN_le (isDig 16) (l.drop a)
  rw [List.length_drop] at hsp
  generalize hN : spanN (isDig 16) (l.drop a) = N
  have HN := Lib.hid hN
  rw [hN] at hsp
  clear hN
  go_enter Try.func74, Try.ntmps74
  go_wp2_with fail
  go_loop [7] (fun i => ∃ k : Nat, k ≤ N ∧ i = .int .i64 k) (fun i => l.length - (intOf i).toNat)
  case atStart => exact ⟨0, Nat.zero_le _, rfl⟩
  case round =>
    obtain ⟨k, hk, rfl⟩ := hrel
    by_cases hlt : a + k < l.length
    · obtain ⟨c, -, hx, hg⟩ := byte_at l (a + k) hlt
      have hgd : (l.drop a)[k]? = some c := by rw [List.getElem?_drop]; exact hg
      have hs := one_at hg
      have hlt' : (a : Int) + (k : Int) < (l.length : Int) := by omega
      have hlt2 : (a : Int) + (k : Int) + 1 ≤ (l.length : Int) := by omega
      have HG := Lib.hid hgd
      clear hg hgd hx
      go_wp2_with fail
      refine (rparse_16 w [c] (by simp)).mono ?_
      rintro e w' ⟨rfl, rfl⟩
      rw [rparse_one (by omega)]
      by_cases hd : digVal c < 16
      · have hm := span_more (p := isDig 16) (l := l.drop a) (k := k) (by rw [HN.out]; exact hk) HG.out (decide_eq_true hd)
        rw [HN.out] at hm
        rw [if_pos hd]
        clear hs
        go_wp2_with fail
        go_round
        case rel => exact ⟨k + 1, hm, by go_num⟩
        case measure => simp [intOf]; omega
      · have hs2 := span_stop (p := isDig 16) (l := l.drop a) (k := k) (by rw [HN.out]; exact hk) (fun ⟨d, hd', hpd⟩ => by rw [HG.out] at hd'; cases hd'; exact hd (of_decide_eq_true hpd))
        rw [HN.out] at hs2
        rw [if_neg hd]
        subst hs2
        clear hs
        go_wp2_with fail
        go_ret
        exact ⟨rfl, rfl⟩
    · have hs := span_stop (p := isDig 16) (l := l.drop a) (k := k) (by rw [HN.out]; exact hk) (fun ⟨d, hd, hpd⟩ => by
        have := (List.getElem?_eq_some_iff.1 hd).1
        rw [List.length_drop] at this
        omega)
      rw [HN.out] at hs
      subst hs
      have hge : (l.length : Int) ≤ (a : Int) + (N : Int) := by omega
      go_wp2_with fail
      go_ret
      exact ⟨rfl, rfl⟩
end Go.Proofs.Ytpiekfkkhgighaa
