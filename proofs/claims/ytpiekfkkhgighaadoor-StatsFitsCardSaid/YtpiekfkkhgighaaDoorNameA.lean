/-
  What the small functions on escapes answer: a digit's value, the number of digits up to a backslash. No condition but the sizes that are named.
-/
import Derived.Test.YtpiekfkkhgighaaDoorSortW
namespace Go.Proofs.YtpiekfkkhgighaaDoor
open Go.RowKit
set_option maxRecDepth 100000

theorem hexVal_bd (c : UInt8) : hexVal c ≤ 16 := by
  unfold hexVal
  have := c.toNat_lt
  split
  · omega
  · split
    · omega
    · split <;> omega

set_option maxHeartbeats 1000000 in
theorem value_any (w : World) (c : UInt8) : Calls Tryd.prog 96 #[.int .u8 (c.toNat : Int)] w fun e w' => e = .returned (.int .i64 (hexVal c : Int)) ∧ w = w' := by
  have hc := c.toNat_lt
  unfold hexVal
  generalize c.toNat = n at *
  have hn : (n : Int) < 256 := by omega
  by_cases h1 : 48 ≤ n ∧ n ≤ 57
  · rw [if_pos h1]
    have a1 : 48 ≤ (n : Int) := by omega
    have a2 : (n : Int) ≤ 57 := by omega
    have H := Lib.hid h1
    clear h1
    go_enter Tryd.func96, Tryd.ntmps96
    go_wp2_with fail
    go_ret
    exact ⟨ret_i (by omega), rfl⟩
  rw [if_neg h1]
  by_cases h2 : 97 ≤ n ∧ n ≤ 102
  · rw [if_pos h2]
    have a1 : 97 ≤ (n : Int) := by omega
    have a2 : (n : Int) ≤ 102 := by omega
    have H := Lib.hid h2
    clear h1 h2
    go_enter Tryd.func96, Tryd.ntmps96
    go_wp2_with fail
    go_ret
    exact ⟨ret_i (by omega), rfl⟩
  rw [if_neg h2]
  by_cases h3 : 65 ≤ n ∧ n ≤ 70
  · rw [if_pos h3]
    have a1 : 65 ≤ (n : Int) := by omega
    have a2 : (n : Int) ≤ 70 := by omega
    have H := Lib.hid h3
    clear h1 h2 h3
    go_enter Tryd.func96, Tryd.ntmps96
    go_wp2_with fail
    go_ret
    exact ⟨ret_i (by omega), rfl⟩
  rw [if_neg h3]
  have H1 := Lib.hid h1
  have H2 := Lib.hid h2
  have H3 := Lib.hid h3
  clear h1 h2 h3
  rcases (show (n : Int) < 48 ∨ (58 ≤ (n : Int) ∧ (n : Int) < 65) ∨ (71 ≤ (n : Int) ∧ (n : Int) < 97) ∨ 103 ≤ (n : Int) by have := H1.out; have := H2.out; have := H3.out; omega) with h | ⟨h, h'⟩ | ⟨h, h'⟩ | h
  all_goals
    go_enter Tryd.func96, Tryd.ntmps96
    go_wp2_with fail
    go_ret
    exact ⟨rfl, rfl⟩

theorem byte_ne {c d : UInt8} (h : c ≠ d) : ((c.toNat : Int) == (d.toNat : Int)) = false := by
  rw [beq_eq_false_iff_ne]
  intro e
  exact h (UInt8.toNat_inj.1 (by omega))
theorem byte_at (l : List UInt8) (k : Nat) (h : k < l.length) : ∃ c, l.drop k = c :: l.drop (k + 1) ∧ (⟨l.toArray⟩ : ByteArray)[k]'(by show k < l.toArray.size; simpa using h) = c ∧ l[k]? = some c :=
  ⟨l[k], List.drop_eq_getElem_cons h, rfl, List.getElem?_eq_getElem h⟩

set_option maxHeartbeats 2000000 in
theorem coded_lit (w : World) (l : List UInt8) (base : Int) (hb : base = 8 ∨ base = 16) (hl : (l.length : Int) ≤ 9223372036854775000) :
    Calls Tryd.prog 76 #[.string ⟨l.toArray⟩, .int .i64 base] w fun e w' =>
      e = .returned (.tuple #[.int .i64 ((codedF base.toNat l 0 0).1 : Int), .int .i64 ((codedF base.toNat l 0 0).2.1 : Int), .bool (codedF base.toNat l 0 0).2.2]) ∧ w = w' := by
  rcases hb with rfl | rfl
  all_goals
    generalize hB : codedF _ l 0 0 = R
    have HB := Lib.hid hB
    clear hB
    go_enter Tryd.func76, Tryd.ntmps76
    go_wp2_with fail
    go_loop [7, 4] (fun i n => ∃ k v : Nat, k ≤ l.length ∧ v ≤ 255 ∧ i = .int .i64 k ∧ n = .int .i64 v ∧ Hid (codedF _ (l.drop k) v k = R)) (fun i _ => l.length - (intOf i).toNat)
    case atStart => exact ⟨0, 0, Nat.zero_le _, by omega, rfl, rfl, HB⟩
    case round =>
      obtain ⟨k, v, hk, hv, rfl, rfl, hR⟩ := hrel
      by_cases hlt : k < l.length
      · obtain ⟨c, hd, hx, -⟩ := byte_at l k hlt
        have HD := Lib.hid hd
        have hxv := hexVal_bd c
        clear hd
        by_cases h92 : c = 92
        · subst h92
          go_wp2_with fail
          go_ret3
          have := hR.out
          rw [HD.out] at this
          rw [← this]
          simp [codedF]
        · have t := byte_ne h92
          have t' : ((c.toNat : Int) == 92) = false := t
          have HN := Lib.hid h92
          clear t h92
          go_wp2_with fail
          refine (value_any _ c).mono ?_
          rintro e w' ⟨rfl, rfl⟩
          have hu := hR.out
          rw [HD.out, codedF, if_neg HN.out] at hu
          have HU := Lib.hid hu
          clear HB hu hR
          go_wp2_with fail
          · have hu := HU.out
            simp only [Int.reduceToNat] at hu
            rw [if_pos (by omega)] at hu
            go_ret3
            rw [← hu]
            exact ⟨rfl, rfl⟩
          · have hu := HU.out
            simp only [Int.reduceToNat] at hu
            rw [if_neg (by omega), if_pos (by omega)] at hu
            go_ret3
            rw [← hu]
            exact ⟨rfl, rfl⟩
          · have hu := HU.out
            simp only [Int.reduceToNat] at hu
            rw [if_neg (by omega), if_neg (by omega)] at hu
            go_round
            case rel => exact ⟨k + 1, _, hlt, by omega, by go_num, by first | rfl | go_num, Lib.hid hu⟩
            case measure => simp [intOf]; omega
      · have hkn : k = l.length := by omega
        go_wp2_with fail
        go_ret3
        have := hR.out
        rw [hkn, List.drop_length] at this
        rw [← this]
        exact ⟨rfl, rfl⟩

theorem codedF_le' (base : Nat) : ∀ (l : List UInt8) (n i : Nat), (codedF base l n i).2.1 ≤ i + l.length
  | [], n, i => Nat.zero_le _
  | c :: r, n, i => by
    unfold codedF
    rw [List.length_cons]
    split
    · simp only; omega
    · split
      · exact Nat.zero_le _
      · split
        · exact Nat.zero_le _
        · have := codedF_le' base r (n * base + hexVal c) (i + 1)
          omega
theorem codedF_le (base : Nat) (l : List UInt8) : (codedF base l 0 0).2.1 ≤ l.length := by
  have := codedF_le' base l 0 0
  omega
end Go.Proofs.YtpiekfkkhgighaaDoor
