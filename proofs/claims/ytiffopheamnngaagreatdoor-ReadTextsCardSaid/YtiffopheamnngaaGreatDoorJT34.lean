import Derived.Test.YtiffopheamnngaaGreatDoorJT00
import Derived.Test.YtiffopheamnngaaGreatDoorProg
import Derived.BigQuiet
namespace Go.Proofs.YtiffopheamnngaaGreatDoor
open Go.RowKit
set_option maxRecDepth 100000
theorem ret_i {k : IntKind} {a b : Int} (h : a = b) : Ending.returned (.int k a) = .returned (.int k b) := by rw [h]
theorem ret_b {a b : Bool} (h : a = b) : Ending.returned (.bool a) = .returned (.bool b) := by rw [h]
set_option maxHeartbeats 2000000 in
theorem sort_lit0 (w : World) (c : Int) (h : c = 33 ∨ c = 34 ∨ c = 35 ∨ c = 36 ∨ c = 37 ∨ c = 38 ∨ c = 39 ∨ c = 40 ∨ c = 41 ∨ c = 42 ∨ c = 43) :
    Calls Tryz.prog 43 #[.int .u8 c] w fun e w' => e = .returned (.int .i64 (bsortI c)) ∧ w = w' := by
 rcases h with rfl | rfl | rfl | rfl | rfl | rfl | rfl | rfl | rfl | rfl | rfl
 all_goals
  go_enter Tryz.func43, Tryz.ntmps43
  go_wp2_with fail
  go_ret
  exact ⟨ret_i (by decide), rfl⟩
set_option maxHeartbeats 2000000 in
theorem sort_lit1 (w : World) (c : Int) (h : c = 44 ∨ c = 45 ∨ c = 46 ∨ c = 47 ∨ c = 58 ∨ c = 59 ∨ c = 60 ∨ c = 61 ∨ c = 62 ∨ c = 63 ∨ c = 64) :
    Calls Tryz.prog 43 #[.int .u8 c] w fun e w' => e = .returned (.int .i64 (bsortI c)) ∧ w = w' := by
 rcases h with rfl | rfl | rfl | rfl | rfl | rfl | rfl | rfl | rfl | rfl | rfl
 all_goals
  go_enter Tryz.func43, Tryz.ntmps43
  go_wp2_with fail
  go_ret
  exact ⟨ret_i (by decide), rfl⟩
set_option maxHeartbeats 2000000 in
theorem sort_lit2 (w : World) (c : Int) (h : c = 91 ∨ c = 92 ∨ c = 93 ∨ c = 94 ∨ c = 95 ∨ c = 96 ∨ c = 123 ∨ c = 124 ∨ c = 125 ∨ c = 126 ∨ c = 32) :
    Calls Tryz.prog 43 #[.int .u8 c] w fun e w' => e = .returned (.int .i64 (bsortI c)) ∧ w = w' := by
 rcases h with rfl | rfl | rfl | rfl | rfl | rfl | rfl | rfl | rfl | rfl | rfl
 all_goals
  go_enter Tryz.func43, Tryz.ntmps43
  go_wp2_with fail
  go_ret
  exact ⟨ret_i (by decide), rfl⟩
set_option maxHeartbeats 2000000 in
theorem sort_iv0 (w : World) (c : Int) (h0 : 0 ≤ c) (h1 : c ≤ 8) :
    Calls Tryz.prog 43 #[.int .u8 c] w fun e w' => e = .returned (.int .i64 (bsortI c)) ∧ w = w' := by
 go_enter Tryz.func43, Tryz.ntmps43
 go_wp2_with fail
 go_ret
 exact ⟨ret_i (by unfold bsortI; (repeat' split) <;> omega), rfl⟩
set_option maxHeartbeats 2000000 in
theorem sort_iv1 (w : World) (c : Int) (h0 : 9 ≤ c) (h1 : c ≤ 13) :
    Calls Tryz.prog 43 #[.int .u8 c] w fun e w' => e = .returned (.int .i64 (bsortI c)) ∧ w = w' := by
 go_enter Tryz.func43, Tryz.ntmps43
 go_wp2_with fail
 go_ret
 exact ⟨ret_i (by unfold bsortI; (repeat' split) <;> omega), rfl⟩
set_option maxHeartbeats 2000000 in
theorem sort_iv2 (w : World) (c : Int) (h0 : 14 ≤ c) (h1 : c ≤ 31) :
    Calls Tryz.prog 43 #[.int .u8 c] w fun e w' => e = .returned (.int .i64 (bsortI c)) ∧ w = w' := by
 go_enter Tryz.func43, Tryz.ntmps43
 go_wp2_with fail
 go_ret
 exact ⟨ret_i (by unfold bsortI; (repeat' split) <;> omega), rfl⟩
set_option maxHeartbeats 2000000 in
theorem sort_iv3 (w : World) (c : Int) (h0 : 48 ≤ c) (h1 : c ≤ 57) :
    Calls Tryz.prog 43 #[.int .u8 c] w fun e w' => e = .returned (.int .i64 (bsortI c)) ∧ w = w' := by
 go_enter Tryz.func43, Tryz.ntmps43
 go_wp2_with fail
 go_ret
 exact ⟨ret_i (by unfold bsortI; (repeat' split) <;> omega), rfl⟩
set_option maxHeartbeats 2000000 in
theorem sort_iv4 (w : World) (c : Int) (h0 : 65 ≤ c) (h1 : c ≤ 90) :
    Calls Tryz.prog 43 #[.int .u8 c] w fun e w' => e = .returned (.int .i64 (bsortI c)) ∧ w = w' := by
 go_enter Tryz.func43, Tryz.ntmps43
 go_wp2_with fail
 go_ret
 exact ⟨ret_i (by unfold bsortI; (repeat' split) <;> omega), rfl⟩
set_option maxHeartbeats 2000000 in
theorem sort_iv5 (w : World) (c : Int) (h0 : 97 ≤ c) (h1 : c ≤ 122) :
    Calls Tryz.prog 43 #[.int .u8 c] w fun e w' => e = .returned (.int .i64 (bsortI c)) ∧ w = w' := by
 go_enter Tryz.func43, Tryz.ntmps43
 go_wp2_with fail
 go_ret
 exact ⟨ret_i (by unfold bsortI; (repeat' split) <;> omega), rfl⟩
set_option maxHeartbeats 2000000 in
theorem sort_iv6 (w : World) (c : Int) (h0 : 127 ≤ c) (h1 : c ≤ 255) :
    Calls Tryz.prog 43 #[.int .u8 c] w fun e w' => e = .returned (.int .i64 (bsortI c)) ∧ w = w' := by
 go_enter Tryz.func43, Tryz.ntmps43
 go_wp2_with fail
 go_ret
 exact ⟨ret_i (by unfold bsortI; (repeat' split) <;> omega), rfl⟩
theorem sort_any (w : World) (c : Int) (h0 : 0 ≤ c) (h1 : c ≤ 255) :
    Calls Tryz.prog 43 #[.int .u8 c] w fun e w' => e = .returned (.int .i64 (bsortI c)) ∧ w = w' := by
 by_cases i0 : 0 ≤ c ∧ c ≤ 8
 ·exact sort_iv0 w c i0.1 i0.2
 by_cases i1 : 9 ≤ c ∧ c ≤ 13
 ·exact sort_iv1 w c i1.1 i1.2
 by_cases i2 : 14 ≤ c ∧ c ≤ 31
 ·exact sort_iv2 w c i2.1 i2.2
 by_cases i3 : 48 ≤ c ∧ c ≤ 57
 ·exact sort_iv3 w c i3.1 i3.2
 by_cases i4 : 65 ≤ c ∧ c ≤ 90
 ·exact sort_iv4 w c i4.1 i4.2
 by_cases i5 : 97 ≤ c ∧ c ≤ 122
 ·exact sort_iv5 w c i5.1 i5.2
 by_cases i6 : 127 ≤ c ∧ c ≤ 255
 ·exact sort_iv6 w c i6.1 i6.2
 by_cases g0 : c = 33 ∨ c = 34 ∨ c = 35 ∨ c = 36 ∨ c = 37 ∨ c = 38 ∨ c = 39 ∨ c = 40 ∨ c = 41 ∨ c = 42 ∨ c = 43
 ·exact sort_lit0 w c g0
 by_cases g1 : c = 44 ∨ c = 45 ∨ c = 46 ∨ c = 47 ∨ c = 58 ∨ c = 59 ∨ c = 60 ∨ c = 61 ∨ c = 62 ∨ c = 63 ∨ c = 64
 ·exact sort_lit1 w c g1
 exact sort_lit2 w c (by omega)
theorem sort_byte (w : World) (c : UInt8) : Calls Tryz.prog 43 #[.int .u8 (c.toNat : Int)] w fun e w' => e = .returned (.int .i64 (bsort c)) ∧ w = w' :=
 sort_any w c.toNat (by omega) (by have := c.toNat_lt; omega)
theorem hexVal_bd (c : UInt8) : hexVal c ≤ 16 := by
 unfold hexVal
 have := c.toNat_lt
 split
 ·omega
 ·split
  ·omega
  ·split <;> omega
set_option maxHeartbeats 1000000 in
theorem value_any (w : World) (c : UInt8) : Calls Tryz.prog 112 #[.int .u8 (c.toNat : Int)] w fun e w' => e = .returned (.int .i64 (hexVal c : Int)) ∧ w = w' := by
 have hc := c.toNat_lt
 unfold hexVal
 generalize c.toNat = n at *
 have hn : (n : Int) < 256 := by omega
 by_cases h1 : 48 ≤ n ∧ n ≤ 57
 ·rw [if_pos h1]
  have a1 : 48 ≤ (n : Int) := by omega
  have a2 : (n : Int) ≤ 57 := by omega
  have H := Lib.hid h1
  clear h1
  go_enter Tryz.func112, Tryz.ntmps112
  go_wp2_with fail
  go_ret
  exact ⟨ret_i (by omega), rfl⟩
 rw [if_neg h1]
 by_cases h2 : 97 ≤ n ∧ n ≤ 102
 ·rw [if_pos h2]
  have a1 : 97 ≤ (n : Int) := by omega
  have a2 : (n : Int) ≤ 102 := by omega
  have H := Lib.hid h2
  clear h1 h2
  go_enter Tryz.func112, Tryz.ntmps112
  go_wp2_with fail
  go_ret
  exact ⟨ret_i (by omega), rfl⟩
 rw [if_neg h2]
 by_cases h3 : 65 ≤ n ∧ n ≤ 70
 ·rw [if_pos h3]
  have a1 : 65 ≤ (n : Int) := by omega
  have a2 : (n : Int) ≤ 70 := by omega
  have H := Lib.hid h3
  clear h1 h2 h3
  go_enter Tryz.func112, Tryz.ntmps112
  go_wp2_with fail
  go_ret
  exact ⟨ret_i (by omega), rfl⟩
 rw [if_neg h3]
 have H1 := Lib.hid h1
 have H2 := Lib.hid h2
 have H3 := Lib.hid h3
 clear h1 h2 h3
 rcases (show (n : Int) < 48 ∨ (58 ≤ (n : Int) ∧ (n : Int) < 65) ∨ (71 ≤ (n : Int) ∧ (n : Int) < 97) ∨ 103 ≤ (n : Int) by have := H1.out; have := H2.out; have := H3.out; omega) with h | ⟨h, h'⟩ | ⟨h, h'⟩ | h
 all_goals
  go_enter Tryz.func112, Tryz.ntmps112
  go_wp2_with fail
  go_ret
  exact ⟨rfl, rfl⟩
theorem byte_ne {c d : UInt8} (h : c ≠ d) : ((c.toNat : Int) == (d.toNat : Int)) = false := by
 rw [beq_eq_false_iff_ne]
 intro e
 exact h (UInt8.toNat_inj.1 (by omega))
theorem byte_at (l : List UInt8) (k : Nat) (h : k < l.length) : ∃ c, l.drop k = c :: l.drop (k + 1) ∧ (⟨l.toArray⟩ : ByteArray)[k]'(by show k < l.toArray.size; simpa using h) = c ∧ l[k]? = some c :=
 ⟨l[k], List.drop_eq_getElem_cons h, rfl, List.getElem?_eq_getElem h⟩
set_option maxHeartbeats 2000000 in
theorem coded_lit (w : World) (l : List UInt8) (base : Int) (hb : base = 8 ∨ base = 16) (hl : (l.length : Int) ≤ 9223372036854775000) :
    Calls Tryz.prog 100 #[.string ⟨l.toArray⟩, .int .i64 base] w fun e w' =>
     e = .returned (.tuple #[.int .i64 ((codedF base.toNat l 0 0).1 : Int), .int .i64 ((codedF base.toNat l 0 0).2.1 : Int), .bool (codedF base.toNat l 0 0).2.2]) ∧ w = w' := by
 rcases hb with rfl | rfl
 all_goals
  generalize hB : codedF _ l 0 0 = R
  have HB := Lib.hid hB
  clear hB
  go_enter Tryz.func100, Tryz.ntmps100
  go_wp2_with fail
  go_loop [7, 4] (fun i n => ∃ k v : Nat, k ≤ l.length ∧ v ≤ 255 ∧ i = .int .i64 k ∧ n = .int .i64 v ∧ Hid (codedF _ (l.drop k) v k = R)) (fun i _ => l.length - (intOf i).toNat)
  case atStart => exact ⟨0, 0, Nat.zero_le _, by omega, rfl, rfl, HB⟩
  case round =>
   obtain ⟨k, v, hk, hv, rfl, rfl, hR⟩ := hrel
   by_cases hlt : k < l.length
   ·obtain ⟨c, hd, hx, -⟩ := byte_at l k hlt
    have HD := Lib.hid hd
    have hxv := hexVal_bd c
    clear hd
    by_cases h92 : c = 92
    ·subst h92
     go_wp2_with fail
     go_ret3
     have := hR.out
     rw [HD.out] at this
     rw [← this]
     simp [codedF]
    ·have t := byte_ne h92
     have t' : ((c.toNat : Int) == 92) = false := t
     have HN := Lib.hid h92
     clear t h92
     go_wp2_with fail
     refine (value_any _ c).mono ?_
     rintro e w' ⟨rfl, rfl⟩
     have hu := hR.out
     rw [HD.out, codedF, if_neg HN.out] at hu
     have HU := Lib.hid hu
     clear HB hu hR
     go_wp2_with fail
     ·have hu := HU.out
      simp only [Int.reduceToNat] at hu
      rw [if_pos (by omega)] at hu
      go_ret3
      rw [← hu]
      exact ⟨rfl, rfl⟩
     ·have hu := HU.out
      simp only [Int.reduceToNat] at hu
      rw [if_neg (by omega), if_pos (by omega)] at hu
      go_ret3
      rw [← hu]
      exact ⟨rfl, rfl⟩
     ·have hu := HU.out
      simp only [Int.reduceToNat] at hu
      rw [if_neg (by omega), if_neg (by omega)] at hu
      go_round
      case rel => exact ⟨k + 1, _, hlt, by omega, by go_num, by first | rfl | go_num, Lib.hid hu⟩
      case measure => simp [intOf]; omega
   ·have hkn : k = l.length := by omega
    go_wp2_with fail
    go_ret3
    have := hR.out
    rw [hkn, List.drop_length] at this
    rw [← this]
    exact ⟨rfl, rfl⟩
theorem codedF_le' (base : Nat) : ∀ (l : List UInt8) (n i : Nat), (codedF base l n i).2.1 ≤ i + l.length
 | [], n, i => Nat.zero_le _
 | c :: r, n, i => by
  unfold codedF
  rw [List.length_cons]
  split
  ·simp only; omega
  ·split
   ·exact Nat.zero_le _
   ·split
    ·exact Nat.zero_le _
    ·have := codedF_le' base r (n * base + hexVal c) (i + 1)
     omega
theorem codedF_le (base : Nat) (l : List UInt8) : (codedF base l 0 0).2.1 ≤ l.length := by
 have := codedF_le' base l 0 0
 omega
set_option maxHeartbeats 1000000 in
theorem digit_any (w : World) (c : UInt8) : Calls Tryz.prog 98 #[.int .u8 (c.toNat : Int)] w fun e w' => e = .returned (.int .i64 (digVal c : Int)) ∧ w = w' := by
 have hc := c.toNat_lt
 unfold digVal
 generalize c.toNat = n at *
 have hn : (n : Int) < 256 := by omega
 by_cases h1 : 48 ≤ n ∧ n ≤ 57
 ·rw [if_pos h1]
  have a1 : 48 ≤ (n : Int) := by omega
  have a2 : (n : Int) ≤ 57 := by omega
  have H := Lib.hid h1
  clear h1
  go_enter Tryz.func98, Tryz.ntmps98
  go_wp2_with fail
  go_ret
  exact ⟨ret_i (by omega), rfl⟩
 rw [if_neg h1]
 by_cases h2 : 97 ≤ n ∧ n ≤ 122
 ·rw [if_pos h2]
  have a1 : 97 ≤ (n : Int) := by omega
  have a2 : (n : Int) ≤ 122 := by omega
  have H := Lib.hid h2
  clear h1 h2
  go_enter Tryz.func98, Tryz.ntmps98
  go_wp2_with fail
  go_ret
  exact ⟨ret_i (by omega), rfl⟩
 rw [if_neg h2]
 by_cases h3 : 65 ≤ n ∧ n ≤ 90
 ·rw [if_pos h3]
  have a1 : 65 ≤ (n : Int) := by omega
  have a2 : (n : Int) ≤ 90 := by omega
  have H := Lib.hid h3
  clear h1 h2 h3
  go_enter Tryz.func98, Tryz.ntmps98
  go_wp2_with fail
  go_ret
  exact ⟨ret_i (by omega), rfl⟩
 rw [if_neg h3]
 have H1 := Lib.hid h1
 have H2 := Lib.hid h2
 have H3 := Lib.hid h3
 clear h1 h2 h3
 rcases (show (n : Int) < 48 ∨ (58 ≤ (n : Int) ∧ (n : Int) < 65) ∨ (91 ≤ (n : Int) ∧ (n : Int) < 97) ∨ 123 ≤ (n : Int) by have := H1.out; have := H2.out; have := H3.out; omega) with h | ⟨h, h'⟩ | ⟨h, h'⟩ | h
 all_goals
  go_enter Tryz.func98, Tryz.ntmps98
  go_wp2_with fail
  go_ret
  exact ⟨rfl, rfl⟩
structure ParseSt (base : Nat) (l : List UInt8) (k x : Nat) (ob : Bool) : Prop where
 dig : digitsIn base (l.take k) = true
 le : x ≤ 9223372036854775808
 no : ob = false → x = valOf base (l.take k)
 yes : ob = true → 9223372036854775808 < valOf base (l.take k)
theorem digitsIn_snoc (base : Nat) (l : List UInt8) (c : UInt8) : digitsIn base (l ++ [c]) = (digitsIn base l && decide (digVal c < base)) := by
 unfold digitsIn
 simp
theorem digitsIn_bad {base : Nat} {l : List UInt8} {k : Nat} {c : UInt8} (h : l[k]? = some c) (hc : base ≤ digVal c) : digitsIn base l = false := by
 unfold digitsIn
 rw [List.all_eq_false]
 exact ⟨c, List.mem_of_getElem? h, by simpa using hc⟩
theorem take_snoc' {l : List UInt8} {k : Nat} {c : UInt8} (h : l[k]? = some c) : l.take (k + 1) = l.take k ++ [c] := by
 obtain ⟨hk, rfl⟩ := List.getElem?_eq_some_iff.1 h
 exact List.take_succ_eq_append_getElem hk
theorem ParseSt.over {base : Nat} {l : List UInt8} {k x : Nat} {c : UInt8} (hb : 1 ≤ base) (h : ParseSt base l k x true) (hc : l[k]? = some c) (hd : digVal c < base) : ParseSt base l (k + 1) x true :=
 ⟨by rw [take_snoc' hc, digitsIn_snoc, h.dig]; simpa using hd, h.le, fun e => (by cases e), fun _ => by
  have := h.yes rfl
  have h2 := valOf_mono base hb (l.take k) [c]
  rw [take_snoc' hc]
  omega⟩
theorem ParseSt.beyond {base : Nat} {l : List UInt8} {k x : Nat} {c : UInt8} (hb : 1 ≤ base) (h : ParseSt base l k x false) (hc : l[k]? = some c) (hd : digVal c < base) (hx : (9223372036854775808 - digVal c) / base < x) : ParseSt base l (k + 1) x true :=
 ⟨by rw [take_snoc' hc, digitsIn_snoc, h.dig]; simpa using hd, h.le, fun e => (by cases e), fun _ => by
  rw [take_snoc' hc, valOf_snoc, ← h.no rfl]
  exact (beyond_iff x (digVal c) base hb (digVal_le c)).1 hx⟩
theorem ParseSt.go {base : Nat} {l : List UInt8} {k x : Nat} {c : UInt8} (hb : 1 ≤ base) (h : ParseSt base l k x false) (hc : l[k]? = some c) (hd : digVal c < base) (hx : ¬ (9223372036854775808 - digVal c) / base < x) : ParseSt base l (k + 1) (x * base + digVal c) false :=
 ⟨by rw [take_snoc' hc, digitsIn_snoc, h.dig]; simpa using hd, by
  rw [beyond_iff x (digVal c) base hb (digVal_le c)] at hx
  omega, fun _ => by rw [take_snoc' hc, valOf_snoc, ← h.no rfl], fun e => (by cases e)⟩
theorem ParseSt.fin {base : Nat} {l : List UInt8} {x : Nat} {ob : Bool} (hl : l ≠ []) (h : ParseSt base l l.length x ob) : parseF base l = if ob = true then (0, 11) else (tops x, 0) := by
 have h1 := h.dig
 have h2 := h.no
 have h3 := h.yes
 have h4 := h.le
 rw [List.take_length] at h1 h2 h3
 unfold parseF
 rw [if_neg (by simp [hl, h1])]
 cases ob
 ·rw [← h2 rfl, if_neg (by omega)]
  rfl
 ·rw [if_pos (h3 rfl)]
  rfl
theorem tops_wrap (x : Nat) (h : x ≤ 9223372036854775808) : wrap64 (x : Int) = tops x := by
 unfold tops
 by_cases e : x = 9223372036854775808
 ·rw [if_pos e, e]
  unfold wrap64
  omega
 ·rw [if_neg e]
  unfold wrap64
  omega
theorem ret_tops (x : Nat) (h : x ≤ 9223372036854775808) : Ending.returned (.tuple #[.int .i64 (wrap64 (x : Int)), .int .i64 0]) = .returned (.tuple #[.int .i64 (tops x), .int .i64 0]) := by rw [tops_wrap x h]
set_option maxHeartbeats 1000000 in
theorem parse_2 (w : World) (l : List UInt8) (hl : (l.length : Int) ≤ 1000000) :
    Calls Tryz.prog 74 #[.string ⟨l.toArray⟩, .int .i64 2] w fun e w' => e = .returned (.tuple #[.int .i64 (parseF 2 l).1, .int .i64 (parseF 2 l).2]) ∧ w = w' := by
 by_cases hne : l = []
 ·subst hne
  go_enter Tryz.func74, Tryz.ntmps74
  go_wp2_with fail
  go_ret2
  exact ⟨rfl, rfl⟩
 ·have hne' : l.isEmpty = false := by simpa using hne
  have HNE := Lib.hid hne
  clear hne
  generalize hR : parseF 2 l = R
  have HR := Lib.hid hR
  clear hR
  go_enter Tryz.func74, Tryz.ntmps74
  go_wp2_with fail
  go_loop [6, 7, 8] (fun v o i => ∃ (k x : Nat) (ob : Bool), k ≤ l.length ∧ (x : Int) ≤ 9223372036854775808 ∧ i = .int .i64 k ∧ o = .bool ob ∧ v = .int .u64 x ∧ Hid (ParseSt 2 l k x ob)) (fun _ _ i => l.length - (intOf i).toNat)
  case atStart => exact ⟨0, 0, false, Nat.zero_le _, by omega, rfl, rfl, rfl, ⟨rfl, by omega, fun _ => rfl, fun e => by cases e⟩⟩
  case round =>
   obtain ⟨k, x, ob, hk, hx8, rfl, rfl, rfl, hS⟩ := hrel
   by_cases hlt : k < l.length
   ·obtain ⟨c, hd, hx, hg⟩ := byte_at l k hlt
    have HG := Lib.hid hg
    have hlt' : (k : Int) < (l.length : Int) := by omega
    have hd36 := digVal_le c
    clear hd hg
    go_wp2_with fail
    refine (digit_any _ c).mono ?_
    rintro e w' ⟨rfl, rfl⟩
    have HN := Lib.hid hlt
    cases ob
    ·go_wp2_with fail
     ·have hF := digitsIn_bad HG.out (show 2 ≤ digVal c by omega)
      have hr := HR.out
      unfold parseF at hr
      rw [if_pos (.inr hF)] at hr
      go_ret2
      rw [← hr]
      exact ⟨rfl, rfl⟩
     ·have hS2 := hS.out.beyond (by omega) HG.out (by omega) (by omega)
      go_round
      case rel => exact ⟨k + 1, x, true, HN.out, hx8, by go_num, rfl, rfl, Lib.hid hS2⟩
      case measure => simp [intOf]; omega
     ·have hS2 := hS.out.go (by omega) HG.out (by omega) (by omega)
      have hle := hS2.le
      go_round
      case rel => exact ⟨k + 1, _, false, HN.out, by omega, by go_num, rfl, by go_num, Lib.hid hS2⟩
      case measure => simp [intOf]; omega
    ·go_wp2_with fail
     ·have hF := digitsIn_bad HG.out (show 2 ≤ digVal c by omega)
      have hr := HR.out
      unfold parseF at hr
      rw [if_pos (.inr hF)] at hr
      go_ret2
      rw [← hr]
      exact ⟨rfl, rfl⟩
     ·have hS2 := hS.out.over (by omega) HG.out (by omega)
      go_round
      case rel => exact ⟨k + 1, x, true, HN.out, hx8, by go_num, rfl, rfl, Lib.hid hS2⟩
      case measure => simp [intOf]; omega
   ·have hkn : k = l.length := by omega
    have hS' := hS.out
    rw [hkn] at hS'
    have hF := hS'.fin HNE.out
    rw [HR.out] at hF
    have HF := Lib.hid hF
    clear hS' hF hkn
    cases ob
    ·go_wp2_with fail
     go_ret2
     rw [HF.out]
     exact ⟨ret_tops x (by omega), rfl⟩
    ·go_wp2_with fail
     go_ret2
     rw [HF.out]
     exact ⟨rfl, rfl⟩
set_option maxHeartbeats 1000000 in
theorem parse_8 (w : World) (l : List UInt8) (hl : (l.length : Int) ≤ 1000000) :
    Calls Tryz.prog 74 #[.string ⟨l.toArray⟩, .int .i64 8] w fun e w' => e = .returned (.tuple #[.int .i64 (parseF 8 l).1, .int .i64 (parseF 8 l).2]) ∧ w = w' := by
 by_cases hne : l = []
 ·subst hne
  go_enter Tryz.func74, Tryz.ntmps74
  go_wp2_with fail
  go_ret2
  exact ⟨rfl, rfl⟩
 ·have hne' : l.isEmpty = false := by simpa using hne
  have HNE := Lib.hid hne
  clear hne
  generalize hR : parseF 8 l = R
  have HR := Lib.hid hR
  clear hR
  go_enter Tryz.func74, Tryz.ntmps74
  go_wp2_with fail
  go_loop [6, 7, 8] (fun v o i => ∃ (k x : Nat) (ob : Bool), k ≤ l.length ∧ (x : Int) ≤ 9223372036854775808 ∧ i = .int .i64 k ∧ o = .bool ob ∧ v = .int .u64 x ∧ Hid (ParseSt 8 l k x ob)) (fun _ _ i => l.length - (intOf i).toNat)
  case atStart => exact ⟨0, 0, false, Nat.zero_le _, by omega, rfl, rfl, rfl, ⟨rfl, by omega, fun _ => rfl, fun e => by cases e⟩⟩
  case round =>
   obtain ⟨k, x, ob, hk, hx8, rfl, rfl, rfl, hS⟩ := hrel
   by_cases hlt : k < l.length
   ·obtain ⟨c, hd, hx, hg⟩ := byte_at l k hlt
    have HG := Lib.hid hg
    have hlt' : (k : Int) < (l.length : Int) := by omega
    have hd36 := digVal_le c
    clear hd hg
    go_wp2_with fail
    refine (digit_any _ c).mono ?_
    rintro e w' ⟨rfl, rfl⟩
    have HN := Lib.hid hlt
    cases ob
    ·go_wp2_with fail
     ·have hF := digitsIn_bad HG.out (show 8 ≤ digVal c by omega)
      have hr := HR.out
      unfold parseF at hr
      rw [if_pos (.inr hF)] at hr
      go_ret2
      rw [← hr]
      exact ⟨rfl, rfl⟩
     ·have hS2 := hS.out.beyond (by omega) HG.out (by omega) (by omega)
      go_round
      case rel => exact ⟨k + 1, x, true, HN.out, hx8, by go_num, rfl, rfl, Lib.hid hS2⟩
      case measure => simp [intOf]; omega
     ·have hS2 := hS.out.go (by omega) HG.out (by omega) (by omega)
      have hle := hS2.le
      go_round
      case rel => exact ⟨k + 1, _, false, HN.out, by omega, by go_num, rfl, by go_num, Lib.hid hS2⟩
      case measure => simp [intOf]; omega
    ·go_wp2_with fail
     ·have hF := digitsIn_bad HG.out (show 8 ≤ digVal c by omega)
      have hr := HR.out
      unfold parseF at hr
      rw [if_pos (.inr hF)] at hr
      go_ret2
      rw [← hr]
      exact ⟨rfl, rfl⟩
     ·have hS2 := hS.out.over (by omega) HG.out (by omega)
      go_round
      case rel => exact ⟨k + 1, x, true, HN.out, hx8, by go_num, rfl, rfl, Lib.hid hS2⟩
      case measure => simp [intOf]; omega
   ·have hkn : k = l.length := by omega
    have hS' := hS.out
    rw [hkn] at hS'
    have hF := hS'.fin HNE.out
    rw [HR.out] at hF
    have HF := Lib.hid hF
    clear hS' hF hkn
    cases ob
    ·go_wp2_with fail
     go_ret2
     rw [HF.out]
     exact ⟨ret_tops x (by omega), rfl⟩
    ·go_wp2_with fail
     go_ret2
     rw [HF.out]
     exact ⟨rfl, rfl⟩
set_option maxHeartbeats 1000000 in
theorem parse_10 (w : World) (l : List UInt8) (hl : (l.length : Int) ≤ 1000000) :
    Calls Tryz.prog 74 #[.string ⟨l.toArray⟩, .int .i64 10] w fun e w' => e = .returned (.tuple #[.int .i64 (parseF 10 l).1, .int .i64 (parseF 10 l).2]) ∧ w = w' := by
 by_cases hne : l = []
 ·subst hne
  go_enter Tryz.func74, Tryz.ntmps74
  go_wp2_with fail
  go_ret2
  exact ⟨rfl, rfl⟩
 ·have hne' : l.isEmpty = false := by simpa using hne
  have HNE := Lib.hid hne
  clear hne
  generalize hR : parseF 10 l = R
  have HR := Lib.hid hR
  clear hR
  go_enter Tryz.func74, Tryz.ntmps74
  go_wp2_with fail
  go_loop [6, 7, 8] (fun v o i => ∃ (k x : Nat) (ob : Bool), k ≤ l.length ∧ (x : Int) ≤ 9223372036854775808 ∧ i = .int .i64 k ∧ o = .bool ob ∧ v = .int .u64 x ∧ Hid (ParseSt 10 l k x ob)) (fun _ _ i => l.length - (intOf i).toNat)
  case atStart => exact ⟨0, 0, false, Nat.zero_le _, by omega, rfl, rfl, rfl, ⟨rfl, by omega, fun _ => rfl, fun e => by cases e⟩⟩
  case round =>
   obtain ⟨k, x, ob, hk, hx8, rfl, rfl, rfl, hS⟩ := hrel
   by_cases hlt : k < l.length
   ·obtain ⟨c, hd, hx, hg⟩ := byte_at l k hlt
    have HG := Lib.hid hg
    have hlt' : (k : Int) < (l.length : Int) := by omega
    have hd36 := digVal_le c
    clear hd hg
    go_wp2_with fail
    refine (digit_any _ c).mono ?_
    rintro e w' ⟨rfl, rfl⟩
    have HN := Lib.hid hlt
    cases ob
    ·go_wp2_with fail
     ·have hF := digitsIn_bad HG.out (show 10 ≤ digVal c by omega)
      have hr := HR.out
      unfold parseF at hr
      rw [if_pos (.inr hF)] at hr
      go_ret2
      rw [← hr]
      exact ⟨rfl, rfl⟩
     ·have hS2 := hS.out.beyond (by omega) HG.out (by omega) (by omega)
      go_round
      case rel => exact ⟨k + 1, x, true, HN.out, hx8, by go_num, rfl, rfl, Lib.hid hS2⟩
      case measure => simp [intOf]; omega
     ·have hS2 := hS.out.go (by omega) HG.out (by omega) (by omega)
      have hle := hS2.le
      go_round
      case rel => exact ⟨k + 1, _, false, HN.out, by omega, by go_num, rfl, by go_num, Lib.hid hS2⟩
      case measure => simp [intOf]; omega
    ·go_wp2_with fail
     ·have hF := digitsIn_bad HG.out (show 10 ≤ digVal c by omega)
      have hr := HR.out
      unfold parseF at hr
      rw [if_pos (.inr hF)] at hr
      go_ret2
      rw [← hr]
      exact ⟨rfl, rfl⟩
     ·have hS2 := hS.out.over (by omega) HG.out (by omega)
      go_round
      case rel => exact ⟨k + 1, x, true, HN.out, hx8, by go_num, rfl, rfl, Lib.hid hS2⟩
      case measure => simp [intOf]; omega
   ·have hkn : k = l.length := by omega
    have hS' := hS.out
    rw [hkn] at hS'
    have hF := hS'.fin HNE.out
    rw [HR.out] at hF
    have HF := Lib.hid hF
    clear hS' hF hkn
    cases ob
    ·go_wp2_with fail
     go_ret2
     rw [HF.out]
     exact ⟨ret_tops x (by omega), rfl⟩
    ·go_wp2_with fail
     go_ret2
     rw [HF.out]
     exact ⟨rfl, rfl⟩
set_option maxHeartbeats 1000000 in
theorem parse_16 (w : World) (l : List UInt8) (hl : (l.length : Int) ≤ 1000000) :
    Calls Tryz.prog 74 #[.string ⟨l.toArray⟩, .int .i64 16] w fun e w' => e = .returned (.tuple #[.int .i64 (parseF 16 l).1, .int .i64 (parseF 16 l).2]) ∧ w = w' := by
 by_cases hne : l = []
 ·subst hne
  go_enter Tryz.func74, Tryz.ntmps74
  go_wp2_with fail
  go_ret2
  exact ⟨rfl, rfl⟩
 ·have hne' : l.isEmpty = false := by simpa using hne
  have HNE := Lib.hid hne
  clear hne
  generalize hR : parseF 16 l = R
  have HR := Lib.hid hR
  clear hR
  go_enter Tryz.func74, Tryz.ntmps74
  go_wp2_with fail
  go_loop [6, 7, 8] (fun v o i => ∃ (k x : Nat) (ob : Bool), k ≤ l.length ∧ (x : Int) ≤ 9223372036854775808 ∧ i = .int .i64 k ∧ o = .bool ob ∧ v = .int .u64 x ∧ Hid (ParseSt 16 l k x ob)) (fun _ _ i => l.length - (intOf i).toNat)
  case atStart => exact ⟨0, 0, false, Nat.zero_le _, by omega, rfl, rfl, rfl, ⟨rfl, by omega, fun _ => rfl, fun e => by cases e⟩⟩
  case round =>
   obtain ⟨k, x, ob, hk, hx8, rfl, rfl, rfl, hS⟩ := hrel
   by_cases hlt : k < l.length
   ·obtain ⟨c, hd, hx, hg⟩ := byte_at l k hlt
    have HG := Lib.hid hg
    have hlt' : (k : Int) < (l.length : Int) := by omega
    have hd36 := digVal_le c
    clear hd hg
    go_wp2_with fail
    refine (digit_any _ c).mono ?_
    rintro e w' ⟨rfl, rfl⟩
    have HN := Lib.hid hlt
    cases ob
    ·go_wp2_with fail
     ·have hF := digitsIn_bad HG.out (show 16 ≤ digVal c by omega)
      have hr := HR.out
      unfold parseF at hr
      rw [if_pos (.inr hF)] at hr
      go_ret2
      rw [← hr]
      exact ⟨rfl, rfl⟩
     ·have hS2 := hS.out.beyond (by omega) HG.out (by omega) (by omega)
      go_round
      case rel => exact ⟨k + 1, x, true, HN.out, hx8, by go_num, rfl, rfl, Lib.hid hS2⟩
      case measure => simp [intOf]; omega
     ·have hS2 := hS.out.go (by omega) HG.out (by omega) (by omega)
      have hle := hS2.le
      go_round
      case rel => exact ⟨k + 1, _, false, HN.out, by omega, by go_num, rfl, by go_num, Lib.hid hS2⟩
      case measure => simp [intOf]; omega
    ·go_wp2_with fail
     ·have hF := digitsIn_bad HG.out (show 16 ≤ digVal c by omega)
      have hr := HR.out
      unfold parseF at hr
      rw [if_pos (.inr hF)] at hr
      go_ret2
      rw [← hr]
      exact ⟨rfl, rfl⟩
     ·have hS2 := hS.out.over (by omega) HG.out (by omega)
      go_round
      case rel => exact ⟨k + 1, x, true, HN.out, hx8, by go_num, rfl, rfl, Lib.hid hS2⟩
      case measure => simp [intOf]; omega
   ·have hkn : k = l.length := by omega
    have hS' := hS.out
    rw [hkn] at hS'
    have hF := hS'.fin HNE.out
    rw [HR.out] at hF
    have HF := Lib.hid hF
    clear hS' hF hkn
    cases ob
    ·go_wp2_with fail
     go_ret2
     rw [HF.out]
     exact ⟨ret_tops x (by omega), rfl⟩
    ·go_wp2_with fail
     go_ret2
     rw [HF.out]
     exact ⟨rfl, rfl⟩
theorem parse_lit (w : World) (l : List UInt8) (base : Int) (hb : base = 2 ∨ base = 8 ∨ base = 10 ∨ base = 16) (hl : (l.length : Int) ≤ 1000000) :
    Calls Tryz.prog 74 #[.string ⟨l.toArray⟩, .int .i64 base] w fun e w' => e = .returned (.tuple #[.int .i64 (parseF base.toNat l).1, .int .i64 (parseF base.toNat l).2]) ∧ w = w' := by
 rcases hb with rfl | rfl | rfl | rfl
 ·exact parse_2 w l hl
 ·exact parse_8 w l hl
 ·exact parse_10 w l hl
 ·exact parse_16 w l hl
end Go.Proofs.YtiffopheamnngaaGreatDoor
