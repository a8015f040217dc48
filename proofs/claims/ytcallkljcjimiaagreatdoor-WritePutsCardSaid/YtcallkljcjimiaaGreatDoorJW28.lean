import Derived.Test.YtcallkljcjimiaaGreatDoorJW12
import Derived.LoopTactic
import Derived.Laws.DeepStrings4
namespace Go.Proofs.YtcallkljcjimiaaGreatDoor
open Go.RowKit
set_option maxRecDepth 100000
set_option maxHeartbeats 1000000 in
theorem digit_any (w : World) (c : UInt8) : Calls Tryz.prog 139 #[.int .u8 (c.toNat : Int)] w fun e w' => e = .returned (.int .i64 (digVal c : Int)) ∧ w = w' := by
 have hc := c.toNat_lt
 unfold digVal
 generalize c.toNat = n at *
 have hn : (n : Int) < 256 := by omega
 by_cases h1 : 48 ≤ n ∧ n ≤ 57
 ·rw [if_pos h1]
  have a1 : 48 ≤ (n : Int) := by omega
  have a2 : (n : Int) ≤ 57 := by omega
  have H := Lib.hid h1
  clear h1
  go_enter Tryz.func139, Tryz.ntmps139
  go_wp2_with fail
  go_ret
  exact ⟨ret_i (by omega), rfl⟩
 rw [if_neg h1]
 by_cases h2 : 97 ≤ n ∧ n ≤ 122
 ·rw [if_pos h2]
  have a1 : 97 ≤ (n : Int) := by omega
  have a2 : (n : Int) ≤ 122 := by omega
  have H := Lib.hid h2
  clear h1 h2
  go_enter Tryz.func139, Tryz.ntmps139
  go_wp2_with fail
  go_ret
  exact ⟨ret_i (by omega), rfl⟩
 rw [if_neg h2]
 by_cases h3 : 65 ≤ n ∧ n ≤ 90
 ·rw [if_pos h3]
  have a1 : 65 ≤ (n : Int) := by omega
  have a2 : (n : Int) ≤ 90 := by omega
  have H := Lib.hid h3
  clear h1 h2 h3
  go_enter Tryz.func139, Tryz.ntmps139
  go_wp2_with fail
  go_ret
  exact ⟨ret_i (by omega), rfl⟩
 rw [if_neg h3]
 have H1 := Lib.hid h1
 have H2 := Lib.hid h2
 have H3 := Lib.hid h3
 clear h1 h2 h3
 rcases (show (n : Int) < 48 ∨ (58 ≤ (n : Int) ∧ (n : Int) < 65) ∨ (91 ≤ (n : Int) ∧ (n : Int) < 97) ∨ 123 ≤ (n : Int) by have := H1.out; have := H2.out; have := H3.out; omega) with h | ⟨h, h'⟩ | ⟨h, h'⟩ | h
 all_goals
  go_enter Tryz.func139, Tryz.ntmps139
  go_wp2_with fail
  go_ret
  exact ⟨rfl, rfl⟩
structure ParseSt (base : Nat) (l : List UInt8) (k x : Nat) (ob : Bool) : Prop where
 dig : digitsIn base (l.take k) = true
 le : x ≤ 9223372036854775808
 no : ob = false → x = valOf base (l.take k)
 yes : ob = true → 9223372036854775808 < valOf base (l.take k)
theorem digitsIn_snoc (base : Nat) (l : List UInt8) (c : UInt8) : digitsIn base (l ++ [c]) = (digitsIn base l && decide (digVal c < base)) := by
 unfold digitsIn
 simp
theorem digitsIn_bad {base : Nat} {l : List UInt8} {k : Nat} {c : UInt8} (h : l[k]? = some c) (hc : base ≤ digVal c) : digitsIn base l = false := by
 unfold digitsIn
 rw [List.all_eq_false]
 exact ⟨c, List.mem_of_getElem? h, by simpa using hc⟩
theorem take_snoc' {l : List UInt8} {k : Nat} {c : UInt8} (h : l[k]? = some c) : l.take (k + 1) = l.take k ++ [c] := by
 obtain ⟨hk, rfl⟩ := List.getElem?_eq_some_iff.1 h
 exact List.take_succ_eq_append_getElem hk
theorem ParseSt.over {base : Nat} {l : List UInt8} {k x : Nat} {c : UInt8} (hb : 1 ≤ base) (h : ParseSt base l k x true) (hc : l[k]? = some c) (hd : digVal c < base) : ParseSt base l (k + 1) x true :=
 ⟨by rw [take_snoc' hc, digitsIn_snoc, h.dig]; simpa using hd, h.le, fun e => (by cases e), fun _ => by
  have := h.yes rfl
  have h2 := valOf_mono base hb (l.take k) [c]
  rw [take_snoc' hc]
  omega⟩
theorem ParseSt.beyond {base : Nat} {l : List UInt8} {k x : Nat} {c : UInt8} (hb : 1 ≤ base) (h : ParseSt base l k x false) (hc : l[k]? = some c) (hd : digVal c < base) (hx : (9223372036854775808 - digVal c) / base < x) : ParseSt base l (k + 1) x true :=
 ⟨by rw [take_snoc' hc, digitsIn_snoc, h.dig]; simpa using hd, h.le, fun e => (by cases e), fun _ => by
  rw [take_snoc' hc, valOf_snoc, ← h.no rfl]
  exact (beyond_iff x (digVal c) base hb (digVal_le c)).1 hx⟩
theorem ParseSt.go {base : Nat} {l : List UInt8} {k x : Nat} {c : UInt8} (hb : 1 ≤ base) (h : ParseSt base l k x false) (hc : l[k]? = some c) (hd : digVal c < base) (hx : ¬ (9223372036854775808 - digVal c) / base < x) : ParseSt base l (k + 1) (x * base + digVal c) false :=
 ⟨by rw [take_snoc' hc, digitsIn_snoc, h.dig]; simpa using hd, by
  rw [beyond_iff x (digVal c) base hb (digVal_le c)] at hx
  omega, fun _ => by rw [take_snoc' hc, valOf_snoc, ← h.no rfl], fun e => (by cases e)⟩
theorem ParseSt.fin {base : Nat} {l : List UInt8} {x : Nat} {ob : Bool} (hl : l ≠ []) (h : ParseSt base l l.length x ob) : parseF base l = if ob = true then (0, 11) else (tops x, 0) := by
 have h1 := h.dig
 have h2 := h.no
 have h3 := h.yes
 have h4 := h.le
 rw [List.take_length] at h1 h2 h3
 unfold parseF
 rw [if_neg (by simp [hl, h1])]
 cases ob
 ·rw [← h2 rfl, if_neg (by omega)]
  rfl
 ·rw [if_pos (h3 rfl)]
  rfl
theorem tops_wrap (x : Nat) (h : x ≤ 9223372036854775808) : wrap64 (x : Int) = tops x := by
 unfold tops
 by_cases e : x = 9223372036854775808
 ·rw [if_pos e, e]
  unfold wrap64
  omega
 ·rw [if_neg e]
  unfold wrap64
  omega
theorem ret_tops (x : Nat) (h : x ≤ 9223372036854775808) : Ending.returned (.tuple #[.int .i64 (wrap64 (x : Int)), .int .i64 0]) = .returned (.tuple #[.int .i64 (tops x), .int .i64 0]) := by rw [tops_wrap x h]
set_option maxHeartbeats 1000000 in
theorem parse_2 (w : World) (l : List UInt8) (hl : (l.length : Int) ≤ 1000000) :
    Calls Tryz.prog 117 #[.string ⟨l.toArray⟩, .int .i64 2] w fun e w' => e = .returned (.tuple #[.int .i64 (parseF 2 l).1, .int .i64 (parseF 2 l).2]) ∧ w = w' := by
 by_cases hne : l = []
 ·subst hne
  go_enter Tryz.func117, Tryz.ntmps117
  go_wp2_with fail
  go_ret2
  exact ⟨rfl, rfl⟩
 ·have hne' : l.isEmpty = false := by simpa using hne
  have HNE := Lib.hid hne
  clear hne
  generalize hR : parseF 2 l = R
  have HR := Lib.hid hR
  clear hR
  go_enter Tryz.func117, Tryz.ntmps117
  go_wp2_with fail
  go_loop [6, 7, 8] (fun v o i => ∃ (k x : Nat) (ob : Bool), k ≤ l.length ∧ (x : Int) ≤ 9223372036854775808 ∧ i = .int .i64 k ∧ o = .bool ob ∧ v = .int .u64 x ∧ Hid (ParseSt 2 l k x ob)) (fun _ _ i => l.length - (intOf i).toNat)
  case atStart => exact ⟨0, 0, false, Nat.zero_le _, by omega, rfl, rfl, rfl, ⟨rfl, by omega, fun _ => rfl, fun e => by cases e⟩⟩
  case round =>
   obtain ⟨k, x, ob, hk, hx8, rfl, rfl, rfl, hS⟩ := hrel
   by_cases hlt : k < l.length
   ·obtain ⟨c, hd, hx, hg⟩ := byte_at l k hlt
    have HG := Lib.hid hg
    have hlt' : (k : Int) < (l.length : Int) := by omega
    have hd36 := digVal_le c
    clear hd hg
    go_wp2_with fail
    refine (digit_any _ c).mono ?_
    rintro e w' ⟨rfl, rfl⟩
    have HN := Lib.hid hlt
    cases ob
    ·go_wp2_with fail
     ·have hF := digitsIn_bad HG.out (show 2 ≤ digVal c by omega)
      have hr := HR.out
      unfold parseF at hr
      rw [if_pos (.inr hF)] at hr
      go_ret2
      rw [← hr]
      exact ⟨rfl, rfl⟩
     ·have hS2 := hS.out.beyond (by omega) HG.out (by omega) (by omega)
      go_round
      case rel => exact ⟨k + 1, x, true, HN.out, hx8, by go_num, rfl, rfl, Lib.hid hS2⟩
      case measure => simp [intOf]; omega
     ·have hS2 := hS.out.go (by omega) HG.out (by omega) (by omega)
      have hle := hS2.le
      go_round
      case rel => exact ⟨k + 1, _, false, HN.out, by omega, by go_num, rfl, by go_num, Lib.hid hS2⟩
      case measure => simp [intOf]; omega
    ·go_wp2_with fail
     ·have hF := digitsIn_bad HG.out (show 2 ≤ digVal c by omega)
      have hr := HR.out
      unfold parseF at hr
      rw [if_pos (.inr hF)] at hr
      go_ret2
      rw [← hr]
      exact ⟨rfl, rfl⟩
     ·have hS2 := hS.out.over (by omega) HG.out (by omega)
      go_round
      case rel => exact ⟨k + 1, x, true, HN.out, hx8, by go_num, rfl, rfl, Lib.hid hS2⟩
      case measure => simp [intOf]; omega
   ·have hkn : k = l.length := by omega
    have hS' := hS.out
    rw [hkn] at hS'
    have hF := hS'.fin HNE.out
    rw [HR.out] at hF
    have HF := Lib.hid hF
    clear hS' hF hkn
    cases ob
    ·go_wp2_with fail
     go_ret2
     rw [HF.out]
     exact ⟨ret_tops x (by omega), rfl⟩
    ·go_wp2_with fail
     go_ret2
     rw [HF.out]
     exact ⟨rfl, rfl⟩
set_option maxHeartbeats 1000000 in
theorem parse_8 (w : World) (l : List UInt8) (hl : (l.length : Int) ≤ 1000000) :
    Calls Tryz.prog 117 #[.string ⟨l.toArray⟩, .int .i64 8] w fun e w' => e = .returned (.tuple #[.int .i64 (parseF 8 l).1, .int .i64 (parseF 8 l).2]) ∧ w = w' := by
 by_cases hne : l = []
 ·subst hne
  go_enter Tryz.func117, Tryz.ntmps117
  go_wp2_with fail
  go_ret2
  exact ⟨rfl, rfl⟩
 ·have hne' : l.isEmpty = false := by simpa using hne
  have HNE := Lib.hid hne
  clear hne
  generalize hR : parseF 8 l = R
  have HR := Lib.hid hR
  clear hR
  go_enter Tryz.func117, Tryz.ntmps117
  go_wp2_with fail
  go_loop [6, 7, 8] (fun v o i => ∃ (k x : Nat) (ob : Bool), k ≤ l.length ∧ (x : Int) ≤ 9223372036854775808 ∧ i = .int .i64 k ∧ o = .bool ob ∧ v = .int .u64 x ∧ Hid (ParseSt 8 l k x ob)) (fun _ _ i => l.length - (intOf i).toNat)
  case atStart => exact ⟨0, 0, false, Nat.zero_le _, by omega, rfl, rfl, rfl, ⟨rfl, by omega, fun _ => rfl, fun e => by cases e⟩⟩
  case round =>
   obtain ⟨k, x, ob, hk, hx8, rfl, rfl, rfl, hS⟩ := hrel
   by_cases hlt : k < l.length
   ·obtain ⟨c, hd, hx, hg⟩ := byte_at l k hlt
    have HG := Lib.hid hg
    have hlt' : (k : Int) < (l.length : Int) := by omega
    have hd36 := digVal_le c
    clear hd hg
    go_wp2_with fail
    refine (digit_any _ c).mono ?_
    rintro e w' ⟨rfl, rfl⟩
    have HN := Lib.hid hlt
    cases ob
    ·go_wp2_with fail
     ·have hF := digitsIn_bad HG.out (show 8 ≤ digVal c by omega)
      have hr := HR.out
      unfold parseF at hr
      rw [if_pos (.inr hF)] at hr
      go_ret2
      rw [← hr]
      exact ⟨rfl, rfl⟩
     ·have hS2 := hS.out.beyond (by omega) HG.out (by omega) (by omega)
      go_round
      case rel => exact ⟨k + 1, x, true, HN.out, hx8, by go_num, rfl, rfl, Lib.hid hS2⟩
      case measure => simp [intOf]; omega
     ·have hS2 := hS.out.go (by omega) HG.out (by omega) (by omega)
      have hle := hS2.le
      go_round
      case rel => exact ⟨k + 1, _, false, HN.out, by omega, by go_num, rfl, by go_num, Lib.hid hS2⟩
      case measure => simp [intOf]; omega
    ·go_wp2_with fail
     ·have hF := digitsIn_bad HG.out (show 8 ≤ digVal c by omega)
      have hr := HR.out
      unfold parseF at hr
      rw [if_pos (.inr hF)] at hr
      go_ret2
      rw [← hr]
      exact ⟨rfl, rfl⟩
     ·have hS2 := hS.out.over (by omega) HG.out (by omega)
      go_round
      case rel => exact ⟨k + 1, x, true, HN.out, hx8, by go_num, rfl, rfl, Lib.hid hS2⟩
      case measure => simp [intOf]; omega
   ·have hkn : k = l.length := by omega
    have hS' := hS.out
    rw [hkn] at hS'
    have hF := hS'.fin HNE.out
    rw [HR.out] at hF
    have HF := Lib.hid hF
    clear hS' hF hkn
    cases ob
    ·go_wp2_with fail
     go_ret2
     rw [HF.out]
     exact ⟨ret_tops x (by omega), rfl⟩
    ·go_wp2_with fail
     go_ret2
     rw [HF.out]
     exact ⟨rfl, rfl⟩
set_option maxHeartbeats 1000000 in
theorem parse_10 (w : World) (l : List UInt8) (hl : (l.length : Int) ≤ 1000000) :
    Calls Tryz.prog 117 #[.string ⟨l.toArray⟩, .int .i64 10] w fun e w' => e = .returned (.tuple #[.int .i64 (parseF 10 l).1, .int .i64 (parseF 10 l).2]) ∧ w = w' := by
 by_cases hne : l = []
 ·subst hne
  go_enter Tryz.func117, Tryz.ntmps117
  go_wp2_with fail
  go_ret2
  exact ⟨rfl, rfl⟩
 ·have hne' : l.isEmpty = false := by simpa using hne
  have HNE := Lib.hid hne
  clear hne
  generalize hR : parseF 10 l = R
  have HR := Lib.hid hR
  clear hR
  go_enter Tryz.func117, Tryz.ntmps117
  go_wp2_with fail
  go_loop [6, 7, 8] (fun v o i => ∃ (k x : Nat) (ob : Bool), k ≤ l.length ∧ (x : Int) ≤ 9223372036854775808 ∧ i = .int .i64 k ∧ o = .bool ob ∧ v = .int .u64 x ∧ Hid (ParseSt 10 l k x ob)) (fun _ _ i => l.length - (intOf i).toNat)
  case atStart => exact ⟨0, 0, false, Nat.zero_le _, by omega, rfl, rfl, rfl, ⟨rfl, by omega, fun _ => rfl, fun e => by cases e⟩⟩
  case round =>
   obtain ⟨k, x, ob, hk, hx8, rfl, rfl, rfl, hS⟩ := hrel
   by_cases hlt : k < l.length
   ·obtain ⟨c, hd, hx, hg⟩ := byte_at l k hlt
    have HG := Lib.hid hg
    have hlt' : (k : Int) < (l.length : Int) := by omega
    have hd36 := digVal_le c
    clear hd hg
    go_wp2_with fail
    refine (digit_any _ c).mono ?_
    rintro e w' ⟨rfl, rfl⟩
    have HN := Lib.hid hlt
    cases ob
    ·go_wp2_with fail
     ·have hF := digitsIn_bad HG.out (show 10 ≤ digVal c by omega)
      have hr := HR.out
      unfold parseF at hr
      rw [if_pos (.inr hF)] at hr
      go_ret2
      rw [← hr]
      exact ⟨rfl, rfl⟩
     ·have hS2 := hS.out.beyond (by omega) HG.out (by omega) (by omega)
      go_round
      case rel => exact ⟨k + 1, x, true, HN.out, hx8, by go_num, rfl, rfl, Lib.hid hS2⟩
      case measure => simp [intOf]; omega
     ·have hS2 := hS.out.go (by omega) HG.out (by omega) (by omega)
      have hle := hS2.le
      go_round
      case rel => exact ⟨k + 1, _, false, HN.out, by omega, by go_num, rfl, by go_num, Lib.hid hS2⟩
      case measure => simp [intOf]; omega
    ·go_wp2_with fail
     ·have hF := digitsIn_bad HG.out (show 10 ≤ digVal c by omega)
      have hr := HR.out
      unfold parseF at hr
      rw [if_pos (.inr hF)] at hr
      go_ret2
      rw [← hr]
      exact ⟨rfl, rfl⟩
     ·have hS2 := hS.out.over (by omega) HG.out (by omega)
      go_round
      case rel => exact ⟨k + 1, x, true, HN.out, hx8, by go_num, rfl, rfl, Lib.hid hS2⟩
      case measure => simp [intOf]; omega
   ·have hkn : k = l.length := by omega
    have hS' := hS.out
    rw [hkn] at hS'
    have hF := hS'.fin HNE.out
    rw [HR.out] at hF
    have HF := Lib.hid hF
    clear hS' hF hkn
    cases ob
    ·go_wp2_with fail
     go_ret2
     rw [HF.out]
     exact ⟨ret_tops x (by omega), rfl⟩
    ·go_wp2_with fail
     go_ret2
     rw [HF.out]
     exact ⟨rfl, rfl⟩
set_option maxHeartbeats 1000000 in
theorem parse_16 (w : World) (l : List UInt8) (hl : (l.length : Int) ≤ 1000000) :
    Calls Tryz.prog 117 #[.string ⟨l.toArray⟩, .int .i64 16] w fun e w' => e = .returned (.tuple #[.int .i64 (parseF 16 l).1, .int .i64 (parseF 16 l).2]) ∧ w = w' := by
 by_cases hne : l = []
 ·subst hne
  go_enter Tryz.func117, Tryz.ntmps117
  go_wp2_with fail
  go_ret2
  exact ⟨rfl, rfl⟩
 ·have hne' : l.isEmpty = false := by simpa using hne
  have HNE := Lib.hid hne
  clear hne
  generalize hR : parseF 16 l = R
  have HR := Lib.hid hR
  clear hR
  go_enter Tryz.func117, Tryz.ntmps117
  go_wp2_with fail
  go_loop [6, 7, 8] (fun v o i => ∃ (k x : Nat) (ob : Bool), k ≤ l.length ∧ (x : Int) ≤ 9223372036854775808 ∧ i = .int .i64 k ∧ o = .bool ob ∧ v = .int .u64 x ∧ Hid (ParseSt 16 l k x ob)) (fun _ _ i => l.length - (intOf i).toNat)
  case atStart => exact ⟨0, 0, false, Nat.zero_le _, by omega, rfl, rfl, rfl, ⟨rfl, by omega, fun _ => rfl, fun e => by cases e⟩⟩
  case round =>
   obtain ⟨k, x, ob, hk, hx8, rfl, rfl, rfl, hS⟩ := hrel
   by_cases hlt : k < l.length
   ·obtain ⟨c, hd, hx, hg⟩ := byte_at l k hlt
    have HG := Lib.hid hg
    have hlt' : (k : Int) < (l.length : Int) := by omega
    have hd36 := digVal_le c
    clear hd hg
    go_wp2_with fail
    refine (digit_any _ c).mono ?_
    rintro e w' ⟨rfl, rfl⟩
    have HN := Lib.hid hlt
    cases ob
    ·go_wp2_with fail
     ·have hF := digitsIn_bad HG.out (show 16 ≤ digVal c by omega)
      have hr := HR.out
      unfold parseF at hr
      rw [if_pos (.inr hF)] at hr
      go_ret2
      rw [← hr]
      exact ⟨rfl, rfl⟩
     ·have hS2 := hS.out.beyond (by omega) HG.out (by omega) (by omega)
      go_round
      case rel => exact ⟨k + 1, x, true, HN.out, hx8, by go_num, rfl, rfl, Lib.hid hS2⟩
      case measure => simp [intOf]; omega
     ·have hS2 := hS.out.go (by omega) HG.out (by omega) (by omega)
      have hle := hS2.le
      go_round
      case rel => exact ⟨k + 1, _, false, HN.out, by omega, by go_num, rfl, by go_num, Lib.hid hS2⟩
      case measure => simp [intOf]; omega
    ·go_wp2_with fail
     ·have hF := digitsIn_bad HG.out (show 16 ≤ digVal c by omega)
      have hr := HR.out
      unfold parseF at hr
      rw [if_pos (.inr hF)] at hr
      go_ret2
      rw [← hr]
      exact ⟨rfl, rfl⟩
     ·have hS2 := hS.out.over (by omega) HG.out (by omega)
      go_round
      case rel => exact ⟨k + 1, x, true, HN.out, hx8, by go_num, rfl, rfl, Lib.hid hS2⟩
      case measure => simp [intOf]; omega
   ·have hkn : k = l.length := by omega
    have hS' := hS.out
    rw [hkn] at hS'
    have hF := hS'.fin HNE.out
    rw [HR.out] at hF
    have HF := Lib.hid hF
    clear hS' hF hkn
    cases ob
    ·go_wp2_with fail
     go_ret2
     rw [HF.out]
     exact ⟨ret_tops x (by omega), rfl⟩
    ·go_wp2_with fail
     go_ret2
     rw [HF.out]
     exact ⟨rfl, rfl⟩
theorem parse_lit (w : World) (l : List UInt8) (base : Int) (hb : base = 2 ∨ base = 8 ∨ base = 10 ∨ base = 16) (hl : (l.length : Int) ≤ 1000000) :
    Calls Tryz.prog 117 #[.string ⟨l.toArray⟩, .int .i64 base] w fun e w' => e = .returned (.tuple #[.int .i64 (parseF base.toNat l).1, .int .i64 (parseF base.toNat l).2]) ∧ w = w' := by
 rcases hb with rfl | rfl | rfl | rfl
 ·exact parse_2 w l hl
 ·exact parse_8 w l hl
 ·exact parse_10 w l hl
 ·exact parse_16 w l hl
def tokV (t : TokIs) : Value := .agg #[.int .i64 t.kind, .int .i64 0, .int .i64 t.n, .string ⟨t.s.toArray⟩, .bool false, .bool false]
def tryV : Option (Option TokIs) → Value
 | none => .tuple #[tokV ⟨0, 0, [], 0⟩, .int .i64 0, .int .i64 0]
 | some none => .tuple #[tokV ⟨0, 0, [], 0⟩, .int .i64 0, .int .i64 5]
 | some (some t) => .tuple #[tokV t, .int .i64 (t.len : Int), .int .i64 0]
set_option maxHeartbeats 1000000 in
theorem word_any (w : World) (l : List UInt8) (hl : (l.length : Int) ≤ 1000000) : Calls Tryz.prog 82 #[.string ⟨l.toArray⟩] w fun e w' => e = .returned (.int .i64 (spanN isWord l : Int)) ∧ w = w' := by
 go_enter Tryz.func82, Tryz.ntmps82
 go_wp2_with fail
 go_loop [3] (fun i => ∃ k : Nat, k ≤ l.length ∧ i = .int .i64 k ∧ k ≤ spanN isWord l) (fun i => l.length - (intOf i).toNat)
 case atStart => exact ⟨0, Nat.zero_le _, rfl, Nat.zero_le _⟩
 case round =>
  obtain ⟨k, hk, rfl, hks⟩ := hrel
  have hsp := spanN_le isWord l
  have hgo := spanN_go isWord l k hks
  have HGO := Lib.hid hgo
  clear hgo
  by_cases hlt : k < l.length
  ·obtain ⟨c, hd, hx, hg⟩ := byte_at l k hlt
   have HG := Lib.hid hg
   have hlt' : (k : Int) < (l.length : Int) := by omega
   clear hd hg
   cases hw : isWord c
   ·have hn : ¬ (bsort c = 2 ∨ bsort c = 3 ∨ bsort c = 4) := by simpa [isWord] using hw
    have t2 : (bsort c != 2) = true := by rw [bne_iff_ne]; exact fun e => hn (.inl e)
    have t3 : (bsort c != 3) = true := by rw [bne_iff_ne]; exact fun e => hn (.inr (.inl e))
    have t4 : (bsort c != 4) = true := by rw [bne_iff_ne]; exact fun e => hn (.inr (.inr e))
    have he : k = spanN isWord l := by
     have h2 := HGO.out.1
     rcases Nat.lt_or_ge k (spanN isWord l) with h | h
     ·obtain ⟨c', h3, h4⟩ := h2 h
      rw [HG.out] at h3
      cases h3
      rw [hw] at h4
      cases h4
     ·omega
    have HE := Lib.hid he
    clear hn he hw
    go_wp2_with fail
    refine (sort_byte _ c).mono ?_
    rintro e w' ⟨rfl, rfl⟩
    go_wp2_with fail
    go_ret
    exact ⟨ret_i (by have := HE.out; omega), rfl⟩
   ·have hn : bsort c = 2 ∨ bsort c = 3 ∨ bsort c = 4 := by simpa [isWord] using hw
    have hks' : k < spanN isWord l := HGO.out.2 ⟨c, HG.out, hw⟩
    clear hw
    rcases hn with hn | hn | hn
    all_goals
     go_wp2_with fail
     refine (sort_byte _ c).mono ?_
     rintro e w' ⟨rfl, rfl⟩
     go_wp2_with fail
     go_round
     case rel => exact ⟨k + 1, hlt, by go_num, hks'⟩
     case measure => simp [intOf]; omega
  ·have hkn : k = spanN isWord l := by omega
   have HE := Lib.hid hkn
   clear hkn
   go_wp2_with fail
   go_ret
   exact ⟨ret_i (by have := HE.out; omega), rfl⟩
set_option maxHeartbeats 1000000 in
theorem tokpunct_any (w : World) (xv : Value) (l : List UInt8) (c : UInt8) (r : List UInt8) (hlc : l = c :: r) (hl : (l.length : Int) ≤ 1000000) :
    Calls Tryz.prog 45 #[xv, .string ⟨l.toArray⟩] w fun e w' => e = .returned (tryV (if bsort c = 7 then some (some ⟨6, 0, [c], 1⟩) else none)) ∧ Below w.heap.size w w' := by
 have hlen : 0 < l.length := by rw [hlc]; simp
 have hx : (⟨l.toArray⟩ : ByteArray)[0]'(by show 0 < l.toArray.size; simpa using hlen) = c := by subst hlc; rfl
 have hs : (⟨l.toArray⟩ : ByteArray).extract 0 1 = ⟨[c].toArray⟩ := by rw [slice_mid, hlc]; rfl
 clear hlc
 by_cases h7 : bsort c = 7
 ·rw [if_pos h7]
  go_enter Tryz.func45, Tryz.ntmps45
  go_wp2_with fail
  refine (sort_byte _ c).mono ?_
  rintro e w' ⟨rfl, rfl⟩
  go_wp2_with fail
  refine bodyPost_ret (v := tryV (some (some ⟨6, 0, [c], 1⟩))) (by simp [results, Tryz.results45, go_sem, tryV, tokV]) rfl ⟨rfl, (Below.refl _ _).alloc (Nat.le_refl _) _⟩
 ·rw [if_neg h7]
  have t7 : (bsort c != 7) = true := by rw [bne_iff_ne]; exact h7
  clear h7
  go_enter Tryz.func45, Tryz.ntmps45
  go_wp2_with fail
  refine (sort_byte _ c).mono ?_
  rintro e w' ⟨rfl, rfl⟩
  go_wp2_with fail
  refine bodyPost_ret (v := tryV none) (by simp [results, Tryz.results45, go_sem, tryV, tokV]) rfl ⟨rfl, (Below.refl _ _).alloc (Nat.le_refl _) _⟩
set_option maxHeartbeats 1000000 in
theorem named_any (w : World) (xv : Value) (l : List UInt8) (c : UInt8) (r : List UInt8) (hlc : l = c :: r) (hl : (l.length : Int) ≤ 1000000) :
    Calls Tryz.prog 42 #[xv, .string ⟨l.toArray⟩] w fun e w' => e = .returned (tryV (if bsort c = 3 then some (some ⟨4, 0, l.take (spanN isWord l), spanN isWord l⟩) else none)) ∧ Below w.heap.size w w' := by
 have hlen : 0 < l.length := by rw [hlc]; simp
 have hx : (⟨l.toArray⟩ : ByteArray)[0]'(by show 0 < l.toArray.size; simpa using hlen) = c := by subst hlc; rfl
 have hs : (⟨l.toArray⟩ : ByteArray).extract 0 (spanN isWord l) = ⟨(l.take (spanN isWord l)).toArray⟩ := by rw [slice_mid]; rfl
 have hsp := spanN_le isWord l
 have hsp' : (spanN isWord l : Int) ≤ (l.length : Int) := by omega
 generalize hn : spanN isWord l = n at *
 have HN := Lib.hid hn
 generalize l.take n = t at *
 clear hlc hn
 by_cases h3 : bsort c = 3
 ·rw [if_pos h3]
  go_enter Tryz.func42, Tryz.ntmps42
  go_wp2_with fail
  refine (sort_byte _ c).mono ?_
  rintro e w' ⟨rfl, rfl⟩
  go_wp2_with fail
  refine (word_any _ l hl).mono ?_
  rintro e w' ⟨rfl, rfl⟩
  rw [HN.out]
  go_wp2_with fail
  refine bodyPost_ret (v := tryV (some (some ⟨4, 0, t, n⟩))) (by simp [results, Tryz.results42, go_sem, tryV, tokV]) rfl ⟨rfl, (Below.refl _ _).alloc (Nat.le_refl _) _⟩
 ·rw [if_neg h3]
  have t3 : (bsort c != 3) = true := by rw [bne_iff_ne]; exact h3
  clear h3
  go_enter Tryz.func42, Tryz.ntmps42
  go_wp2_with fail
  refine (sort_byte _ c).mono ?_
  rintro e w' ⟨rfl, rfl⟩
  go_wp2_with fail
  refine bodyPost_ret (v := tryV none) (by simp [results, Tryz.results42, go_sem, tryV, tokV]) rfl ⟨rfl, (Below.refl _ _).alloc (Nat.le_refl _) _⟩
theorem parse_one (b : Nat) (c : UInt8) : parseF b [c] = if digVal c < b then ((digVal c : Int), 0) else (0, 6) := by
 have hd := digVal_le c
 unfold parseF
 by_cases h : digVal c < b
 ·rw [if_pos h, if_neg (by simp [digitsIn, h]), if_neg (by simp [valOf]; omega)]
  have : tops (valOf b [c]) = (digVal c : Int) := by
   simp only [valOf, List.foldl_cons, List.foldl_nil, Nat.zero_mul, Nat.zero_add, tops]
   rw [if_neg (by omega)]
  rw [this]
 ·rw [if_neg h, if_pos (.inr (by simp [digitsIn]; omega))]
set_option maxHeartbeats 1000000 in
theorem digits_any (w : World) (l : List UInt8) (f : Nat) (fi base : Int) (hf : fi = (f : Int)) (hfl : f ≤ l.length) (hb : base = 2 ∨ base = 8 ∨ base = 10 ∨ base = 16) (hl : (l.length : Int) ≤ 1000000) :
    Calls Tryz.prog 83 #[.string ⟨l.toArray⟩, .int .i64 fi, .int .i64 base] w fun e w' => e = .returned (tryV (some ((digitsF base.toNat l f).map fun x => ⟨3, x.1, [], x.2⟩))) ∧ Below w.heap.size w w' := by
 subst hf
 have HB := Lib.hid hb
 clear hb
 generalize hP : (fun c : UInt8 => decide (digVal c < base.toNat)) = p
 have HP := Lib.hid hP
 clear hP
 have hsl := spanN_le p (l.drop f)
 rw [List.length_drop] at hsl
 have hdig : digitsF base.toNat l f = if (parseF base.toNat ((l.drop f).take (spanN p (l.drop f)))).2 = 0 then some ((parseF base.toNat ((l.drop f).take (spanN p (l.drop f)))).1, f + spanN p (l.drop f)) else none := by
  unfold digitsF
  rw [HP.out]
 have HD := Lib.hid hdig
 clear hdig
 generalize hR : (some ((digitsF base.toNat l f).map fun x => (⟨3, x.1, [], x.2⟩ : TokIs))) = R
 have HR := Lib.hid hR
 clear hR
 generalize hN : spanN p (l.drop f) = N at *
 have HN := Lib.hid hN
 clear hN
 go_enter Tryz.func83, Tryz.ntmps83
 go_wp2_with fail
 go_loop [9] (fun i => ∃ k : Nat, f ≤ k ∧ k ≤ l.length ∧ i = .int .i64 k ∧ k ≤ f + N) (fun i => l.length - (intOf i).toNat)
 case atStart => exact ⟨f, Nat.le_refl _, hfl, rfl, Nat.le_add_right _ _⟩
 case round =>
  obtain ⟨k, hfk, hk, rfl, hkN⟩ := hrel
  have hgo := spanN_go p (l.drop f) (k - f) (by rw [HN.out]; omega)
  rw [HN.out, List.getElem?_drop, show f + (k - f) = k by omega] at hgo
  have HGO := Lib.hid hgo
  clear hgo
  have hend : (k = f + N) → Hid (k = f + N) := fun h => h
  by_cases hlt : k < l.length
  ·obtain ⟨c, hd, hx, hg⟩ := byte_at l k hlt
   have HG := Lib.hid hg
   have hlt' : (k : Int) < (l.length : Int) := by omega
   have hs1 : (⟨l.toArray⟩ : ByteArray).extract k (k + 1) = ⟨[c].toArray⟩ := by
    rw [slice_mid, hd, show k + 1 - k = 1 by omega]
    rfl
   have hb1 : (k : Int) + 1 ≤ (l.length : Int) := by omega
   have hp1 := parse_one base.toNat c
   have hd36 := digVal_le c
   clear hd hg
   have hpc : p c = decide (digVal c < base.toNat) := by rw [← HP.out]
   have HPC := Lib.hid hpc
   clear hpc
   by_cases hdc : digVal c < base.toNat
   ·rw [if_pos hdc] at hp1
    have HP1 := Lib.hid hp1
    have hkN' : k < f + N := by
     have := HGO.out.2 ⟨c, HG.out, by rw [HPC.out]; simpa using hdc⟩
     omega
    clear hp1 hdc
    go_wp2_with fail
    refine (parse_lit _ [c] base HB.out (by simp)).mono ?_
    rintro e w' ⟨rfl, rfl⟩
    rw [HP1.out]
    go_wp2_with fail
    go_round
    case rel => exact ⟨k + 1, by omega, hlt, by go_num, hkN'⟩
    case measure => simp [intOf]; omega
   ·rw [if_neg hdc] at hp1
    have HP1 := Lib.hid hp1
    have hkN' : k = f + N := by
     rcases Nat.lt_or_ge (k - f) N with h | h
     ·obtain ⟨c', h3, h4⟩ := HGO.out.1 h
      rw [HG.out] at h3
      cases h3
      rw [HPC.out] at h4
      exact absurd (by simpa using h4) hdc
     ·omega
    have HE := hend hkN'
    have hs2 : (⟨l.toArray⟩ : ByteArray).extract f k = ⟨((l.drop f).take N).toArray⟩ := by rw [slice_mid, hkN', show f + N - f = N by omega]
    clear hp1 hdc hkN'
    go_wp2_with fail
    refine (parse_lit _ [c] base HB.out (by simp)).mono ?_
    rintro e w' ⟨rfl, rfl⟩
    rw [HP1.out]
    go_wp2_with fail
    refine (parse_lit _ _ base HB.out (by rw [List.length_take, List.length_drop]; omega)).mono ?_
    rintro e w' ⟨rfl, rfl⟩
    have hr := HR.out
    rw [HD.out] at hr
    generalize parseF base.toNat ((l.drop f).take N) = p at *
    obtain ⟨p1, p2⟩ := p
    simp only at hr ⊢
    by_cases hp2 : p2 = 0
    ·rw [if_pos hp2] at hr
     have HR2 := Lib.hid hr
     subst hp2
     clear hr
     go_wp2_with fail
     have he := HE.out
     rw [← HR2.out]
     refine bodyPost_ret (v := tryV (some (some ⟨3, p1, [], f + N⟩))) (by simp [results, Tryz.results83, go_sem, tryV, tokV]; omega) rfl ⟨rfl, (Below.refl _ _).alloc (Nat.le_refl _) _⟩
    ·have t : (p2 != 0) = true := by rw [bne_iff_ne]; exact hp2
     rw [if_neg hp2] at hr
     have HR2 := Lib.hid hr
     clear hr hp2
     go_wp2_with fail
     rw [← HR2.out]
     refine bodyPost_ret (v := tryV (some none)) (by simp [results, Tryz.results83, go_sem, tryV, tokV]) rfl ⟨rfl, (Below.refl _ _).alloc (Nat.le_refl _) _⟩
  ·have hkN' : k = f + N := by omega
   have HE := hend hkN'
   have hs2 : (⟨l.toArray⟩ : ByteArray).extract f k = ⟨((l.drop f).take N).toArray⟩ := by rw [slice_mid, hkN', show f + N - f = N by omega]
   clear hkN'
   go_wp2_with fail
   refine (parse_lit _ _ base HB.out (by rw [List.length_take, List.length_drop]; omega)).mono ?_
   rintro e w' ⟨rfl, rfl⟩
   have hr := HR.out
   rw [HD.out] at hr
   generalize parseF base.toNat ((l.drop f).take N) = p at *
   obtain ⟨p1, p2⟩ := p
   simp only at hr ⊢
   by_cases hp2 : p2 = 0
   ·rw [if_pos hp2] at hr
    have HR2 := Lib.hid hr
    subst hp2
    clear hr
    go_wp2_with fail
    have he := HE.out
    rw [← HR2.out]
    refine bodyPost_ret (v := tryV (some (some ⟨3, p1, [], f + N⟩))) (by simp [results, Tryz.results83, go_sem, tryV, tokV]; omega) rfl ⟨rfl, (Below.refl _ _).alloc (Nat.le_refl _) _⟩
   ·have t : (p2 != 0) = true := by rw [bne_iff_ne]; exact hp2
    rw [if_neg hp2] at hr
    have HR2 := Lib.hid hr
    clear hr hp2
    go_wp2_with fail
    rw [← HR2.out]
    refine bodyPost_ret (v := tryV (some none)) (by simp [results, Tryz.results83, go_sem, tryV, tokV]) rfl ⟨rfl, (Below.refl _ _).alloc (Nat.le_refl _) _⟩
theorem six_cells {w1 : World} {b : Nat} {a0 a1 a2 a3 a4 a5 : Value} {t : TypeId} (h : w1.heap[b]? = some (.cells #[a0, a1, a2, a3, a4, a5] t (0, 0))) :
    (w1.cell? ⟨b, 0, none⟩ = some a0 ∧ w1.cell? ⟨b, 1, none⟩ = some a1 ∧ w1.cell? ⟨b, 2, none⟩ = some a2 ∧ w1.cell? ⟨b, 3, none⟩ = some a3 ∧ w1.cell? ⟨b, 4, none⟩ = some a4 ∧ w1.cell? ⟨b, 5, none⟩ = some a5) ∧ (∀ o, w1.frozen? ⟨b, o, none⟩ = false) := by
 have hf : ∀ o, w1.frozen? ⟨b, o, none⟩ = false := fun o => by simp [World.frozen?, h]
 exact ⟨⟨by rw [cell_of_row w1 b 0 _ t (0, 0) h]; rfl, by rw [cell_of_row w1 b 1 _ t (0, 0) h]; rfl, by rw [cell_of_row w1 b 2 _ t (0, 0) h]; rfl, by rw [cell_of_row w1 b 3 _ t (0, 0) h]; rfl, by rw [cell_of_row w1 b 4 _ t (0, 0) h]; rfl, by rw [cell_of_row w1 b 5 _ t (0, 0) h]; rfl⟩, hf⟩
theorem below_two {w w1 : World} {o1 o2 : Obj} (hb : Below ((w.alloc o1).alloc o2).heap.size ((w.alloc o1).alloc o2) w1) : w1.heap[w.heap.size]? = some o1 ∧ w1.heap[w.heap.size + 1]? = some o2 := by
 have e1 : ((w.alloc o1).alloc o2).heap.size = w.heap.size + 1 + 1 := by simp
 have e2 : (w.alloc o1).heap.size = w.heap.size + 1 := by simp
 refine ⟨?_, ?_⟩
 ·rw [hb.block _ (by omega), Below.heap_alloc _ _ _ (by omega)]
  exact heap_alloc_new w o1
 ·rw [hb.block _ (by omega), ← e2]
  exact heap_alloc_new (w.alloc o1) o2
def digT (x : Int × Nat) : TokIs := ⟨3, x.1, [], x.2⟩
theorem charF_short {l : List UInt8} (h : l.length < 3) : charF l = none := by
 match l, h with
 | [], _ => rfl
 | [_], _ => rfl
 | [_, _], _ => rfl
theorem charF_at {l : List UInt8} {c : UInt8} {r : List UInt8} (h : l.drop 2 = c :: r) : charF l = charAt2 c r := by
 match l, h with
 | _ :: _ :: _, h => rw [List.drop_succ_cons, List.drop_succ_cons, List.drop_zero] at h; subst h; rfl
 | [_], h => cases h
 | [], h => cases h
set_option maxHeartbeats 2000000 in
theorem char_any (w : World) (l : List UInt8) (hl : (l.length : Int) ≤ 1000000) :
    Calls Tryz.prog 84 #[.string ⟨l.toArray⟩] w fun e w' => e = .returned (tryV (some ((charF l).map digT))) ∧ Below w.heap.size w w' := by
 generalize hR : (some ((charF l).map digT)) = R
 have HR := Lib.hid hR
 clear hR
 by_cases h3 : (l.length : Int) < 3
 ·have hr := HR.out
  rw [charF_short (by omega)] at hr
  have HR2 := Lib.hid hr
  clear hr HR
  go_enter Tryz.func84, Tryz.ntmps84
  go_wp2_with fail
  rw [← HR2.out]
  refine bodyPost_ret (v := tryV (some none)) (by simp [results, Tryz.results84, go_sem, tryV, tokV]) rfl ⟨rfl, ((Below.refl _ _).alloc (Nat.le_refl _) _).alloc (by simp) _⟩
 ·have hlt2 : 2 < l.length := by omega
  have h3' : 3 ≤ (l.length : Int) := by omega
  obtain ⟨c, hd, hx2, -⟩ := byte_at l 2 hlt2
  have hr := HR.out
  rw [charF_at hd, charAt2] at hr
  have HR2 := Lib.hid hr
  clear hr HR hd h3
  by_cases h10 : c = 10
  ·have t10 : ((c.toNat : Int) == 10) = true := byte_eq h10
   have hr := HR2.out
   rw [if_pos h10] at hr
   have HR3 := Lib.hid hr
   clear hr HR2 h10
   go_enter Tryz.func84, Tryz.ntmps84
   go_wp2_with fail
   rw [← HR3.out]
   refine bodyPost_ret (v := tryV (some none)) (by simp [results, Tryz.results84, go_sem, tryV, tokV]) rfl ⟨rfl, ((Below.refl _ _).alloc (Nat.le_refl _) _).alloc (by simp) _⟩
  have t10 : ((c.toNat : Int) == 10) = false := byte_ne h10
  have hr := HR2.out
  rw [if_neg h10] at hr
  have HR3 := Lib.hid hr
  clear hr HR2 h10
  by_cases h39 : c = 39
  ·have t39 : ((c.toNat : Int) == 39) = true := byte_eq h39
   have t39' : ((c.toNat : Int) != 39) = false := by rw [bne, t39]; rfl
   have hr := HR3.out
   rw [if_pos h39] at hr
   have HR4 := Lib.hid hr
   clear hr HR3 h39
   by_cases h4 : (l.length : Int) < 4
   ·have hr := HR4.out
    rw [if_neg (by rw [List.drop_eq_nil_of_le (by omega)]; simp)] at hr
    have HR5 := Lib.hid hr
    clear hr HR4
    go_enter Tryz.func84, Tryz.ntmps84
    go_wp2_with fail
    rw [← HR5.out]
    refine bodyPost_ret (v := tryV (some none)) (by simp [results, Tryz.results84, go_sem, tryV, tokV]) rfl ⟨rfl, ((Below.refl _ _).alloc (Nat.le_refl _) _).alloc (by simp) _⟩
   ·have hlt3 : 3 < l.length := by omega
    have h4' : 4 ≤ (l.length : Int) := by omega
    obtain ⟨d, hd3, hx3, -⟩ := byte_at l 3 hlt3
    by_cases hd39 : d = 39
    ·have u39 : ((d.toNat : Int) == 39) = true := byte_eq hd39
     have u39' : ((d.toNat : Int) != 39) = false := by rw [bne, u39]; rfl
     have hr := HR4.out
     rw [hd3, if_pos (by rw [hd39]; rfl)] at hr
     have HR5 := Lib.hid hr
     clear hr HR4 hd39 hd3 h4
     go_enter Tryz.func84, Tryz.ntmps84
     go_wp2_with fail
     rw [← HR5.out]
     refine bodyPost_ret (v := tryV (some (some ⟨3, 39, [], 4⟩))) (by simp [results, Tryz.results84, go_sem, tryV, tokV]) rfl ⟨rfl, ((Below.refl _ _).alloc (Nat.le_refl _) _).alloc (by simp) _⟩
    ·have u39 : ((d.toNat : Int) == 39) = false := byte_ne hd39
     have u39' : ((d.toNat : Int) != 39) = true := by rw [bne, u39]; rfl
     have hr := HR4.out
     rw [hd3, if_neg (by simpa using hd39)] at hr
     have HR5 := Lib.hid hr
     clear hr HR4 hd39 hd3 h4
     go_enter Tryz.func84, Tryz.ntmps84
     go_wp2_with fail
     rw [← HR5.out]
     refine bodyPost_ret (v := tryV (some none)) (by simp [results, Tryz.results84, go_sem, tryV, tokV]) rfl ⟨rfl, ((Below.refl _ _).alloc (Nat.le_refl _) _).alloc (by simp) _⟩
  ·have t39 : ((c.toNat : Int) == 39) = false := byte_ne h39
   have t39' : ((c.toNat : Int) != 39) = true := by rw [bne, t39]; rfl
   have hr := HR3.out
   rw [if_neg h39] at hr
   have HR4 := Lib.hid hr
   clear hr HR3 h39
   by_cases h92 : c = 92
   ·have t92 : ((c.toNat : Int) == 92) = true := byte_eq h92
    have t92' : ((c.toNat : Int) != 92) = false := by rw [bne, t92]; rfl
    have hr := HR4.out
    rw [if_pos h92] at hr
    have HR5 := Lib.hid hr
    by_cases h4 : (l.length : Int) < 4
    ·have hr := HR5.out
     rw [List.drop_eq_nil_of_le (by omega), charSlash] at hr
     have HR6 := Lib.hid hr
     clear hr HR5 HR4 h92
     go_enter Tryz.func84, Tryz.ntmps84
     go_wp2_with fail
     rw [← HR6.out]
     refine bodyPost_ret (v := tryV (some none)) (by simp [results, Tryz.results84, go_sem, tryV, tokV]) rfl ⟨rfl, ((Below.refl _ _).alloc (Nat.le_refl _) _).alloc (by simp) _⟩
    ·have hlt3 : 3 < l.length := by omega
     have h4' : 4 ≤ (l.length : Int) := by omega
     obtain ⟨d, hd3, hx3, -⟩ := byte_at l 3 hlt3
     have hs : (⟨l.toArray⟩ : ByteArray).extract 2 4 = ⟨[c, d].toArray⟩ := by
      obtain ⟨c2, hd2, hx2', -⟩ := byte_at l 2 hlt2
      have e : c2 = c := hx2'.symm.trans hx2
      rw [slice_mid, hd2, e, hd3]
      rfl
     have happ : (⟨[c, d].toArray⟩ : ByteArray) ++ ⟨#[39]⟩ = ⟨[92, d, 39].toArray⟩ := by rw [h92]; rfl
     have hr := HR5.out
     rw [hd3, charSlash] at hr
     have HR6 := Lib.hid hr
     clear hr HR5 HR4 h92 hd3 h4
     go_enter Tryz.func84, Tryz.ntmps84
     go_wp2_with fail
     refine (get_any _ [92, d, 39] 39 39 rfl (by simp)).mono ?_
     rintro e w1 ⟨rfl, hb⟩
     obtain ⟨hA, hB⟩ := below_two hb
     obtain ⟨⟨a0, a1, a2, a3, a4, a5⟩, hfa⟩ := six_cells hA
     obtain ⟨⟨b0, b1, b2, b3, b4, b5⟩, hfb⟩ := six_cells hB
     have hz : w.heap.size + 2 ≤ w1.heap.size := by have := hb.size; simp at this; omega
     have HB := Lib.hid hb
     clear hb hr hs happ hA hB
     generalize getQ 39 [92, d, 39] = G at *
     cases G with
     | none =>
      simp only [getRes]
      go_wp2_with fail
      rw [← HR6.out]
      refine bodyPost_ret (v := tryV (some none)) (by simp [results, Tryz.results84, go_sem, tryV, tokV, a0, a1, a2, a3, a4, a5]) rfl ⟨rfl, ?_⟩
      repeat (refine Below.setCell ?_ (by simp) _)
      exact ((((Below.refl _ _).alloc (Nat.le_refl _) _).alloc (by simp) _).trans (HB.out.mono (by simp; omega)))
     | some x =>
      obtain ⟨t, n⟩ := x
      simp only [getRes]
      by_cases hn3 : n = 3
      ·subst hn3
       match t with
       | [b] =>
        have hb8 : (b.toNat : Int) < 256 := by have := b.toNat_lt; omega
        have hx0 : (⟨#[b]⟩ : ByteArray)[0]'(by show 0 < 1; omega) = b := rfl
        go_wp2_with fail
        rw [← HR6.out]
        refine bodyPost_ret (v := tryV (some (some ⟨3, (b.toNat : Int), [], 4⟩))) (by simp [results, Tryz.results84, go_sem, tryV, tokV, a0, a1, a2, a3, a4, a5]) rfl ⟨rfl, ?_⟩
        repeat (refine Below.setCell ?_ (by simp) _)
        exact ((((Below.refl _ _).alloc (Nat.le_refl _) _).alloc (by simp) _).trans (HB.out.mono (by simp; omega)))
       | [] =>
        go_wp2_with fail
        rw [← HR6.out]
        refine bodyPost_ret (v := tryV (some none)) (by simp [results, Tryz.results84, go_sem, tryV, tokV, a0, a1, a2, a3, a4, a5]) rfl ⟨rfl, ?_⟩
        repeat (refine Below.setCell ?_ (by simp) _)
        exact ((((Below.refl _ _).alloc (Nat.le_refl _) _).alloc (by simp) _).trans (HB.out.mono (by simp; omega)))
       | b :: b' :: r =>
        have hr2 : slashRes (some (b :: b' :: r, 3)) = none := rfl
        have t2 : (((r.length : Int) + 1 + 1) != 1) = true := by rw [bne_iff_ne]; omega
        rw [hr2] at HR6
        clear hr2
        go_wp2_with fail
        rw [← HR6.out]
        refine bodyPost_ret (v := tryV (some none)) (by simp [results, Tryz.results84, go_sem, tryV, tokV, a0, a1, a2, a3, a4, a5]) rfl ⟨rfl, ?_⟩
        repeat (refine Below.setCell ?_ (by simp) _)
        exact ((((Below.refl _ _).alloc (Nat.le_refl _) _).alloc (by simp) _).trans (HB.out.mono (by simp; omega)))
      ·have hr2 : slashRes (some (t, n)) = none := by
        unfold slashRes
        split
        ·rename_i h
         simp only [Option.some.injEq, Prod.mk.injEq] at h
         exact absurd h.2 hn3
        ·rfl
       have t3 : ((n : Int) != 3) = true := by rw [bne_iff_ne]; omega
       rw [hr2] at HR6
       clear hr2
       go_wp2_with fail
       rw [← HR6.out]
       refine bodyPost_ret (v := tryV (some none)) (by simp [results, Tryz.results84, go_sem, tryV, tokV, a0, a1, a2, a3, a4, a5]) rfl ⟨rfl, ?_⟩
       repeat (refine Below.setCell ?_ (by simp) _)
       exact ((((Below.refl _ _).alloc (Nat.le_refl _) _).alloc (by simp) _).trans (HB.out.mono (by simp; omega)))
   ·have t92 : ((c.toNat : Int) == 92) = false := byte_ne h92
    have t92' : ((c.toNat : Int) != 92) = true := by rw [bne, t92]; rfl
    have hr := HR4.out
    rw [if_neg h92] at hr
    have HR5 := Lib.hid hr
    clear hr HR4 h92
    have hc8 : (c.toNat : Int) < 256 := by have := c.toNat_lt; omega
    go_enter Tryz.func84, Tryz.ntmps84
    go_wp2_with fail
    rw [← HR5.out]
    refine bodyPost_ret (v := tryV (some (some ⟨3, (c.toNat : Int), [], 3⟩))) (by simp [results, Tryz.results84, go_sem, tryV, tokV]) rfl ⟨rfl, ((Below.refl _ _).alloc (Nat.le_refl _) _).alloc (by simp) _⟩
end Go.Proofs.YtcallkljcjimiaaGreatDoor
