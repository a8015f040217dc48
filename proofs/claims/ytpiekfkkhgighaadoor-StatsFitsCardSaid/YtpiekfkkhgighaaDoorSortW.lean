/-
  What name.Sort answers of a byte: its sort. No condition but that it is a byte's number.
-/
import Derived.Test.YtpiekfkkhgighaaDoorBytes
import Derived.Test.YtpiekfkkhgighaaDoorProg
import Derived.LoopTactic
import Derived.BigQuiet
import Derived.Deep.QuietTactic
namespace Go.Proofs.YtpiekfkkhgighaaDoor
open Go.RowKit
set_option maxRecDepth 100000

theorem ret_i {k : IntKind} {a b : Int} (h : a = b) : Ending.returned (.int k a) = .returned (.int k b) := by rw [h]
theorem ret_b {a b : Bool} (h : a = b) : Ending.returned (.bool a) = .returned (.bool b) := by rw [h]

set_option maxHeartbeats 2000000 in
theorem sort_lit0 (w : World) (c : Int) (h : c = 33 ∨ c = 34 ∨ c = 35 ∨ c = 36 ∨ c = 37 ∨ c = 38 ∨ c = 39 ∨ c = 40 ∨ c = 41 ∨ c = 42 ∨ c = 43) :
    Calls Tryd.prog 90 #[.int .u8 c] w fun e w' => e = .returned (.int .i64 (bsortI c)) ∧ w = w' := by
  rcases h with rfl | rfl | rfl | rfl | rfl | rfl | rfl | rfl | rfl | rfl | rfl
  all_goals
    go_enter Tryd.func90, Tryd.ntmps90
    go_wp2_with fail
    go_ret
    exact ⟨ret_i (by decide), rfl⟩
set_option maxHeartbeats 2000000 in
theorem sort_lit1 (w : World) (c : Int) (h : c = 44 ∨ c = 45 ∨ c = 46 ∨ c = 47 ∨ c = 58 ∨ c = 59 ∨ c = 60 ∨ c = 61 ∨ c = 62 ∨ c = 63 ∨ c = 64) :
    Calls Tryd.prog 90 #[.int .u8 c] w fun e w' => e = .returned (.int .i64 (bsortI c)) ∧ w = w' := by
  rcases h with rfl | rfl | rfl | rfl | rfl | rfl | rfl | rfl | rfl | rfl | rfl
  all_goals
    go_enter Tryd.func90, Tryd.ntmps90
    go_wp2_with fail
    go_ret
    exact ⟨ret_i (by decide), rfl⟩
set_option maxHeartbeats 2000000 in
theorem sort_lit2 (w : World) (c : Int) (h : c = 91 ∨ c = 92 ∨ c = 93 ∨ c = 94 ∨ c = 95 ∨ c = 96 ∨ c = 123 ∨ c = 124 ∨ c = 125 ∨ c = 126 ∨ c = 32) :
    Calls Tryd.prog 90 #[.int .u8 c] w fun e w' => e = .returned (.int .i64 (bsortI c)) ∧ w = w' := by
  rcases h with rfl | rfl | rfl | rfl | rfl | rfl | rfl | rfl | rfl | rfl | rfl
  all_goals
    go_enter Tryd.func90, Tryd.ntmps90
    go_wp2_with fail
    go_ret
    exact ⟨ret_i (by decide), rfl⟩
set_option maxHeartbeats 2000000 in
theorem sort_iv0 (w : World) (c : Int) (h0 : 0 ≤ c) (h1 : c ≤ 8) :
    Calls Tryd.prog 90 #[.int .u8 c] w fun e w' => e = .returned (.int .i64 (bsortI c)) ∧ w = w' := by
  go_enter Tryd.func90, Tryd.ntmps90
  go_wp2_with fail
  go_ret
  exact ⟨ret_i (by unfold bsortI; (repeat' split) <;> omega), rfl⟩
set_option maxHeartbeats 2000000 in
theorem sort_iv1 (w : World) (c : Int) (h0 : 9 ≤ c) (h1 : c ≤ 13) :
    Calls Tryd.prog 90 #[.int .u8 c] w fun e w' => e = .returned (.int .i64 (bsortI c)) ∧ w = w' := by
  go_enter Tryd.func90, Tryd.ntmps90
  go_wp2_with fail
  go_ret
  exact ⟨ret_i (by unfold bsortI; (repeat' split) <;> omega), rfl⟩
set_option maxHeartbeats 2000000 in
theorem sort_iv2 (w : World) (c : Int) (h0 : 14 ≤ c) (h1 : c ≤ 31) :
    Calls Tryd.prog 90 #[.int .u8 c] w fun e w' => e = .returned (.int .i64 (bsortI c)) ∧ w = w' := by
  go_enter Tryd.func90, Tryd.ntmps90
  go_wp2_with fail
  go_ret
  exact ⟨ret_i (by unfold bsortI; (repeat' split) <;> omega), rfl⟩
set_option maxHeartbeats 2000000 in
theorem sort_iv3 (w : World) (c : Int) (h0 : 48 ≤ c) (h1 : c ≤ 57) :
    Calls Tryd.prog 90 #[.int .u8 c] w fun e w' => e = .returned (.int .i64 (bsortI c)) ∧ w = w' := by
  go_enter Tryd.func90, Tryd.ntmps90
  go_wp2_with fail
  go_ret
  exact ⟨ret_i (by unfold bsortI; (repeat' split) <;> omega), rfl⟩
set_option maxHeartbeats 2000000 in
theorem sort_iv4 (w : World) (c : Int) (h0 : 65 ≤ c) (h1 : c ≤ 90) :
    Calls Tryd.prog 90 #[.int .u8 c] w fun e w' => e = .returned (.int .i64 (bsortI c)) ∧ w = w' := by
  go_enter Tryd.func90, Tryd.ntmps90
  go_wp2_with fail
  go_ret
  exact ⟨ret_i (by unfold bsortI; (repeat' split) <;> omega), rfl⟩
set_option maxHeartbeats 2000000 in
theorem sort_iv5 (w : World) (c : Int) (h0 : 97 ≤ c) (h1 : c ≤ 122) :
    Calls Tryd.prog 90 #[.int .u8 c] w fun e w' => e = .returned (.int .i64 (bsortI c)) ∧ w = w' := by
  go_enter Tryd.func90, Tryd.ntmps90
  go_wp2_with fail
  go_ret
  exact ⟨ret_i (by unfold bsortI; (repeat' split) <;> omega), rfl⟩
set_option maxHeartbeats 2000000 in
theorem sort_iv6 (w : World) (c : Int) (h0 : 127 ≤ c) (h1 : c ≤ 255) :
    Calls Tryd.prog 90 #[.int .u8 c] w fun e w' => e = .returned (.int .i64 (bsortI c)) ∧ w = w' := by
  go_enter Tryd.func90, Tryd.ntmps90
  go_wp2_with fail
  go_ret
  exact ⟨ret_i (by unfold bsortI; (repeat' split) <;> omega), rfl⟩
theorem sort_any (w : World) (c : Int) (h0 : 0 ≤ c) (h1 : c ≤ 255) :
    Calls Tryd.prog 90 #[.int .u8 c] w fun e w' => e = .returned (.int .i64 (bsortI c)) ∧ w = w' := by
  by_cases i0 : 0 ≤ c ∧ c ≤ 8
  · exact sort_iv0 w c i0.1 i0.2
  by_cases i1 : 9 ≤ c ∧ c ≤ 13
  · exact sort_iv1 w c i1.1 i1.2
  by_cases i2 : 14 ≤ c ∧ c ≤ 31
  · exact sort_iv2 w c i2.1 i2.2
  by_cases i3 : 48 ≤ c ∧ c ≤ 57
  · exact sort_iv3 w c i3.1 i3.2
  by_cases i4 : 65 ≤ c ∧ c ≤ 90
  · exact sort_iv4 w c i4.1 i4.2
  by_cases i5 : 97 ≤ c ∧ c ≤ 122
  · exact sort_iv5 w c i5.1 i5.2
  by_cases i6 : 127 ≤ c ∧ c ≤ 255
  · exact sort_iv6 w c i6.1 i6.2
  by_cases g0 : c = 33 ∨ c = 34 ∨ c = 35 ∨ c = 36 ∨ c = 37 ∨ c = 38 ∨ c = 39 ∨ c = 40 ∨ c = 41 ∨ c = 42 ∨ c = 43
  · exact sort_lit0 w c g0
  by_cases g1 : c = 44 ∨ c = 45 ∨ c = 46 ∨ c = 47 ∨ c = 58 ∨ c = 59 ∨ c = 60 ∨ c = 61 ∨ c = 62 ∨ c = 63 ∨ c = 64
  · exact sort_lit1 w c g1
  exact sort_lit2 w c (by omega)
theorem sort_byte (w : World) (c : UInt8) : Calls Tryd.prog 90 #[.int .u8 (c.toNat : Int)] w fun e w' => e = .returned (.int .i64 (bsort c)) ∧ w = w' :=
  sort_any w c.toNat (by omega) (by have := c.toNat_lt; omega)
theorem bsortI_bd (c : Int) : 0 ≤ bsortI c ∧ bsortI c ≤ 8 := by unfold bsortI; (repeat' split) <;> omega
theorem bsort_bd (c : UInt8) : 0 ≤ bsort c ∧ bsort c ≤ 8 := bsortI_bd _
end Go.Proofs.YtpiekfkkhgighaaDoor
