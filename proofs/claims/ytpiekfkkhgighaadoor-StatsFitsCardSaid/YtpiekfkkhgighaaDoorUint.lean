/-
  What strconv.AppendUint answers in base 16 of a byte: the slice with its digits behind. Condition: the table of bits holds what the program's text lays.
-/
import Derived.Test.YtpiekfkkhgighaaDoorGet
import Derived.Test.YtpiekfkkhgighaaDoorRowPut
import Derived.LoopN
namespace Go.Proofs.YtpiekfkkhgighaaDoor
open Go.RowKit
set_option maxRecDepth 100000

theorem low_bit : bits BinOp.and .u64 16 18446744073709551600 = 16 := by decide +kernel
set_option maxHeartbeats 1000000 in
theorem tz64_any (w : World) (ht : w.cell? ⟨8, 15, none⟩ = some (.int .u8 4)) :
    Calls Tryd.prog 122 #[.int .u64 16] w fun e w' => e = .returned (.int .i64 4) ∧ w = w' := by
  have hl := low_bit
  have hw : IntKind.u64.wrap (-16) = 18446744073709551600 := by decide +kernel
  have hv : IntKind.u64.wrap 4573923408821661840 = 4573923408821661840 := by decide +kernel
  go_enter Tryd.func122, Tryd.ntmps122
  go_wp2_with fail
  go_ret
  exact ⟨rfl, rfl⟩
set_option maxHeartbeats 1000000 in
theorem tz_any (w : World) (ht : w.cell? ⟨8, 15, none⟩ = some (.int .u8 4)) :
    Calls Tryd.prog 115 #[.int .u64 16] w fun e w' => e = .returned (.int .i64 4) ∧ w = w' := by
  go_enter Tryd.func115, Tryd.ntmps115
  go_wp2_with fail
  refine (tz64_any w ht).mono ?_
  rintro e w' ⟨rfl, rfl⟩
  go_wp2_with fail
  go_ret
  exact ⟨rfl, rfl⟩
theorem and_sixteen : bits BinOp.and .i64 16 15 = 0 := by decide +kernel
set_option maxHeartbeats 1000000 in
theorem pow_any (w : World) : Calls Tryd.prog 114 #[.int .i64 16] w fun e w' => e = .returned (.bool true) ∧ w = w' := by
  have hl := and_sixteen
  go_enter Tryd.func114, Tryd.ntmps114
  go_wp2_with fail
  go_ret
  exact ⟨rfl, rfl⟩
theorem and_mask : ∀ d : Nat, d < 16 → bits BinOp.and .u64 (d : Int) 15 = (d : Int) := by
  intro d hd
  have h := bits_and_u64_nat d 15 (by omega) (by omega)
  refine h.trans ?_
  have : ∀ d : Nat, d < 16 → d &&& 15 = d := by decide
  rw [this d hd]
theorem and_mask2 : ∀ i : Nat, i < 256 → bits BinOp.and .u64 (i : Int) 15 = ((i % 16 : Nat) : Int) := by
  intro i hi
  have h := bits_and_u64_nat i 15 (by omega) (by omega)
  refine h.trans ?_
  have : ∀ i : Nat, i < 256 → i &&& 15 = i % 16 := by decide +kernel
  rw [this i hi]

def digits36 : List UInt8 := [48, 49, 50, 51, 52, 53, 54, 55, 56, 57, 97, 98, 99, 100, 101, 102, 103, 104, 105, 106, 107, 108, 109, 110, 111, 112, 113, 114, 115, 116, 117, 118, 119, 120, 121, 122]
theorem digit_at : ∀ i : Nat, i < 16 → digits36[i]? = some (hexDigit i) := by decide
theorem digit_byte (i : Nat) (hi : i < 16) : (⟨#[48, 49, 50, 51, 52, 53, 54, 55, 56, 57, 97, 98, 99, 100, 101, 102, 103, 104, 105, 106, 107, 108, 109, 110, 111, 112, 113, 114, 115, 116, 117, 118, 119, 120, 121, 122]⟩ : ByteArray)[i]'(by show i < 36; omega) = hexDigit i := by
  obtain ⟨c, -, hx, hg⟩ := byte_at digits36 i (by show i < 36; omega)
  rw [digit_at i hi] at hg
  cases hg
  exact hx
theorem tab_later {w w' : World} {v : Value} (ht : w.cell? ⟨8, 15, none⟩ = some v) (hb : Below w.heap.size w w') : w'.cell? ⟨8, 15, none⟩ = some v := by
  rw [World.cell?_of_block (hb.block _ (World.block_lt_of_cell? w _ ht))]
  exact ht
set_option maxHeartbeats 4000000 in
theorem format_any (w : World) (B : Nat) (v : Value) (l : List UInt8) (i : Nat) (hi : i < 16) (hl : (l.length : Int) ≤ 1000000) (hrow : Row w B 5 1 encB v l) (hB : B ≤ w.heap.size) (ht : w.cell? ⟨8, 15, none⟩ = some (.int .u8 4)) :
    Calls Tryd.prog 105 #[v, .int .u64 (i : Int), .int .i64 16, .bool false, .bool true] w fun e w' => ∃ v', e = .returned (.tuple #[v', .string ⟨#[]⟩]) ∧ Row w' B 5 1 encB v' (l ++ [hexDigit i]) ∧ Fr (fun k => v.ownBlock = some k) w w' := by
  obtain ⟨W1, hW1⟩ : ∃ W1, w.alloc (.cells Tryd.zeroCells187 187) = W1 := ⟨_, rfl⟩
  have ht1 : W1.cell? ⟨8, 15, none⟩ = some (.int .u8 4) := tab_later ht (by rw [← hW1]; exact (Below.refl _ _).alloc (Nat.le_refl _) _)
  have hz64 : W1.cell? ⟨w.heap.size, 64, none⟩ = some (.int .u8 0) := by rw [← hW1]; exact cell_alloc1 w _ _ 64 _ (by kernel_rfl)
  have hf64 : W1.frozen? ⟨w.heap.size, 64, none⟩ = false := by rw [← hW1]; simp
  have HT1 := Lib.hid ht1
  obtain ⟨ti, tz, hti, htz, hsi, hby, hzs⟩ := byte_info
  have hs1 : W1.heap.size = w.heap.size + 1 := by rw [← hW1]; simp
  have HR := Lib.hid hrow
  have hx := digit_byte i hi
  have hi' : (i : Int) < 16 := by omega
  have ham := and_mask i hi
  clear ht ht1 hrow
  go_enter Tryd.func105, Tryd.ntmps105
  go_wp2_with fail
  refine (pow_any _).mono ?_
  rintro e w1 ⟨rfl, rfl⟩
  go_wp2_with fail
  refine (tz_any _ HT1.out).mono ?_
  rintro e w1 ⟨rfl, rfl⟩
  go_wp2_with fail
  refine wp_loop_rounds 1 ?_
  rw [rounds_succ]
  have hnews : ∀ j u, ([hexDigit i].flatMap encB)[j]? = some u → (W1.setCell ⟨w.heap.size, 64, none⟩ (.int .u8 ((hexDigit i).toNat : Int))).cell? ⟨w.heap.size, 64 + j, none⟩ = some u := by
    intro j u hu
    have hj : j = 0 := by
      have := (List.getElem?_eq_some_iff.1 hu).1
      simp [encB] at this
      omega
    subst hj
    rw [World.cell?_setCell_same _ _ _ hz64]
    simpa [encB] using hu
  have HNW := Lib.hid hnews
  clear hnews
  go_wp2_with (at_builtin; refine wpList_rows rfl _ _ 93 rfl _ B 5 ti tz 1 1 encB Tryd.underlying93 hti htz hsi hby hzs (by decide) encB_len encB_one _ l [hexDigit i] rfl ((HR.out.later (by rw [← hW1]; exact (Below.refl _ _).alloc (Nat.le_refl _) _)).away _ (fun k hk => by have := (HR.out.lt k hk).2; simp only; omega)) w.heap.size 64 1 rfl HNW.out (by unfold maxLen; simp; omega) (by simp; omega) (by simp; omega) ?_)
  intro v' w5 hrow5 hg5
  have hF : Fr (fun k => v.ownBlock = some k) w w5 := by
    refine Fr.grown (w' := W1.setCell ⟨w.heap.size, 64, none⟩ (.int .u8 ((hexDigit i).toNat : Int))) ?_ hg5 (fun g hg => .inl hg)
    rw [← hW1]
    exact ((Fr.refl _ _).alloc _).setCell (.inr (Nat.le_refl _)) _
  have HF := Lib.hid hF
  have HR5 := Lib.hid hrow5
  clear hF hrow5 hg5 HNW hz64 hf64 hW1
  go_wp2_with fail
  go_ret2
  exact ⟨_, rfl, HR5.out, HF.out⟩
set_option maxHeartbeats 4000000 in
theorem format_two (w : World) (B : Nat) (v : Value) (l : List UInt8) (i : Nat) (h16 : 16 ≤ i) (hi : i < 256) (hl : (l.length : Int) ≤ 1000000) (hrow : Row w B 5 1 encB v l) (hB : B ≤ w.heap.size) (ht : w.cell? ⟨8, 15, none⟩ = some (.int .u8 4)) :
    Calls Tryd.prog 105 #[v, .int .u64 (i : Int), .int .i64 16, .bool false, .bool true] w fun e w' => ∃ v', e = .returned (.tuple #[v', .string ⟨#[]⟩]) ∧ Row w' B 5 1 encB v' (l ++ [hexDigit (i / 16), hexDigit (i % 16)]) ∧ Fr (fun k => v.ownBlock = some k) w w' := by
  obtain ⟨W1, hW1⟩ : ∃ W1, w.alloc (.cells Tryd.zeroCells187 187) = W1 := ⟨_, rfl⟩
  have ht1 : W1.cell? ⟨8, 15, none⟩ = some (.int .u8 4) := tab_later ht (by rw [← hW1]; exact (Below.refl _ _).alloc (Nat.le_refl _) _)
  have hz64 : W1.cell? ⟨w.heap.size, 64, none⟩ = some (.int .u8 0) := by rw [← hW1]; exact cell_alloc1 w _ _ 64 _ (by kernel_rfl)
  have hf64 : W1.frozen? ⟨w.heap.size, 64, none⟩ = false := by rw [← hW1]; simp
  have HT1 := Lib.hid ht1
  obtain ⟨ti, tz, hti, htz, hsi, hby, hzs⟩ := byte_info
  have hs1 : W1.heap.size = w.heap.size + 1 := by rw [← hW1]; simp
  have HR := Lib.hid hrow
  have hx := digit_byte (i % 16) (by omega)
  have hx2 := digit_byte (i / 16) (by omega)
  have hi' : 16 ≤ (i : Int) := by omega
  have hi2 : (i : Int) / 16 < 16 := by omega
  have ham := and_mask2 i hi
  clear ht ht1 hrow
  go_enter Tryd.func105, Tryd.ntmps105
  go_wp2_with fail
  refine (pow_any _).mono ?_
  rintro e w1 ⟨rfl, rfl⟩
  go_wp2_with fail
  refine (tz_any _ HT1.out).mono ?_
  rintro e w1 ⟨rfl, rfl⟩
  go_wp2_with fail
  have hz63 : W1.cell? ⟨w.heap.size, 63, none⟩ = some (.int .u8 0) := by rw [← hW1]; exact cell_alloc1 w _ _ 63 _ (by kernel_rfl)
  have hf63 : W1.frozen? ⟨w.heap.size, 63, none⟩ = false := by rw [← hW1]; simp
  refine wp_loop_rounds 2 ?_
  rw [rounds_succ]
  go_wp2_with fail
  rw [rounds_succ]
  have hnews : ∀ j u, ([hexDigit (i / 16), hexDigit (i % 16)].flatMap encB)[j]? = some u → ((W1.setCell ⟨w.heap.size, 64, none⟩ (.int .u8 ((hexDigit (i % 16)).toNat : Int))).setCell ⟨w.heap.size, 63, none⟩ (.int .u8 ((hexDigit (i / 16)).toNat : Int))).cell? ⟨w.heap.size, 63 + j, none⟩ = some u := by
    intro j u hu
    have hz63' : (W1.setCell ⟨w.heap.size, 64, none⟩ (.int .u8 ((hexDigit (i % 16)).toNat : Int))).cell? ⟨w.heap.size, 63, none⟩ = some (.int .u8 0) := by
      rw [World.cell?_setCell_other _ _ _ _ (by simp)]
      exact hz63
    have hj : j = 0 ∨ j = 1 := by
      have := (List.getElem?_eq_some_iff.1 hu).1
      simp [encB] at this
      omega
    rcases hj with rfl | rfl
    · rw [World.cell?_setCell_same _ _ _ hz63']
      simpa [encB] using hu
    · rw [World.cell?_setCell_other _ _ _ _ (by simp), World.cell?_setCell_same _ _ _ hz64]
      simpa [encB] using hu
  have HNW := Lib.hid hnews
  clear hnews
  go_wp2_with (at_builtin; refine wpList_rows rfl _ _ 93 rfl _ B 5 ti tz 1 1 encB Tryd.underlying93 hti htz hsi hby hzs (by decide) encB_len encB_one _ l [hexDigit (i / 16), hexDigit (i % 16)] rfl (((HR.out.later (by rw [← hW1]; exact (Below.refl _ _).alloc (Nat.le_refl _) _)).away _ (fun k hk => by have := (HR.out.lt k hk).2; simp only; omega)).away _ (fun k hk => by have := (HR.out.lt k hk).2; simp only; omega)) w.heap.size 63 2 rfl HNW.out (by unfold maxLen; simp; omega) (by simp; omega) (by simp; omega) ?_)
  intro v' w5 hrow5 hg5
  have hF : Fr (fun k => v.ownBlock = some k) w w5 := by
    refine Fr.grown (w' := (W1.setCell ⟨w.heap.size, 64, none⟩ (.int .u8 ((hexDigit (i % 16)).toNat : Int))).setCell ⟨w.heap.size, 63, none⟩ (.int .u8 ((hexDigit (i / 16)).toNat : Int))) ?_ hg5 (fun g hg => .inl hg)
    rw [← hW1]
    exact (((Fr.refl _ _).alloc _).setCell (.inr (Nat.le_refl _)) _).setCell (.inr (Nat.le_refl _)) _
  have HF := Lib.hid hF
  have HR5 := Lib.hid hrow5
  clear hF hrow5 hg5 HNW hz64 hf64 hW1
  go_wp2_with fail
  go_ret2
  exact ⟨_, rfl, HR5.out, HF.out⟩

/-- What AppendUint answers of a byte. -/
theorem format_byte (w : World) (B : Nat) (v : Value) (l : List UInt8) (c : UInt8) (hl : (l.length : Int) ≤ 1000000) (hrow : Row w B 5 1 encB v l) (hB : B ≤ w.heap.size) (ht : w.cell? ⟨8, 15, none⟩ = some (.int .u8 4)) :
    Calls Tryd.prog 105 #[v, .int .u64 (c.toNat : Int), .int .i64 16, .bool false, .bool true] w fun e w' => ∃ v', e = .returned (.tuple #[v', .string ⟨#[]⟩]) ∧ Row w' B 5 1 encB v' (l ++ hexOf c) ∧ Fr (fun k => v.ownBlock = some k) w w' := by
  have hc := c.toNat_lt
  by_cases h : c.toNat < 16
  · rw [show hexOf c = [hexDigit c.toNat] by unfold hexOf; rw [if_pos h]]
    exact format_any w B v l c.toNat h hl hrow hB ht
  · rw [show hexOf c = [hexDigit (c.toNat / 16), hexDigit (c.toNat % 16)] by unfold hexOf; rw [if_neg h]]
    exact format_two w B v l c.toNat (by omega) (by omega) hl hrow hB ht
set_option maxHeartbeats 1000000 in
theorem uint_in (w : World) (B : Nat) (v : Value) (l : List UInt8) (c : UInt8) (hl : (l.length : Int) ≤ 1000000) (hrow : Row w B 5 1 encB v l) (hB : B ≤ w.heap.size) (ht : w.cell? ⟨8, 15, none⟩ = some (.int .u8 4)) :
    Calls Tryd.prog 91 #[v, .int .u64 (c.toNat : Int), .int .i64 16] w fun e w' => ∃ v', e = .returned v' ∧ Row w' B 5 1 encB v' (l ++ hexOf c) ∧ Fr (fun k => v.ownBlock = some k) w w' := by
  have HF := Lib.hid (format_byte w B v l c hl hrow hB ht)
  clear hrow ht
  go_enter Tryd.func91, Tryd.ntmps91
  go_wp2_with fail
  refine HF.out.mono ?_
  rintro e w1 ⟨v', rfl, hr, hf⟩
  have HR := Lib.hid hr
  have HF1 := Lib.hid hf
  clear hr hf HF
  go_wp2_with fail
  go_ret
  exact ⟨_, rfl, HR.out, HF1.out⟩
set_option maxHeartbeats 1000000 in
theorem uint_any (w : World) (B : Nat) (v : Value) (l : List UInt8) (c : UInt8) (hl : (l.length : Int) ≤ 1000000) (hrow : Row w B 5 1 encB v l) (hB : B ≤ w.heap.size) (ht : w.cell? ⟨8, 15, none⟩ = some (.int .u8 4)) :
    Calls Tryd.prog 72 #[v, .int .u64 (c.toNat : Int), .int .i64 16] w fun e w' => ∃ v', e = .returned v' ∧ Row w' B 5 1 encB v' (l ++ hexOf c) ∧ Fr (fun k => v.ownBlock = some k) w w' := by
  have HF := Lib.hid (uint_in w B v l c hl hrow hB ht)
  clear hrow ht
  go_enter Tryd.func72, Tryd.ntmps72
  go_wp2_with fail
  refine HF.out.mono ?_
  rintro e w1 ⟨v', rfl, hr, hf⟩
  have HR := Lib.hid hr
  have HF1 := Lib.hid hf
  clear hr hf HF
  go_wp2_with fail
  go_ret
  exact ⟨_, rfl, HR.out, HF1.out⟩
end Go.Proofs.YtpiekfkkhgighaaDoor
