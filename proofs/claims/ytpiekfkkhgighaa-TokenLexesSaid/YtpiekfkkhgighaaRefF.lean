/-
  What the document's own digit and number (layer 2) answer: a digit's value, the byte of digits up to a backslash. Condition: the base is 8 or 16, and the sizes that are named.
-/
import Derived.Test.YtpiekfkkhgighaaNameA
import Derived.LoopTactic
namespace Go.Proofs.Ytpiekfkkhgighaa
open Go.RowKit
set_option maxRecDepth 100000

def digOf (b : Nat) (c : UInt8) : Int := if hexVal c < b then (hexVal c : Int) else -1
set_option maxHeartbeats 2000000 in
theorem rdig_any (w : World) (c : UInt8) (base : Int) (hb : base = 8 ∨ base = 16) :
    Calls Try.prog 76 #[.int .u8 (c.toNat : Int), .int .i64 base] w fun e w' => e = .returned (.int .i64 (digOf base.toNat c)) ∧ w = w' := by
  have hc := c.toNat_lt
  unfold digOf hexVal
  generalize c.toNat = n at *
  have hn : (n : Int) < 256 := by omega
  rcases hb with rfl | rfl
  all_goals
    simp only [Int.reduceToNat]
    by_cases h1 : 48 ≤ n ∧ n ≤ 57
    · rw [if_pos h1]
      have a1 : 48 ≤ (n : Int) := by omega
      have a2 : (n : Int) ≤ 57 := by omega
      have a3 : decide (97 ≤ (n : Int)) = false := decide_eq_false (by omega)
      have a4 : decide (65 ≤ (n : Int)) = false := decide_eq_false (by omega)
      have H := Lib.hid h1
      clear h1
      go_enter Try.func76, Try.ntmps76
      go_wp2_with fail
      all_goals
        go_ret
        exact ⟨ret_i (by have := H.out; first | omega | (split <;> omega)), rfl⟩
    rw [if_neg h1]
    by_cases h2 : 97 ≤ n ∧ n ≤ 102
    · rw [if_pos h2]
      have a1 : 97 ≤ (n : Int) := by omega
      have a2 : (n : Int) ≤ 102 := by omega
      have a3 : decide ((n : Int) ≤ 57) = false := decide_eq_false (by omega)
      have a4 : decide ((n : Int) ≤ 70) = false := decide_eq_false (by omega)
      have H := Lib.hid h2
      clear h1 h2
      go_enter Try.func76, Try.ntmps76
      go_wp2_with fail
      all_goals
        go_ret
        exact ⟨ret_i (by have := H.out; first | omega | (split <;> omega)), rfl⟩
    rw [if_neg h2]
    by_cases h3 : 65 ≤ n ∧ n ≤ 70
    · rw [if_pos h3]
      have a1 : 65 ≤ (n : Int) := by omega
      have a2 : (n : Int) ≤ 70 := by omega
      have a3 : decide ((n : Int) ≤ 57) = false := decide_eq_false (by omega)
      have a4 : decide (97 ≤ (n : Int)) = false := decide_eq_false (by omega)
      have H := Lib.hid h3
      clear h1 h2 h3
      go_enter Try.func76, Try.ntmps76
      go_wp2_with fail
      all_goals
        go_ret
        exact ⟨ret_i (by have := H.out; first | omega | (split <;> omega)), rfl⟩
    rw [if_neg h3, if_neg (by omega)]
    have H1 := Lib.hid h1
    have H2 := Lib.hid h2
    have H3 := Lib.hid h3
    clear h1 h2 h3
    rcases (show (n : Int) < 48 ∨ (58 ≤ (n : Int) ∧ (n : Int) < 65) ∨ (71 ≤ (n : Int) ∧ (n : Int) < 97) ∨ 103 ≤ (n : Int) by have := H1.out; have := H2.out; have := H3.out; omega) with h | ⟨h, h'⟩ | ⟨h, h'⟩ | h
    all_goals
      go_enter Try.func76, Try.ntmps76
      go_wp2_with fail
      go_ret
      exact ⟨rfl, rfl⟩

/-- What number answers: of what the plain law's digits come to. -/
def numN (R : Nat × Nat × Bool) : Int := if R.2.2 then (R.1 : Int) else -1
def numS (R : Nat × Nat × Bool) : Int := if R.2.2 then (R.2.1 : Int) else 0
/-- Where the count stands: in the byte's range as the plain law has it, or beyond. -/
def NumAt (b : Nat) (l : List UInt8) (R : Nat × Nat × Bool) (k v : Nat) : Prop := (v ≤ 255 ∧ codedF b (l.drop k) v k = R) ∨ (256 ≤ v ∧ v ≤ 1000 ∧ R.2.2 = false)
theorem NumAt.le {b : Nat} {l : List UInt8} {R : Nat × Nat × Bool} {k v : Nat} (h : NumAt b l R k v) : v ≤ 1000 := by rcases h with h | h <;> omega
theorem hexVal_slash : hexVal 92 = 16 := by decide
section
variable {b : Nat} {l : List UInt8} {R : Nat × Nat × Bool} {k v : Nat} {c : UInt8}
theorem NumAt.step (h : NumAt b l R k v) (hb : 2 ≤ b) (hb2 : b ≤ 16) (hd : l.drop k = c :: l.drop (k + 1)) (hc : hexVal c < b) : NumAt b l R (k + 1) (min (v * b + hexVal c) 1000) := by
  have h92 : c ≠ 92 := by
    rintro rfl
    rw [hexVal_slash] at hc
    omega
  rcases h with ⟨hv, h⟩ | ⟨h1, h2, h3⟩
  · rw [hd, codedF, if_neg h92, if_neg (by omega)] at h
    by_cases hg : 255 < v * b + hexVal c
    · rw [if_pos hg] at h
      right
      exact ⟨by omega, Nat.min_le_right _ _, by rw [← h]⟩
    · rw [if_neg hg] at h
      left
      rw [Nat.min_eq_left (by omega)]
      exact ⟨by omega, h⟩
  · right
    have : v * 1 ≤ v * b := Nat.mul_le_mul_left _ (by omega)
    exact ⟨by omega, Nat.min_le_right _ _, h3⟩
theorem NumAt.done (h : NumAt b l R k v) (hk : l.length ≤ k) : R.2.2 = false := by
  rcases h with ⟨hv, h⟩ | ⟨h1, h2, h3⟩
  · rw [List.drop_eq_nil_of_le hk, codedF] at h
    rw [← h]
  · exact h3
theorem NumAt.other (h : NumAt b l R k v) (hd : l.drop k = c :: l.drop (k + 1)) (hc : b ≤ hexVal c) (h92 : c ≠ 92) : R.2.2 = false := by
  rcases h with ⟨hv, h⟩ | ⟨h1, h2, h3⟩
  · rw [hd, codedF, if_neg h92, if_pos hc] at h
    rw [← h]
  · exact h3
theorem NumAt.slash (h : NumAt b l R k v) (hd : l.drop k = 92 :: l.drop (k + 1)) (hk : 0 < k) : (v ≤ 255 → R = (v, k + 1, true)) ∧ (255 < v → R.2.2 = false) := by
  rcases h with ⟨hv, h⟩ | ⟨h1, h2, h3⟩
  · rw [hd, codedF, if_pos rfl] at h
    exact ⟨fun _ => by rw [← h]; simp [hk], fun h' => by omega⟩
  · exact ⟨fun h' => by omega, fun _ => h3⟩
theorem NumAt.first (h : NumAt b l R 0 0) (hd : l.drop 0 = c :: l.drop 1) (hc : b ≤ hexVal c) : R.2.2 = false := by
  by_cases h92 : c = 92
  · subst h92
    rcases h with ⟨hv, h⟩ | ⟨h1, h2, h3⟩
    · rw [hd, codedF, if_pos rfl] at h
      rw [← h]
      rfl
    · exact h3
  · exact h.other hd hc h92
end
theorem numN_no {R : Nat × Nat × Bool} (h : R.2.2 = false) : numN R = -1 ∧ numS R = 0 := by unfold numN numS; rw [h]; exact ⟨rfl, rfl⟩

theorem num_step {v b d : Nat} (hv : v ≤ 1000) (hb : b ≤ 16) (hd : d ≤ 16) : (if 1000 < wrap64 (wrap64 ((v : Int) * (b : Int)) + (d : Int)) then 1000 else wrap64 (wrap64 ((v : Int) * (b : Int)) + (d : Int))) = ((min (v * b + d) 1000 : Nat) : Int) := by
  have h1 : v * b ≤ 1000 * 16 := Nat.mul_le_mul hv hb
  rw [show (v : Int) * (b : Int) = ((v * b : Nat) : Int) by simp]
  generalize v * b = m at *
  have e1 : wrap64 (m : Int) = (m : Int) := by unfold wrap64; omega
  rw [e1]
  have e2 : wrap64 ((m : Int) + (d : Int)) = (m : Int) + (d : Int) := by unfold wrap64; omega
  rw [e2]
  split <;> omega
set_option maxHeartbeats 2000000 in
theorem rnum_any (w : World) (l : List UInt8) (base : Int) (hb : base = 8 ∨ base = 16) (hl : (l.length : Int) ≤ 1000000) :
    Calls Try.prog 77 #[.string ⟨l.toArray⟩, .int .i64 base] w fun e w' =>
      e = .returned (.tuple #[.int .i64 (numN (codedF base.toNat l 0 0)), .int .i64 (numS (codedF base.toNat l 0 0))]) ∧ w = w' := by
  generalize hR : codedF base.toNat l 0 0 = R
  obtain ⟨b, hbb⟩ : ∃ b : Nat, base.toNat = b := ⟨_, rfl⟩
  have hb2 : 2 ≤ b ∧ b ≤ 16 ∧ base = (b : Int) := by omega
  obtain ⟨hb2, hb3, hb4⟩ := hb2
  have H0 : Hid (NumAt b l R 0 0) := Lib.hid (.inl ⟨by omega, by rw [← hbb]; exact hR⟩)
  have HB := Lib.hid (And.intro hb hbb)
  subst hb4
  clear hR hbb hb
  go_enter Try.func77, Try.ntmps77
  go_wp2_with fail
  go_loop [6, 7] (fun n i => ∃ k v : Nat, k ≤ l.length ∧ v ≤ 1000 ∧ (k = 0 → v = 0) ∧ i = .int .i64 k ∧ n = .int .i64 v ∧ Hid (NumAt b l R k v)) (fun _ i => l.length - (intOf i).toNat)
  case atStart => exact ⟨0, 0, Nat.zero_le _, by omega, fun _ => rfl, rfl, rfl, H0⟩
  case round =>
    obtain ⟨k, v, hk, hv, hk0, rfl, rfl, HN⟩ := hrel
    have HK0 := Lib.hid hk0
    clear hk0 H0
    by_cases hlt : k < l.length
    · obtain ⟨c, hd, hx, -⟩ := byte_at l k hlt
      have HD := Lib.hid hd
      have hxv := hexVal_bd c
      have hlt' : (k : Int) < (l.length : Int) := by omega
      clear hd
      go_wp2_with fail
      refine (rdig_any _ c _ HB.out.1).mono ?_
      rintro e w' ⟨rfl, rfl⟩
      rw [HB.out.2]
      unfold digOf
      by_cases hc : hexVal c < b
      · rw [if_pos hc]
        have HS := Lib.hid (HN.out.step hb2 hb3 HD.out hc)
        have h0 : decide (0 ≤ (hexVal c : Int)) = true := decide_eq_true (by omega)
        clear HN
        go_wp2_with fail
        refine (rdig_any _ c _ HB.out.1).mono ?_
        rintro e w' ⟨rfl, rfl⟩
        rw [HB.out.2]
        unfold digOf
        rw [if_pos hc]
        go_wp2_with fail
        go_round
        case rel => exact ⟨k + 1, min (v * b + hexVal c) 1000, hlt, Nat.min_le_right _ _, fun h => by omega, by go_num, congrArg _ (num_step hv hb3 hxv), HS⟩
        case measure => simp [intOf]; omega
      · rw [if_neg hc]
        by_cases hk0 : k = 0
        · subst hk0
          obtain rfl := HK0.out rfl
          have HR := Lib.hid (numN_no (HN.out.first HD.out (by omega)))
          clear HN hc
          go_wp2_with fail
          go_ret2
          rw [HR.out.1, HR.out.2]
          exact ⟨rfl, rfl⟩
        · have hk1 : ((k : Int) == 0) = false := by rw [beq_eq_false_iff_ne]; omega
          have hge : decide ((l.length : Int) ≤ (k : Int)) = false := decide_eq_false (by omega)
          by_cases h92 : c = 92
          · subst h92
            obtain ⟨g1, g2⟩ := HN.out.slash HD.out (by omega)
            by_cases hv : v ≤ 255
            · have HR := Lib.hid (g1 hv)
              have hv' : decide (255 < (v : Int)) = false := decide_eq_false (by omega)
              clear HN hc g1 g2 hk0
              go_wp2_with fail
              go_ret2
              rw [HR.out]
              exact ⟨rfl, rfl⟩
            · have HR := Lib.hid (numN_no (g2 (by omega)))
              have hv' : decide (255 < (v : Int)) = true := decide_eq_true (by omega)
              clear HN hc g1 g2 hk0
              go_wp2_with fail
              go_ret2
              rw [HR.out.1, HR.out.2]
              exact ⟨rfl, rfl⟩
          · have t : ((c.toNat : Int) == 92) = false := byte_ne h92
            have t' : ((c.toNat : Int) != 92) = true := by rw [bne, t]; rfl
            have HR := Lib.hid (numN_no (HN.out.other HD.out (by omega) h92))
            clear HN hc h92 hk0
            go_wp2_with fail
            go_ret2
            rw [HR.out.1, HR.out.2]
            exact ⟨rfl, rfl⟩
    · have HR := Lib.hid (numN_no (HN.out.done (by omega)))
      have hge : decide ((l.length : Int) ≤ (k : Int)) = true := decide_eq_true (by omega)
      clear HN
      by_cases hk0 : k = 0
      · subst hk0
        go_wp2_with fail
        go_ret2
        rw [HR.out.1, HR.out.2]
        exact ⟨rfl, rfl⟩
      · have hk1 : ((k : Int) == 0) = false := by rw [beq_eq_false_iff_ne]; omega
        clear hk0
        go_wp2_with fail
        go_ret2
        rw [HR.out.1, HR.out.2]
        exact ⟨rfl, rfl⟩
end Go.Proofs.Ytpiekfkkhgighaa
