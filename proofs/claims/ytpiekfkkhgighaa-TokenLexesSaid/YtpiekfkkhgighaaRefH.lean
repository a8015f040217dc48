/-
  What the document's own Get answers: what is within quotes, and how many bytes that took. No condition but the sizes that are named.
-/
import Derived.Test.YtpiekfkkhgighaaRefG
import Derived.Deep.Cut
import Derived.Deep.DeepCutAuto
namespace Go.Proofs.Ytpiekfkkhgighaa
open Go.RowKit
set_option maxRecDepth 100000

/-- What holds at each round's head. -/
structure RGetInv (w : World) (q : UInt8) (l : List UInt8) (R : Option (List UInt8 × Nat)) (k : Nat) (v : Value) (acc : List UInt8) (wr : World) : Prop where
  row : Row wr w.heap.size 5 1 encB v acc
  below : Below w.heap.size w wr
  acc_le : acc.length ≤ k
  ans : getF q l.length (l.drop k) k acc = R
theorem RGetInv.step {w : World} {q : UInt8} {l : List UInt8} {R : Option (List UInt8 × Nat)} {k k' : Nat} {v v' : Value} {acc : List UInt8} {wr w' : World} {c : UInt8} {o : Obj} (h : RGetInv w q l R k v acc wr)
    (hr : Row w' w.heap.size 5 1 encB v' (acc ++ [c])) (hg : (wr.alloc o).grownBy w' v.ownBlock) (hk : k < k') (ha : getF q l.length (l.drop k') k' (acc ++ [c]) = R) : RGetInv w q l R k' v' (acc ++ [c]) w' := by
  refine ⟨hr, ?_, ?_, ha⟩
  · have hF : Fr (fun k => w.heap.size ≤ k) w w' := ((Fr.of_below _ h.below).alloc o).grown hg fun g e => .inl (h.row.lt g e).1
    exact hF.below (Nat.le_refl _) fun k hk => by omega
  · have := h.acc_le
    rw [List.length_append]
    simp
    omega
theorem sx_at (m : Nat) (hm : m < 8) : (⟨#[110, 114, 116, 97, 98, 102, 118, 48]⟩ : ByteArray)[m]'(by show m < 8; exact hm) = letK m := by
  rcases (show m = 0 ∨ m = 1 ∨ m = 2 ∨ m = 3 ∨ m = 4 ∨ m = 5 ∨ m = 6 ∨ m = 7 by omega) with rfl | rfl | rfl | rfl | rfl | rfl | rfl | rfl <;> rfl
theorem ix_at (w : World) (m : Nat) (hm : m < 8) : (Instr.index 114 (.agg #[.int .i64 10, .int .i64 13, .int .i64 9, .int .i64 7, .int .i64 8, .int .i64 12, .int .i64 11, .int .i64 0]) (.int .i64 (m : Int))).run Try.prog w = .ok (.int .i64 (valK m)) w := by
  rcases (show m = 0 ∨ m = 1 ∨ m = 2 ∨ m = 3 ∨ m = 4 ∨ m = 5 ∨ m = 6 ∨ m = 7 by omega) with rfl | rfl | rfl | rfl | rfl | rfl | rfl | rfl <;> kernel_rfl

set_option maxHeartbeats 8000000 in
theorem rget_any (w : World) (l : List UInt8) (q : UInt8) (qi : Int) (hq : qi = (q.toNat : Int)) (hn : (l.length : Int) ≤ 1000000) :
    Calls Try.prog 53 #[.string ⟨l.toArray⟩, .int .u8 qi] w fun e w' => e = .returned (getRes (getQ q l)) ∧ Below w.heap.size w w' := by
  subst hq
  generalize hR : getQ q l = R
  have HR := Lib.hid hR
  clear hR
  obtain ⟨i, z, hi, hz, hsi, hby, hzs⟩ := byte_info
  have HI0 : Hid (RGetInv w q l R 0 (.slice none 0 0) [] w) := Lib.hid ⟨Row.nil _ _ _ _ _, Below.refl _ _, Nat.zero_le _, HR.out⟩
  clear HR
  go_enter Try.func53, Try.ntmps53
  go_wp2_with fail
  go_loopw [7, 8] (fun v i wr => ∃ (k : Nat) (acc : List UInt8), k ≤ l.length ∧ i = .int .i64 k ∧ RGetInv w q l R k v acc wr) (fun _ i _ => l.length - (intOf i).toNat)
  case atStart => exact ⟨0, [], Nat.zero_le _, rfl, HI0.out⟩
  case round =>
    obtain ⟨k, acc, hk, rfl, hI⟩ := hrel
    have hacc := hI.acc_le
    have hwr := hI.below.size
    have HI := Lib.hid hI
    clear hI HI0
    by_cases hlt : k < l.length
    · obtain ⟨c, hd, hx, -⟩ := byte_at l k hlt
      have hlt' : (k : Int) < (l.length : Int) := by omega
      have hf : (l.drop (k + 1)).length < l.length := by rw [List.length_drop]; omega
      have ha := HI.out.ans
      rw [hd] at ha
      have HA := Lib.hid ha
      have hhd := head_drop l (k + 1)
      have HHD := Lib.hid hhd
      clear ha hd hhd
      by_cases h1 : c = q
      · subst h1
        by_cases h2 : (k : Int) + 1 = l.length
        · have t2 : decide ((l.length : Int) ≤ (k : Int) + 1) = true := decide_eq_true (by omega)
          have hst := HI.out.row.string (P := Try.prog) (dst := 9) Try.underlying30 Try.underlying5 Try.underlying9
          have ha := HA.out
          rw [getF_close hf (by rw [HHD.out, List.getElem?_eq_none (by omega)]; simp)] at ha
          have HA2 := Lib.hid ha
          clear ha HA h2 HHD
          go_wp2_with fail
          go_ret3
          rw [← HA2.out]
          exact ⟨by simp [getRes], HI.out.below⟩
        · have hlt2 : k + 1 < l.length := by omega
          have t2 : decide ((l.length : Int) ≤ (k : Int) + 1) = false := decide_eq_false (by omega)
          have hlt2' : (k : Int) + 1 < (l.length : Int) := by omega
          obtain ⟨d, hd1, hx1, hg1⟩ := byte_at l (k + 1) hlt2
          rw [hg1] at HHD
          clear hd1 hg1 h2
          by_cases h3 : d = c
          · subst h3
            have t3 : ((d.toNat : Int) != (d.toNat : Int)) = false := by simp
            have ha := HA.out
            rw [getF_twice hf HHD.out, List.tail_drop] at ha
            have HA1 := Lib.hid ha
            clear ha HA HHD
            go_wp2_with (at_builtin; refine wpList_row rfl _ _ 30 rfl _ w.heap.size 5 i z 1 1 encB Try.underlying30 hi hz hsi hby hzs (by decide) encB_len encB_one _ acc d rfl (HI.out.row.alloc _) _ _ rfl (fun j u hu => cell_alloc1 _ _ _ j u (by simpa [encB] using hu)) (by unfold maxLen; omega) (by omega) (Nat.le_trans hwr (by simp)) ?_)
            intro v' w5 hrow5 hg5
            have HI5 := Lib.hid (HI.out.step (c := d) (k' := k + 2) hrow5 hg5 (by omega) HA1.out)
            clear hrow5 hg5
            go_wp2_with fail
            go_roundw
            case rel => exact ⟨k + 2, _, by omega, by go_num, HI5.out⟩
            case measure => simp [intOf]; omega
          · have t3 : ((d.toNat : Int) == (c.toNat : Int)) = false := byte_ne h3
            have t3' : ((d.toNat : Int) != (c.toNat : Int)) = true := by rw [bne, t3]; rfl
            have hst := HI.out.row.string (P := Try.prog) (dst := 9) Try.underlying30 Try.underlying5 Try.underlying9
            have ha := HA.out
            rw [getF_close hf (by rw [HHD.out]; simpa using h3)] at ha
            have HA2 := Lib.hid ha
            clear ha HA HHD h3
            go_wp2_with fail
            go_ret3
            rw [← HA2.out]
            exact ⟨by simp [getRes], HI.out.below⟩
      · have t1 : ((c.toNat : Int) == (q.toNat : Int)) = false := byte_ne h1
        by_cases h10 : c = 10
        · subst h10
          have ha := HA.out
          rw [getF_ten hf h1] at ha
          have HA2 := Lib.hid ha
          have t1' : ((10 : Int) == (q.toNat : Int)) = false := t1
          clear ha HA h1 t1
          go_wp2_with fail
          go_ret3
          rw [← HA2.out]
          exact ⟨rfl, HI.out.below⟩
        have t10 : ((c.toNat : Int) == 10) = false := byte_ne h10
        by_cases h92 : c = 92
        · subst h92
          have hq92 : ((92 : Int) == (q.toNat : Int)) = false := t1
          have ha := HA.out
          rw [getF_slash hf h1] at ha
          have HA' := Lib.hid ha
          clear ha HA h1 h10 t10 t1
          by_cases h2 : (k : Int) + 1 = l.length
          · have t2 : decide ((l.length : Int) ≤ (k : Int) + 1) = true := decide_eq_true (by omega)
            have ha := HA'.out
            rw [if_pos (List.drop_eq_nil_of_le (by omega))] at ha
            have HA2 := Lib.hid ha
            clear ha HA' h2 HHD
            go_wp2_with fail
            go_ret3
            rw [← HA2.out]
            exact ⟨rfl, HI.out.below⟩
          have hlt2 : k + 1 < l.length := by omega
          have t2 : decide ((l.length : Int) ≤ (k : Int) + 1) = false := decide_eq_false (by omega)
          have hlt2' : (k : Int) + 1 < (l.length : Int) := by omega
          obtain ⟨d, hd1, hx1, hg1⟩ := byte_at l (k + 1) hlt2
          rw [hg1] at HHD
          obtain ⟨rr, hrr⟩ : ∃ rr, l.drop (k + 1 + 1) = rr := ⟨_, rfl⟩
          have ha := HA'.out
          rw [if_neg (by rw [hd1]; simp), HHD.out, List.tail_drop, hd1, hrr] at ha
          have HA2 := Lib.hid ha
          have HRR := Lib.hid hrr
          have HDR : Hid (l.drop (k + 1) = d :: rr) := Lib.hid (by rw [hd1, hrr])
          clear hd1 hg1 h2 ha HA' HHD hrr
          have hb60 : (k : Int) ≤ 1000000 := by omega
          go_upto_region 9 with fail
          go_cut [11] (fun t u => t = .bool (moreB rr) ∧ u = wr)
          case first =>
            by_cases h3 : k + 2 < l.length
            · obtain ⟨d2, hd2, hx2, -⟩ := byte_at l (k + 2) h3
              have t3 : (k : Int) + 2 < (l.length : Int) := by omega
              have hm : moreB rr = decide (hexVal d2 < 8) := by rw [← HRR.out, show k + 1 + 1 = k + 2 from rfl, hd2]; rfl
              have HM := Lib.hid hm
              clear hd2 hm
              go_wp2_with fail
              refine (rdig_any _ d2 8 (.inl rfl)).mono ?_
              rintro e w' ⟨rfl, rfl⟩
              unfold digOf
              simp only [Int.reduceToNat]
              by_cases hv : hexVal d2 < 8
              · have HM2 := Lib.hid (HM.out.trans (decide_eq_true hv))
                rw [if_pos hv]
                have t4 : decide (0 ≤ (hexVal d2 : Int)) = true := decide_eq_true (by omega)
                go_wp2_with fail
                go_meet
                exact ⟨by rw [HM2.out], rfl⟩
              · have HM2 := Lib.hid (HM.out.trans (decide_eq_false hv))
                rw [if_neg hv]
                go_wp2_with fail
                go_meet
                exact ⟨by rw [HM2.out], rfl⟩
            · have t3 : decide ((k : Int) + 2 < (l.length : Int)) = false := decide_eq_false (by omega)
              have hm : moreB rr = false := by rw [← HRR.out, List.drop_eq_nil_of_le (by omega)]; rfl
              have HM := Lib.hid hm
              clear hm
              go_wp2_with fail
              go_meet
              exact ⟨by rw [HM.out], rfl⟩
          case rest =>
            obtain ⟨rfl, rfl⟩ := hcut
            obtain ⟨mb, hmb⟩ : ∃ mb, moreB rr = mb := ⟨_, rfl⟩
            rw [hmb]
            have HMB := Lib.hid hmb
            clear hmb
            go_wp2_with fail
            go_loop [12, 13] (fun p i => ∃ m : Nat, m ≤ 8 ∧ i = .int .i64 m ∧ p = .int .i64 (plainV d (zeroOk rr) m)) (fun _ i => 8 - (intOf i).toNat)
            case atStart => exact ⟨0, Nat.zero_le _, rfl, rfl⟩
            case round =>
              obtain ⟨m, hm, rfl, rfl⟩ := hrel
              by_cases hm8 : m < 8
              · have hm8' : (m : Int) < 8 := by omega
                have ix := ix_at wc m hm8
                have sx := sx_at m hm8
                have HM8 := Lib.hid hm8
                clear hm
                by_cases hd : d = letK m
                · subst hd
                  have tt : (((letK m).toNat : Int) == ((letK m).toNat : Int)) = true := by simp
                  have hz1 : zeroOk rr = (!mb && !slashB rr) := by unfold zeroOk; rw [HMB.out]
                  by_cases h7 : m < 7
                  · have h7' : decide ((m : Int) < 7) = true := decide_eq_true (by omega)
                    have HV := Lib.hid (plainV_yes (d := letK m) (b := zeroOk rr) (m := m) rfl (.inl h7))
                    clear h7 hz1
                    go_wp2_with fail
                    go_round
                    case rel => exact ⟨m + 1, HM8.out, by go_num, by rw [HV.out]⟩
                    case measure => simp [intOf]; omega
                  have h7' : decide ((m : Int) < 7) = false := decide_eq_false (by omega)
                  have H7 := Lib.hid h7
                  clear h7
                  cases mb
                  · by_cases h3 : k + 2 < l.length
                    · obtain ⟨d2, hd2, hx2, -⟩ := byte_at l (k + 2) h3
                      have t3 : (k : Int) + 2 < (l.length : Int) := by omega
                      rw [show k + 2 = k + 1 + 1 from rfl, HRR.out] at hd2
                      by_cases h4 : d2 = 92
                      · subst h4
                        have HV := Lib.hid (plainV_shut (d := letK m) (b := zeroOk rr) (m := m) H7.out (by rw [hz1]; unfold slashB; rw [hd2]; rfl))
                        clear hd2 hz1
                        go_wp2_with fail
                        go_round
                        case rel => exact ⟨m + 1, HM8.out, by go_num, by rw [HV.out]⟩
                        case measure => simp [intOf]; omega
                      · have t4 : ((d2.toNat : Int) == 92) = false := byte_ne h4
                        have HV := Lib.hid (plainV_yes (d := letK m) (b := zeroOk rr) (m := m) rfl (.inr (by rw [hz1]; unfold slashB; rw [hd2]; simpa using h4)))
                        clear hd2 h4 hz1
                        go_wp2_with fail
                        go_round
                        case rel => exact ⟨m + 1, HM8.out, by go_num, by rw [HV.out]⟩
                        case measure => simp [intOf]; omega
                    · have t3 : decide ((k : Int) + 1 + 1 < (l.length : Int)) = false := decide_eq_false (by omega)
                      have HV := Lib.hid (plainV_yes (d := letK m) (b := zeroOk rr) (m := m) rfl (.inr (by rw [hz1]; unfold slashB; rw [← HRR.out, List.drop_eq_nil_of_le (by omega)]; rfl)))
                      clear h3 hz1
                      go_wp2_with fail
                      go_round
                      case rel => exact ⟨m + 1, HM8.out, by go_num, by rw [HV.out]⟩
                      case measure => simp [intOf]; omega
                  · have HV := Lib.hid (plainV_shut (d := letK m) (b := zeroOk rr) (m := m) H7.out hz1)
                    clear hz1
                    go_wp2_with fail
                    go_round
                    case rel => exact ⟨m + 1, HM8.out, by go_num, by rw [HV.out]⟩
                    case measure => simp [intOf]; omega
                · have t : ((d.toNat : Int) == ((letK m).toNat : Int)) = false := byte_ne hd
                  have HV := Lib.hid (plainV_no (d := d) (b := zeroOk rr) (m := m) hd)
                  clear hd
                  go_wp2_with fail
                  go_round
                  case rel => exact ⟨m + 1, HM8.out, by go_num, by rw [HV.out]⟩
                  case measure => simp [intOf]; omega
              · as_aux_lemma =>
                obtain rfl : m = 8 := by omega
                obtain ⟨p, hP⟩ : ∃ p, plainV d (zeroOk rr) 8 = p := ⟨_, rfl⟩
                have HP := Lib.hid hP
                rw [hP]
                clear hP HMB
                by_cases hp : 0 ≤ p
                · skip
                  obtain ⟨e1, e2, e3⟩ := resc_plain (d := d) (rr := rr) (by rw [HP.out]; exact hp)
                  rw [HP.out] at e2 e3
                  obtain ⟨n, rfl⟩ := Int.eq_ofNat_of_zero_le hp
                  have ha := HA2.out
                  rw [if_neg (by simpa using e1), e3, if_pos rfl] at ha
                  simp only [Int.toNat_natCast, List.drop_succ_cons, List.drop_zero] at ha
                  have HA1 : Hid (getF q l.length (l.drop (k + 2)) (k + 2) (acc ++ [UInt8.ofNat n]) = R) := Lib.hid (by rw [show k + 2 = k + 1 + 1 from rfl, HRR.out]; exact ha)
                  have hnb : (n : Int) = ((UInt8.ofNat n).toNat : Int) := by rw [UInt8.toNat_ofNat']; omega
                  have t5 : decide (0 ≤ (n : Int)) = true := decide_eq_true (by omega)
                  generalize UInt8.ofNat n = m at *
                  have HNB := Lib.hid hnb
                  clear ha HA2 e1 e3 hnb HP
                  go_wp2_with (at_builtin; refine wpList_row rfl _ _ 30 rfl _ w.heap.size 5 i z 1 1 encB Try.underlying30 hi hz hsi hby hzs (by decide) encB_len encB_one _ acc m rfl (HI.out.row.alloc _) _ _ rfl (fun j u hu => cell_alloc1 _ _ _ j u (by rw [HNB.out]; simpa [encB] using hu)) (by unfold maxLen; omega) (by omega) (Nat.le_trans hwr (by simp)) ?_)
                  intro v' w5 hrow5 hg5
                  have HI5 := Lib.hid (HI.out.step (c := m) (k' := k + 2) hrow5 hg5 (by omega) HA1.out)
                  clear hrow5 hg5
                  go_wp2_with fail
                  go_roundw
                  case rel => exact ⟨k + 2, _, by omega, by go_num, HI5.out⟩
                  case measure => simp [intOf]; omega
                · have hp' : p < 0 := by omega
                  have t5 : decide (0 ≤ p) = false := decide_eq_false hp
                  by_cases hs : d = 92 ∨ d = 39 ∨ d = 34 ∨ d = 96
                  · skip
                    have e3 := resc_self (d := d) (rr := rr) (by rw [HP.out]; exact hp') hs
                    have e1 : d ≠ 10 := by rcases hs with h | h | h | h <;> (rw [h]; decide)
                    have ha := HA2.out
                    rw [if_neg (by simpa using e1), e3, if_pos rfl] at ha
                    simp only [List.drop_succ_cons, List.drop_zero, UInt8.ofNat_toNat] at ha
                    have HA1 : Hid (getF q l.length (l.drop (k + 2)) (k + 2) (acc ++ [d]) = R) := Lib.hid (by rw [show k + 2 = k + 1 + 1 from rfl, HRR.out]; exact ha)
                    clear ha HA2 e1 e3 HP hp
                    rcases hs with rfl | rfl | rfl | rfl
                    · go_wp2_with (at_builtin; refine wpList_row rfl _ _ 30 rfl _ w.heap.size 5 i z 1 1 encB Try.underlying30 hi hz hsi hby hzs (by decide) encB_len encB_one _ acc 92 rfl (HI.out.row.alloc _) _ _ rfl (fun j u hu => cell_alloc1 _ _ _ j u (by simpa [encB] using hu)) (by unfold maxLen; omega) (by omega) (Nat.le_trans hwr (by simp)) ?_)
                      intro v' w5 hrow5 hg5
                      have HI5 := Lib.hid (HI.out.step (c := 92) (k' := k + 2) hrow5 hg5 (by omega) HA1.out)
                      clear hrow5 hg5
                      go_wp2_with fail
                      go_roundw
                      case rel => exact ⟨k + 2, _, by omega, by go_num, HI5.out⟩
                      case measure => simp [intOf]; omega
                    · go_wp2_with (at_builtin; refine wpList_row rfl _ _ 30 rfl _ w.heap.size 5 i z 1 1 encB Try.underlying30 hi hz hsi hby hzs (by decide) encB_len encB_one _ acc 39 rfl (HI.out.row.alloc _) _ _ rfl (fun j u hu => cell_alloc1 _ _ _ j u (by simpa [encB] using hu)) (by unfold maxLen; omega) (by omega) (Nat.le_trans hwr (by simp)) ?_)
                      intro v' w5 hrow5 hg5
                      have HI5 := Lib.hid (HI.out.step (c := 39) (k' := k + 2) hrow5 hg5 (by omega) HA1.out)
                      clear hrow5 hg5
                      go_wp2_with fail
                      go_roundw
                      case rel => exact ⟨k + 2, _, by omega, by go_num, HI5.out⟩
                      case measure => simp [intOf]; omega
                    · go_wp2_with (at_builtin; refine wpList_row rfl _ _ 30 rfl _ w.heap.size 5 i z 1 1 encB Try.underlying30 hi hz hsi hby hzs (by decide) encB_len encB_one _ acc 34 rfl (HI.out.row.alloc _) _ _ rfl (fun j u hu => cell_alloc1 _ _ _ j u (by simpa [encB] using hu)) (by unfold maxLen; omega) (by omega) (Nat.le_trans hwr (by simp)) ?_)
                      intro v' w5 hrow5 hg5
                      have HI5 := Lib.hid (HI.out.step (c := 34) (k' := k + 2) hrow5 hg5 (by omega) HA1.out)
                      clear hrow5 hg5
                      go_wp2_with fail
                      go_roundw
                      case rel => exact ⟨k + 2, _, by omega, by go_num, HI5.out⟩
                      case measure => simp [intOf]; omega
                    · go_wp2_with (at_builtin; refine wpList_row rfl _ _ 30 rfl _ w.heap.size 5 i z 1 1 encB Try.underlying30 hi hz hsi hby hzs (by decide) encB_len encB_one _ acc 96 rfl (HI.out.row.alloc _) _ _ rfl (fun j u hu => cell_alloc1 _ _ _ j u (by simpa [encB] using hu)) (by unfold maxLen; omega) (by omega) (Nat.le_trans hwr (by simp)) ?_)
                      intro v' w5 hrow5 hg5
                      have HI5 := Lib.hid (HI.out.step (c := 96) (k' := k + 2) hrow5 hg5 (by omega) HA1.out)
                      clear hrow5 hg5
                      go_wp2_with fail
                      go_roundw
                      case rel => exact ⟨k + 2, _, by omega, by go_num, HI5.out⟩
                      case measure => simp [intOf]; omega
                  · have q1 : ((d.toNat : Int) == 92) = false := byte_ne (fun e => hs (.inl e))
                    have q2 : ((d.toNat : Int) == 39) = false := byte_ne (fun e => hs (.inr (.inl e)))
                    have q3 : ((d.toNat : Int) == 34) = false := byte_ne (fun e => hs (.inr (.inr (.inl e))))
                    have q4 : ((d.toNat : Int) == 96) = false := byte_ne (fun e => hs (.inr (.inr (.inr e))))
                    by_cases e1 : d = 10
                    · have q5 : ((d.toNat : Int) == 10) = true := byte_eq e1
                      have ha := HA2.out
                      rw [if_pos (by rw [e1])] at ha
                      have HI5 : Hid (RGetInv w q l R (k + 2) _ acc wc) := ⟨HI.out.row, HI.out.below, by omega, by rw [show k + 2 = k + 1 + 1 from rfl, HRR.out]; exact ha⟩
                      clear ha HA2 e1 hs HP hp
                      go_wp2_with fail
                      go_roundw
                      case rel => exact ⟨k + 2, _, by omega, by go_num, HI5.out⟩
                      case measure => simp [intOf]; omega
                    · have q5 : ((d.toNat : Int) == 10) = false := byte_ne e1
                      have e3 := resc_none (d := d) (rr := rr) (by rw [HP.out]; exact hp') hs
                      have ha := HA2.out
                      rw [if_neg (by simpa using e1), e3] at ha
                      have HA3 := Lib.hid ha
                      clear ha HA2 e1 e3 hs HP hp
                      by_cases h120 : d = 120
                      · skip
                        have q6 : ((d.toNat : Int) == 120) = true := byte_eq h120
                        have ha := HA3.out
                        rw [if_pos h120] at ha
                        have hbd := coded_bd 16 rr 0 0 (by omega)
                        have hle := codedF_le 16 rr
                        have hrl : rr.length = l.length - (k + 2) := by rw [← HRR.out, List.length_drop]
                        have hsl : (⟨l.toArray⟩ : ByteArray).extract (k + 2) l.length = ⟨(l.drop (k + 2)).toArray⟩ := slice_end l (k + 2)
                        have HA4 := Lib.hid ha
                        clear ha HA3 h120
                        go_wp2_with fail
                        refine (rnum_any _ (l.drop (k + 2)) 16 (.inr rfl) (by rw [List.length_drop]; omega)).mono ?_
                        rintro e w' ⟨rfl, rfl⟩
                        rw [show l.drop (k + 2) = rr from HRR.out]
                        simp only [Int.reduceToNat]
                        unfold numN numS
                        generalize codedF 16 rr 0 0 = E at *
                        obtain ⟨n, t, o⟩ := E
                        simp only at HA4 hbd hle ⊢
                        clear hsl
                        cases o
                        · have ha := HA4.out
                          rw [if_neg (by simp)] at ha
                          have HA5 := Lib.hid ha
                          clear ha HA4
                          go_wp2_with fail
                          go_ret3
                          rw [← HA5.out]
                          exact ⟨rfl, HI.out.below⟩
                        · have ha := HA4.out
                          rw [if_pos rfl, List.drop_succ_cons, ← HRR.out, List.drop_drop, show k + 1 + 1 + t = k + 2 + t by omega, show k + 1 + (t + 1) = k + 2 + t by omega] at ha
                          have hn8 : (n : Int) ≤ 255 := by omega
                          have ht8 : (t : Int) ≤ 1000000 := by omega
                          have hnb : (n : Int) = ((UInt8.ofNat n).toNat : Int) := by rw [UInt8.toNat_ofNat']; omega
                          generalize UInt8.ofNat n = m at *
                          have HNB := Lib.hid hnb
                          have HA1 := Lib.hid ha
                          clear ha HA4 hnb
                          go_wp2_with (at_builtin; refine wpList_row rfl _ _ 30 rfl _ w.heap.size 5 i z 1 1 encB Try.underlying30 hi hz hsi hby hzs (by decide) encB_len encB_one _ acc m rfl (HI.out.row.alloc _) _ _ rfl (fun j u hu => cell_alloc1 _ _ _ j u (by rw [HNB.out]; simpa [encB] using hu)) (by unfold maxLen; omega) (by omega) (Nat.le_trans hwr (by simp)) ?_)
                          intro v' w5 hrow5 hg5
                          have HI5 := Lib.hid (HI.out.step (c := m) (k' := k + 2 + t) hrow5 hg5 (by omega) HA1.out)
                          clear hrow5 hg5
                          go_wp2_with fail
                          go_roundw
                          case rel => exact ⟨k + 2 + t, _, by omega, by go_num, HI5.out⟩
                          case measure => simp [intOf]; omega
                      · skip
                        have q6 : ((d.toNat : Int) == 120) = false := byte_ne h120
                        have ha := HA3.out
                        rw [if_neg h120] at ha
                        have HA4 := Lib.hid ha
                        clear ha HA3 h120
                        go_wp2_with fail
                        refine (rdig_any _ d 8 (.inl rfl)).mono ?_
                        rintro e w' ⟨rfl, rfl⟩
                        unfold digOf
                        simp only [Int.reduceToNat]
                        by_cases hv : hexVal d < 8
                        · have ha := HA4.out
                          rw [if_pos hv] at ha
                          rw [if_pos hv]
                          have t7 : decide (0 ≤ (hexVal d : Int)) = true := decide_eq_true (by omega)
                          have hbd := coded_bd 8 (d :: rr) 0 0 (by omega)
                          have hle := codedF_le 8 (d :: rr)
                          have hrl : (d :: rr).length = l.length - (k + 1) := by rw [← HDR.out, List.length_drop]
                          have hsl : (⟨l.toArray⟩ : ByteArray).extract (k + 1) l.length = ⟨(l.drop (k + 1)).toArray⟩ := slice_end l (k + 1)
                          have HA5 := Lib.hid ha
                          clear ha HA4 hv
                          go_wp2_with fail
                          refine (rnum_any _ (l.drop (k + 1)) 8 (.inl rfl) (by rw [List.length_drop]; omega)).mono ?_
                          rintro e w' ⟨rfl, rfl⟩
                          rw [HDR.out]
                          simp only [Int.reduceToNat]
                          unfold numN numS
                          generalize codedF 8 (d :: rr) 0 0 = E at *
                          obtain ⟨n, t, o⟩ := E
                          simp only at HA5 hbd hle ⊢
                          clear hsl
                          cases o
                          · have ha := HA5.out
                            rw [if_neg (by simp)] at ha
                            have HA6 := Lib.hid ha
                            clear ha HA5
                            go_wp2_with fail
                            go_ret3
                            rw [← HA6.out]
                            exact ⟨rfl, HI.out.below⟩
                          · have ha := HA5.out
                            rw [if_pos rfl, ← HDR.out, List.drop_drop] at ha
                            have hn8 : (n : Int) ≤ 255 := by omega
                            have ht8 : (t : Int) ≤ 1000000 := by omega
                            have hnb : (n : Int) = ((UInt8.ofNat n).toNat : Int) := by rw [UInt8.toNat_ofNat']; omega
                            generalize UInt8.ofNat n = m at *
                            have HNB := Lib.hid hnb
                            have HA1 := Lib.hid ha
                            clear ha HA5 hnb
                            go_wp2_with (at_builtin; refine wpList_row rfl _ _ 30 rfl _ w.heap.size 5 i z 1 1 encB Try.underlying30 hi hz hsi hby hzs (by decide) encB_len encB_one _ acc m rfl (HI.out.row.alloc _) _ _ rfl (fun j u hu => cell_alloc1 _ _ _ j u (by rw [HNB.out]; simpa [encB] using hu)) (by unfold maxLen; omega) (by omega) (Nat.le_trans hwr (by simp)) ?_)
                            intro v' w5 hrow5 hg5
                            have HI5 := Lib.hid (HI.out.step (c := m) (k' := k + 1 + t) hrow5 hg5 (by omega) HA1.out)
                            clear hrow5 hg5
                            go_wp2_with fail
                            go_roundw
                            case rel => exact ⟨k + 1 + t, _, by omega, by go_num, HI5.out⟩
                            case measure => simp [intOf]; omega
                        · have ha := HA4.out
                          rw [if_neg hv, if_neg (by simp)] at ha
                          rw [if_neg hv]
                          have HA5 := Lib.hid ha
                          clear ha HA4 hv
                          go_wp2_with fail
                          go_ret3
                          rw [← HA5.out]
                          exact ⟨rfl, HI.out.below⟩
        · have t92 : ((c.toNat : Int) == 92) = false := byte_ne h92
          have t92' : ((c.toNat : Int) != 92) = true := by rw [bne, t92]; rfl
          have ha := HA.out
          rw [getF_plain hf h1 h10 h92] at ha
          have HA1 := Lib.hid ha
          clear ha HA h1 h10 h92 HHD
          go_wp2_with (at_builtin; refine wpList_row rfl _ _ 30 rfl _ w.heap.size 5 i z 1 1 encB Try.underlying30 hi hz hsi hby hzs (by decide) encB_len encB_one _ acc c rfl (HI.out.row.alloc _) _ _ rfl (fun j u hu => cell_alloc1 _ _ _ j u (by simpa [encB] using hu)) (by unfold maxLen; omega) (by omega) (Nat.le_trans hwr (by simp)) ?_)
          intro v' w5 hrow5 hg5
          have HI5 := Lib.hid (HI.out.step (c := c) (k' := k + 1) hrow5 hg5 (by omega) HA1.out)
          clear hrow5 hg5
          go_wp2_with fail
          go_roundw
          case rel => exact ⟨k + 1, _, hlt, by go_num, HI5.out⟩
          case measure => simp [intOf]; omega
    · have hkn : k = l.length := by omega
      have ha := HI.out.ans
      rw [List.drop_eq_nil_of_le (by omega), getF_nil] at ha
      have HA := Lib.hid ha
      clear ha hkn
      go_wp2_with fail
      go_ret3
      rw [← HA.out]
      exact ⟨rfl, HI.out.below⟩
end Go.Proofs.Ytpiekfkkhgighaa
