/-
  Where the next token begins, as the document's own function answers. Condition: the place lies in the text.
-/
import Derived.Test.YtpiekfkkhgighaaRefB
import Derived.Test.YtpiekfkkhgighaaLexApp
namespace Go.Proofs.Ytpiekfkkhgighaa
open Go.RowKit
set_option maxRecDepth 100000

theorem skipB_blank {c : UInt8} (hc : bsort c = 1) (T : List UInt8) : skipB (c :: T) = skipB T := by
  unfold skipB
  rw [List.length_cons, skipF_cons, if_pos hc]
theorem skipB_note (T : List UInt8) : skipB (37 :: T) = skipB (T.drop (spanN (fun c => decide (c ≠ 10)) T)) := by
  unfold skipB
  rw [List.length_cons, skipF_cons, if_neg (by decide), if_pos rfl]
  exact skipF_fuel _ _ _ (by rw [List.length_drop]; omega) (Nat.le_refl _)
theorem skipB_open (T : List UInt8) : skipB (47 :: 42 :: T) = match endOf T with
    | none => (47 :: 42 :: T, false)
    | some n => skipB (T.drop (n + 2)) := by
  unfold skipB
  rw [List.length_cons, skipF_cons, if_neg (by decide), if_neg (by decide), if_pos (by simp)]
  simp only [List.tail_cons]
  cases endOf T with
  | none => rfl
  | some n => exact skipF_fuel _ _ _ (by rw [List.length_drop, List.length_cons]; omega) (Nat.le_refl _)
theorem skipB_here {c : UInt8} {r : List UInt8} (h1 : bsort c ≠ 1) (h2 : c ≠ 37) (h3 : ¬ (c = 47 ∧ r.head? = some 42)) : skipB (c :: r) = (c :: r, true) := by
  unfold skipB
  rw [List.length_cons, skipF_cons, if_neg h1, if_neg h2, if_neg h3]

theorem endOf_step (d : UInt8) (r : List UInt8) (h : ¬ (d = 42 ∧ r.head? = some 47)) : endOf (d :: r) = (endOf r).map (· + 1) := by
  rw [endOf, if_neg h]
theorem endOf_adv {T l : List UInt8} {e m : Nat} {d : UInt8} (hd : l.drop e = d :: l.drop (e + 1)) (hm : m ≤ e) (h : ¬ (d = 42 ∧ (l.drop (e + 1)).head? = some 47)) (hj : endOf T = (endOf (l.drop e)).map (· + (e - m))) :
    endOf T = (endOf (l.drop (e + 1))).map (· + (e + 1 - m)) := by
  rw [hj, hd, endOf_step d _ h, Option.map_map]
  congr 1
  funext x
  simp only [Function.comp]
  omega
def not10 (c : UInt8) : Bool := decide (c ≠ 10)
set_option maxHeartbeats 4000000 in
theorem rskip_any (w : World) (l : List UInt8) (a : Nat) (ha : a ≤ l.length) (hl : (l.length : Int) ≤ 1000000) :
    Calls Try.prog 26 #[.string ⟨l.toArray⟩, .int .i64 (a : Int)] w fun e w' => e = .returned (.tuple #[.int .i64 ((l.length - (skipB (l.drop a)).1.length : Nat) : Int), .bool (skipB (l.drop a)).2]) ∧ w = w' := by
  generalize hR : skipB (l.drop a) = R
  have HR := Lib.hid hR
  clear hR
  go_enter Try.func26, Try.ntmps26
  go_wp2_with fail
  go_loop [1] (fun i => ∃ k : Nat, k ≤ l.length ∧ i = .int .i64 k ∧ Hid (skipB (l.drop k) = R)) (fun i => l.length - (intOf i).toNat)
  case atStart => exact ⟨a, ha, rfl, HR⟩
  case round =>
    clear HR
    obtain ⟨k, hk, rfl, HS⟩ := hrel
    by_cases hlt : k < l.length
    · obtain ⟨c, hd, hx, hg⟩ := byte_at l k hlt
      have hlt' : (k : Int) < (l.length : Int) := by omega
      have hS := HS.out
      rw [hd] at hS
      have HD := Lib.hid hS
      have HDr := Lib.hid hd
      have HL := Lib.hid hlt
      clear hS hd hg HS
      go_wp2_with fail
      refine (rsort_any w c).mono ?_
      rintro e w' ⟨rfl, rfl⟩
      by_cases h1 : bsort c = 1
      · have hS := HD.out
        rw [skipB_blank h1] at hS
        have HS2 := Lib.hid hS
        rw [h1]
        clear hS HD h1
        go_wp2_with fail
        go_round
        case rel => exact ⟨k + 1, HL.out, by go_num, HS2⟩
        case measure => simp [intOf]; omega
      have b1 : (bsort c == 1) = false := beq_eq_false_iff_ne.2 h1
      have H1 := Lib.hid h1
      clear h1
      by_cases h37 : c = 37
      · subst h37
        have hS := HD.out
        rw [skipB_note] at hS
        obtain ⟨N, hN⟩ : ∃ N, spanN not10 (l.drop k) = N := ⟨_, rfl⟩
        have hN1 : N = spanN not10 (l.drop (k + 1)) + 1 := by rw [← hN, HDr.out, spanN_cons, if_pos (by decide)]
        have hNl : k + N ≤ l.length := by
          have := spanN_le not10 (l.drop k)
          rw [hN, List.length_drop] at this
          omega
        have hSN : skipB (l.drop (k + N)) = R := by
          rw [show k + N = k + 1 + spanN not10 (l.drop (k + 1)) by omega, ← List.drop_drop]
          exact hS
        have HS2 := Lib.hid hSN
        have HN := Lib.hid hN
        have HN1 : Hid (k < k + N) := Lib.hid (by omega)
        clear hS HD hSN hN hN1
        go_wp2_with fail
        go_loop [1] (fun i => ∃ j : Nat, j ≤ N ∧ i = .int .i64 ((k : Int) + (j : Int))) (fun i => l.length - (intOf i).toNat)
        case atStart => exact ⟨0, Nat.zero_le _, by simp⟩
        case round =>
          obtain ⟨j, hj, rfl⟩ := hrel
          by_cases hlj : k + j < l.length
          · obtain ⟨d, -, hxd, hgd⟩ := byte_at l (k + j) hlj
            have hgk : (l.drop k)[j]? = some d := by rw [List.getElem?_drop]; exact hgd
            have hlj' : (k : Int) + (j : Int) < (l.length : Int) := by omega
            by_cases h10 : d = 10
            · subst h10
              have hs := span_stop (p := not10) (l := l.drop k) (k := j) (by rw [HN.out]; exact hj) (fun ⟨x, hx', hpx⟩ => by rw [hgk] at hx'; cases hx'; revert hpx; decide)
              rw [HN.out] at hs
              subst hs
              clear hgd hgk
              go_wp2_with fail
              go_round
              case rel => exact ⟨k + N, hNl, by go_num, HS2⟩
              case measure => have := HN1.out; simp [intOf]; omega
            · have hm := span_more (p := not10) (l := l.drop k) (k := j) (by rw [HN.out]; exact hj) hgk (decide_eq_true h10)
              rw [HN.out] at hm
              have t : ((d.toNat : Int) == 10) = false := byte_ne h10
              have t2 : ((d.toNat : Int) != 10) = true := by simp only [bne, t]; rfl
              clear hgd hgk h10
              go_wp2_with fail
              go_round
              case rel => exact ⟨j + 1, hm, by go_num⟩
              case measure => simp [intOf]; omega
          · have hs := span_stop (p := not10) (l := l.drop k) (k := j) (by rw [HN.out]; exact hj) (fun ⟨x, hx', hpx⟩ => by
              have := (List.getElem?_eq_some_iff.1 hx').1
              rw [List.length_drop] at this
              omega)
            rw [HN.out] at hs
            subst hs
            have hge : (l.length : Int) ≤ (k : Int) + (N : Int) := by omega
            have hge2 : decide ((k : Int) + (N : Int) < (l.length : Int)) = false := decide_eq_false (by omega)
            go_wp2_with fail
            go_round
            case rel => exact ⟨k + N, hNl, by go_num, HS2⟩
            case measure => have := HN1.out; simp [intOf]; omega
      by_cases h47 : c = 47
      · subst h47
        by_cases hk1 : k + 1 < l.length
        · obtain ⟨d, hd1, hx1, hg1⟩ := byte_at l (k + 1) hk1
          have hk1' : (k : Int) + 1 < (l.length : Int) := by omega
          have hk1'' : decide ((l.length : Int) ≤ (k : Int) + 1) = false := decide_eq_false (by omega)
          by_cases h42 : d = 42
          · subst h42
            have hS := HD.out
            rw [hd1, skipB_open] at hS
            have HS2 := Lib.hid hS
            have HK1 := Lib.hid hk1
            have HT1 := Lib.hid hd1
            clear hS HD hg1 hd1
            have hbd : (k : Int) ≤ 1000000 := by omega
            go_wp2_with fail
            clear hx hx1 h37 b1 hk1''
            go_loop [6] (fun i => ∃ e : Nat, k + 2 ≤ e ∧ e ≤ l.length ∧ i = .int .i64 e ∧ Hid (endOf (l.drop (k + 1 + 1)) = (endOf (l.drop e)).map (· + (e - (k + 2))))) (fun i => l.length - (intOf i).toNat)
            case atStart => exact ⟨k + 2, Nat.le_refl _, by have := HK1.out; omega, by simp, Lib.hid (by rw [show k + 1 + 1 = k + 2 by omega]; simp)⟩
            case round =>
              obtain ⟨e, he1, he2, rfl, HE⟩ := hrel
              by_cases hle : e < l.length
              · obtain ⟨d, hd, hxd, -⟩ := byte_at l e hle
                have hle' : (e : Int) < (l.length : Int) := by omega
                have HDE := Lib.hid hd
                have HLE := Lib.hid hle
                clear hd
                by_cases h42 : d = 42
                · subst h42
                  by_cases hle1 : e + 1 < l.length
                  · obtain ⟨d2, hd2, hxd2, -⟩ := byte_at l (e + 1) hle1
                    have hle1' : (e : Int) + 1 < (l.length : Int) := by omega
                    have HD2 := Lib.hid hd2
                    clear hd2
                    by_cases h47' : d2 = 47
                    · subst h47'
                      have hT := HE.out
                      rw [HDE.out, HD2.out, endOf, if_pos (by simp)] at hT
                      have hS := HS2.out
                      rw [hT] at hS
                      simp only [Option.map_some] at hS
                      rw [List.drop_drop, show k + 1 + 1 + (0 + (e - (k + 2)) + 2) = e + 2 by omega] at hS
                      have HS3 := Lib.hid hS
                      clear hS hT HS2 HE
                      go_wp2_with fail
                      go_round
                      case rel => exact ⟨e + 2, by omega, by go_num, HS3⟩
                      case measure => simp [intOf]; omega
                    · have t : ((d2.toNat : Int) == 47) = false := byte_ne h47'
                      have HE2 := Lib.hid (endOf_adv HDE.out he1 (by rintro ⟨-, h⟩; rw [HD2.out] at h; simp at h; exact h47' h) HE.out)
                      clear HE h47'
                      go_wp2_with fail
                      go_round
                      case rel => exact ⟨e + 1, by omega, HLE.out, by go_num, HE2⟩
                      case measure => simp [intOf]; omega
                  · have HE2 := Lib.hid (endOf_adv HDE.out he1 (by rintro ⟨-, h⟩; rw [List.head?_drop, List.getElem?_eq_none (by omega)] at h; cases h) HE.out)
                    have hge : decide ((e : Int) + 1 < (l.length : Int)) = false := decide_eq_false (by omega)
                    clear HE
                    go_wp2_with fail
                    go_round
                    case rel => exact ⟨e + 1, by omega, HLE.out, by go_num, HE2⟩
                    case measure => simp [intOf]; omega
                · have t : ((d.toNat : Int) == 42) = false := byte_ne h42
                  have HE2 := Lib.hid (endOf_adv HDE.out he1 (by rintro ⟨h, -⟩; exact h42 h) HE.out)
                  clear HE h42
                  go_wp2_with fail
                  go_round
                  case rel => exact ⟨e + 1, by omega, HLE.out, by go_num, HE2⟩
                  case measure => simp [intOf]; omega
              · have hel : e = l.length := by omega
                subst hel
                have hT := HE.out
                rw [List.drop_length] at hT
                have hT2 : endOf (l.drop (k + 1 + 1)) = none := hT
                have hS := HS2.out
                rw [hT2] at hS
                simp only at hS
                rw [← HT1.out, ← HDr.out] at hS
                have HS3 := Lib.hid hS
                clear hS hT hT2 HS2 HE
                go_wp2_with fail
                go_ret2
                rw [← HS3.out]
                have := HL.out
                exact ⟨by simp; omega, rfl⟩
          · have t2 : ((d.toNat : Int) != 42) = true := by
              have t : ((d.toNat : Int) == 42) = false := byte_ne h42
              simp only [bne, t]; rfl
            have hS := HD.out
            rw [skipB_here H1.out h37 (by rintro ⟨-, h⟩; rw [hd1] at h; simp at h; exact h42 h), ← HDr.out] at hS
            have HS2 := Lib.hid hS
            clear hS HD hg1 hd1 h42 h37
            go_wp2_with fail
            go_ret2
            rw [← HS2.out]
            have := HL.out
            exact ⟨by simp; omega, rfl⟩
        · have hS := HD.out
          rw [skipB_here H1.out h37 (by rintro ⟨-, h⟩; rw [List.head?_drop, List.getElem?_eq_none (by omega)] at h; cases h), ← HDr.out] at hS
          have HS2 := Lib.hid hS
          have hge : (l.length : Int) ≤ (k : Int) + 1 := by omega
          clear hS HD h37
          go_wp2_with fail
          go_ret2
          rw [← HS2.out]
          have := HL.out
          exact ⟨by simp; omega, rfl⟩
      · have t2 : ((c.toNat : Int) != 47) = true := by
          have t : ((c.toNat : Int) == 47) = false := byte_ne h47
          simp only [bne, t]; rfl
        have t3 : ((c.toNat : Int) == 37) = false := byte_ne h37
        have hS := HD.out
        rw [skipB_here H1.out h37 (by rintro ⟨h, -⟩; exact h47 h), ← HDr.out] at hS
        have HS2 := Lib.hid hS
        clear hS HD h47 h37
        go_wp2_with fail
        go_ret2
        rw [← HS2.out]
        have := HL.out
        exact ⟨by simp; omega, rfl⟩
    · have hkn : k = l.length := by omega
      subst hkn
      have hS := HS.out
      rw [List.drop_length] at hS
      have HS2 : Hid (R = ([], true)) := Lib.hid (by rw [← hS]; rfl)
      clear hS HS
      go_wp2_with fail
      go_ret2
      rw [HS2.out]
      exact ⟨by simp, rfl⟩
end Go.Proofs.Ytpiekfkkhgighaa
