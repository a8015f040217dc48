import Derived.Test.YtcallkljcjimiaaGreatDoorJW29
namespace Go.Proofs.YtcallkljcjimiaaGreatDoor
open Go.RowKit
set_option maxRecDepth 100000
set_option maxHeartbeats 2000000 in
theorem name_any (w : World) (xv : Value) (l : List UInt8) (c : UInt8) (r : List UInt8) (hlc : l = c :: r) (hl : (l.length : Int) ≤ 1000000) :
    Calls Tryz.prog 41 #[xv, .string ⟨l.toArray⟩] w fun e w' => e = .returned (tryV (if bsort c = 2 then some (some ⟨1, 0, l.take (spanN isWord l), spanN isWord l⟩) else if bsort c = 5 then some (some ⟨1, 0, l.take (spanN isSign l), spanN isSign l⟩) else if bsort c = 6 then some (some ⟨1, 0, [c], 1⟩) else none)) ∧ Below w.heap.size w w' := by
 have hlen : 0 < l.length := by rw [hlc]; simp
 have hx : (⟨l.toArray⟩ : ByteArray)[0]'(by show 0 < l.toArray.size; simpa using hlen) = c := by subst hlc; rfl
 by_cases h2 : bsort c = 2
 ·rw [if_pos h2]
  have hs : (⟨l.toArray⟩ : ByteArray).extract 0 (spanN isWord l) = ⟨(l.take (spanN isWord l)).toArray⟩ := by rw [slice_mid]; rfl
  have hsp := spanN_le isWord l
  have hsp' : (spanN isWord l : Int) ≤ (l.length : Int) := by omega
  generalize hn : spanN isWord l = n at *
  have HN := Lib.hid hn
  generalize l.take n = t at *
  clear hlc hn
  go_enter Tryz.func41, Tryz.ntmps41
  go_wp2_with fail
  refine (sort_byte _ c).mono ?_
  rintro e w' ⟨rfl, rfl⟩
  go_wp2_with fail
  refine (word_any _ l hl).mono ?_
  rintro e w' ⟨rfl, rfl⟩
  rw [HN.out]
  go_wp2_with fail
  refine bodyPost_ret (v := tryV (some (some ⟨1, 0, t, n⟩))) (by simp [results, Tryz.results41, go_sem, tryV, tokV]) rfl ⟨rfl, (Below.refl _ _).alloc (Nat.le_refl _) _⟩
 rw [if_neg h2]
 have t2 : (bsort c == 2) = false := beq_eq_false_iff_ne.2 h2
 by_cases h5 : bsort c = 5
 ·rw [if_pos h5]
  have t2' : ((5 : Int) == 2) = false := rfl
  clear t2 h2 hlc
  generalize hR : (some (some (⟨1, 0, l.take (spanN isSign l), spanN isSign l⟩ : TokIs))) = R
  have HR := Lib.hid hR
  clear hR
  go_enter Tryz.func41, Tryz.ntmps41
  go_wp2_with fail
  refine (sort_byte _ c).mono ?_
  rintro e w' ⟨rfl, rfl⟩
  go_wp2_with fail
  go_loop [7] (fun i => ∃ k : Nat, k ≤ l.length ∧ i = .int .i64 k ∧ k ≤ spanN isSign l) (fun i => l.length - (intOf i).toNat)
  case atStart => exact ⟨0, Nat.zero_le _, rfl, Nat.zero_le _⟩
  case round =>
   obtain ⟨k, hk, rfl, hks⟩ := hrel
   have hsp := spanN_le isSign l
   have hgo := spanN_go isSign l k hks
   have HGO := Lib.hid hgo
   clear hgo
   by_cases hlt : k < l.length
   ·obtain ⟨d, hd, hx1, hg⟩ := byte_at l k hlt
    have HG := Lib.hid hg
    have hlt' : (k : Int) < (l.length : Int) := by omega
    clear hd hg
    by_cases hw : bsort d = 5
    ·have hks' : k < spanN isSign l := HGO.out.2 ⟨d, HG.out, by simpa [isSign] using hw⟩
     go_wp2_with fail
     refine (sort_byte _ d).mono ?_
     rintro e w' ⟨rfl, rfl⟩
     go_wp2_with fail
     go_round
     case rel => exact ⟨k + 1, hlt, by go_num, hks'⟩
     case measure => simp [intOf]; omega
    ·have he : k = spanN isSign l := by
      rcases Nat.lt_or_ge k (spanN isSign l) with h | h
      ·obtain ⟨c', h3, h4⟩ := HGO.out.1 h
       rw [HG.out] at h3
       cases h3
       exact absurd (by simpa [isSign] using h4) hw
      ·omega
     have HE := Lib.hid he
     have t5 : (bsort d == 5) = false := beq_eq_false_iff_ne.2 hw
     have hs : (⟨l.toArray⟩ : ByteArray).extract 0 k = ⟨(l.take k).toArray⟩ := by rw [slice_mid]; rfl
     clear he hw
     go_wp2_with fail
     refine (sort_byte _ d).mono ?_
     rintro e w' ⟨rfl, rfl⟩
     go_wp2_with fail
     rw [← HR.out, ← HE.out]
     refine bodyPost_ret (v := tryV (some (some ⟨1, 0, l.take k, k⟩))) (by simp [results, Tryz.results41, go_sem, tryV, tokV]) rfl ⟨rfl, (Below.refl _ _).alloc (Nat.le_refl _) _⟩
   ·have he : k = spanN isSign l := by omega
    have HE := Lib.hid he
    have hs : (⟨l.toArray⟩ : ByteArray).extract 0 k = ⟨(l.take k).toArray⟩ := by rw [slice_mid]; rfl
    have hk1 : decide ((k : Int) < (l.length : Int)) = false := decide_eq_false (by omega)
    clear he
    go_wp2_with fail
    rw [← HR.out, ← HE.out]
    refine bodyPost_ret (v := tryV (some (some ⟨1, 0, l.take k, k⟩))) (by simp [results, Tryz.results41, go_sem, tryV, tokV]) rfl ⟨rfl, (Below.refl _ _).alloc (Nat.le_refl _) _⟩
 rw [if_neg h5]
 have t5 : (bsort c == 5) = false := beq_eq_false_iff_ne.2 h5
 by_cases h6 : bsort c = 6
 ·rw [if_pos h6]
  have hs : (⟨l.toArray⟩ : ByteArray).extract 0 1 = ⟨[c].toArray⟩ := by rw [slice_mid, hlc]; rfl
  have hl1 : (1 : Int) ≤ (l.length : Int) := by omega
  clear t2 t5 h2 h5 hlc
  go_enter Tryz.func41, Tryz.ntmps41
  go_wp2_with fail
  refine (sort_byte _ c).mono ?_
  rintro e w' ⟨rfl, rfl⟩
  go_wp2_with fail
  refine bodyPost_ret (v := tryV (some (some ⟨1, 0, [c], 1⟩))) (by simp [results, Tryz.results41, go_sem, tryV, tokV]) rfl ⟨rfl, (Below.refl _ _).alloc (Nat.le_refl _) _⟩
 rw [if_neg h6]
 have t6 : (bsort c == 6) = false := beq_eq_false_iff_ne.2 h6
 clear h2 h5 h6 hlc
 go_enter Tryz.func41, Tryz.ntmps41
 go_wp2_with fail
 refine (sort_byte _ c).mono ?_
 rintro e w' ⟨rfl, rfl⟩
 go_wp2_with fail
 refine bodyPost_ret (v := tryV none) (by simp [results, Tryz.results41, go_sem, tryV, tokV]) rfl ⟨rfl, (Below.refl _ _).alloc (Nat.le_refl _) _⟩
end Go.Proofs.YtcallkljcjimiaaGreatDoor
