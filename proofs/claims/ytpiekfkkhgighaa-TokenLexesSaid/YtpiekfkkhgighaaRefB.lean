/-
  What the document's own functions of the tokens answer: how many bytes of a sort stand at a place, a place's line. Condition: the place lies in the text.
-/
import Derived.Test.YtpiekfkkhgighaaRefA
import Derived.Test.YtpiekfkkhgighaaToks
namespace Go.Proofs.Ytpiekfkkhgighaa
open Go.RowKit
set_option maxRecDepth 100000

theorem span_stop {p : UInt8 → Bool} {l : List UInt8} {k : Nat} (h : k ≤ spanN p l) (hn : ¬ ∃ c, l[k]? = some c ∧ p c = true) : spanN p l = k := by
  have := spanN_go p l k h
  have h2 : ¬ k < spanN p l := fun hh => hn (this.1 hh)
  omega
theorem span_more {p : UInt8 → Bool} {l : List UInt8} {k : Nat} {c : UInt8} (h : k ≤ spanN p l) (hc : l[k]? = some c) (hp : p c = true) : k + 1 ≤ spanN p l := (spanN_go p l k h).2 ⟨c, hc, hp⟩

set_option maxHeartbeats 2000000 in
theorem rword_any (w : World) (l : List UInt8) (a : Nat) (ha : a ≤ l.length) (hl : (l.length : Int) ≤ 1000000) :
    Calls Try.prog 50 #[.string ⟨l.toArray⟩, .int .i64 (a : Int)] w fun e w' => e = .returned (.int .i64 (spanN isWord (l.drop a) : Int)) ∧ w = w' := by
  have hsp := spanN_le isWord (l.drop a)
  rw [List.length_drop] at hsp
  generalize hN : spanN isWord (l.drop a) = N
  have HN := Lib.hid hN
  rw [hN] at hsp
  clear hN
  go_enter Try.func50, Try.ntmps50
  go_wp2_with fail
  go_loop [5] (fun i => ∃ k : Nat, k ≤ N ∧ i = .int .i64 k) (fun i => l.length - (intOf i).toNat)
  case atStart => exact ⟨0, Nat.zero_le _, rfl⟩
  case round =>
    obtain ⟨k, hk, rfl⟩ := hrel
    by_cases hlt : a + k < l.length
    · obtain ⟨c, -, hx, hg⟩ := byte_at l (a + k) hlt
      have hgd : (l.drop a)[k]? = some c := by rw [List.getElem?_drop]; exact hg
      have hlt' : (a : Int) + (k : Int) < (l.length : Int) := by omega
      have HG := Lib.hid hgd
      clear hg hgd
      go_wp2_with fail
      refine (rsort_any w c).mono ?_
      rintro e w' ⟨rfl, rfl⟩
      by_cases hp : isWord c = true
      · have hm := span_more (p := isWord) (l := l.drop a) (k := k) (by rw [HN.out]; exact hk) HG.out hp
        rw [HN.out] at hm
        have hq : bsort c = 2 ∨ bsort c = 3 ∨ bsort c = 4 := by simpa [isWord] using hp
        clear hp
        rcases hq with hq | hq | hq
        all_goals
          rw [hq]
          go_wp2_with fail
          go_round
          case rel => exact ⟨k + 1, hm, by go_num⟩
          case measure => simp [intOf]; omega
      · have hs := span_stop (p := isWord) (l := l.drop a) (k := k) (by rw [HN.out]; exact hk) (fun ⟨d, hd, hpd⟩ => by rw [HG.out] at hd; cases hd; exact hp hpd)
        rw [HN.out] at hs
        subst hs
        have hq : ¬ (bsort c = 2 ∨ bsort c = 3 ∨ bsort c = 4) := by simpa [isWord] using hp
        clear hp
        generalize bsort c = q at hq
        simp only [not_or] at hq
        have q2 : (q != 2) = true := by simpa using hq.1
        have q3 : (q != 3) = true := by simpa using hq.2.1
        have q4 : (q != 4) = true := by simpa using hq.2.2
        go_wp2_with fail
        go_ret
        exact ⟨rfl, rfl⟩
    · have hs := span_stop (p := isWord) (l := l.drop a) (k := k) (by rw [HN.out]; exact hk) (fun ⟨d, hd, hpd⟩ => by
        have := (List.getElem?_eq_some_iff.1 hd).1
        rw [List.length_drop] at this
        omega)
      rw [HN.out] at hs
      subst hs
      have hge : (l.length : Int) ≤ (a : Int) + (N : Int) := by omega
      go_wp2_with fail
      go_ret
      exact ⟨rfl, rfl⟩

def ofSort (k : Int) (c : UInt8) : Bool := decide (bsort c = k)
set_option maxHeartbeats 2000000 in
theorem rrun_any (w : World) (l : List UInt8) (a : Nat) (q : Int) (ha : a ≤ l.length) (hl : (l.length : Int) ≤ 1000000) :
    Calls Try.prog 51 #[.string ⟨l.toArray⟩, .int .i64 (a : Int), .int .i64 q] w fun e w' => e = .returned (.int .i64 (spanN (ofSort q) (l.drop a) : Int)) ∧ w = w' := by
  have hsp := spanN_le (ofSort q) (l.drop a)
  rw [List.length_drop] at hsp
  generalize hN : spanN (ofSort q) (l.drop a) = N
  have HN := Lib.hid hN
  rw [hN] at hsp
  clear hN
  go_enter Try.func51, Try.ntmps51
  go_wp2_with fail
  go_loop [7] (fun i => ∃ k : Nat, k ≤ N ∧ i = .int .i64 k) (fun i => l.length - (intOf i).toNat)
  case atStart => exact ⟨0, Nat.zero_le _, rfl⟩
  case round =>
    obtain ⟨k, hk, rfl⟩ := hrel
    by_cases hlt : a + k < l.length
    · obtain ⟨c, -, hx, hg⟩ := byte_at l (a + k) hlt
      have hgd : (l.drop a)[k]? = some c := by rw [List.getElem?_drop]; exact hg
      have hlt' : (a : Int) + (k : Int) < (l.length : Int) := by omega
      have HG := Lib.hid hgd
      clear hg hgd
      go_wp2_with fail
      refine (rsort_any w c).mono ?_
      rintro e w' ⟨rfl, rfl⟩
      by_cases hp : bsort c = q
      · have hm := span_more (p := ofSort q) (l := l.drop a) (k := k) (by rw [HN.out]; exact hk) HG.out (decide_eq_true hp)
        rw [HN.out] at hm
        have hb : (bsort c == q) = true := by rw [beq_iff_eq]; exact hp
        clear hp
        go_wp2_with fail
        go_round
        case rel => exact ⟨k + 1, hm, by go_num⟩
        case measure => simp [intOf]; omega
      · have hs := span_stop (p := ofSort q) (l := l.drop a) (k := k) (by rw [HN.out]; exact hk) (fun ⟨d, hd, hpd⟩ => by rw [HG.out] at hd; cases hd; exact hp (of_decide_eq_true hpd))
        rw [HN.out] at hs
        subst hs
        have hb : (bsort c == q) = false := beq_eq_false_iff_ne.2 hp
        clear hp
        go_wp2_with fail
        go_ret
        exact ⟨rfl, rfl⟩
    · have hs := span_stop (p := ofSort q) (l := l.drop a) (k := k) (by rw [HN.out]; exact hk) (fun ⟨d, hd, hpd⟩ => by
        have := (List.getElem?_eq_some_iff.1 hd).1
        rw [List.length_drop] at this
        omega)
      rw [HN.out] at hs
      subst hs
      have hge : (l.length : Int) ≤ (a : Int) + (N : Int) := by omega
      have hd : decide ((a : Int) + (N : Int) < (l.length : Int)) = false := decide_eq_false (by omega)
      go_wp2_with fail
      go_ret
      exact ⟨rfl, rfl⟩

set_option maxHeartbeats 2000000 in
theorem rline_any (w : World) (l : List UInt8) (a : Nat) (ha : a ≤ l.length) (hl : (l.length : Int) ≤ 1000000) :
    Calls Try.prog 27 #[.string ⟨l.toArray⟩, .int .i64 (a : Int)] w fun e w' => e = .returned (.int .i64 ((1 + lines (l.take a) : Nat) : Int)) ∧ w = w' := by
  go_enter Try.func27, Try.ntmps27
  go_wp2_with fail
  go_loop [5, 6] (fun n i => ∃ k : Nat, k ≤ a ∧ i = .int .i64 k ∧ n = .int .i64 ((1 + lines (l.take k) : Nat) : Int)) (fun _ i => a - (intOf i).toNat)
  case atStart => exact ⟨0, Nat.zero_le _, rfl, rfl⟩
  case round =>
    obtain ⟨k, hk, rfl, rfl⟩ := hrel
    have hle : lines (l.take k) ≤ k := by
      have h : lines (l.take k) ≤ (l.take k).length := List.count_le_length ..
      rw [List.length_take] at h
      omega
    by_cases hlt : k < a
    · obtain ⟨c, -, hx, hg⟩ := byte_at l k (by omega)
      have hlt' : (k : Int) < (a : Int) := by omega
      have hk' : (k : Int) < (l.length : Int) := by omega
      have hst : lines (l.take (k + 1)) = lines (l.take k) + if c = 10 then 1 else 0 := by
        obtain ⟨h1, h2⟩ := List.getElem?_eq_some_iff.1 hg
        unfold lines
        rw [List.take_succ_eq_append_getElem h1, List.count_append, h2]
        simp [List.count_cons]
      generalize hm : lines (l.take k) = m at *
      clear hg
      by_cases h10 : c = 10
      · subst h10
        have hst' := Lib.hid hst
        clear hst hm
        go_wp2_with fail
        go_round
        case rel => exact ⟨k + 1, hlt, by go_num, by rw [hst'.out]; simp; omega⟩
        case measure => simp [intOf]; omega
      · have t : ((c.toNat : Int) == 10) = false := byte_ne h10
        have hst' := Lib.hid hst
        have H10 := Lib.hid h10
        clear hst hm h10
        go_wp2_with fail
        go_round
        case rel => exact ⟨k + 1, hlt, by go_num, by rw [hst'.out, if_neg H10.out]; rfl⟩
        case measure => simp [intOf]; omega
    · have hkn : k = a := by omega
      subst hkn
      go_wp2_with fail
      go_ret
      exact ⟨rfl, rfl⟩
end Go.Proofs.Ytpiekfkkhgighaa
