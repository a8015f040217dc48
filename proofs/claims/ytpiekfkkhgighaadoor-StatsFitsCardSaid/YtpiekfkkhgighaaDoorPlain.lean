/-
  What name.Plain answers: whether an atom may be written as it is. No condition but the sizes that are named.
-/
import Derived.Test.YtpiekfkkhgighaaDoorSortW
import Derived.Test.YtpiekfkkhgighaaDoorNameA
import Derived.Test.YtpiekfkkhgighaaDoorShelfH
import Derived.LoopTactic
import Derived.LoopN
import Derived.Deep.QuietTactic
import Derived.BigQuiet
namespace Go.Proofs.YtpiekfkkhgighaaDoor
open Go.RowKit
set_option maxRecDepth 100000

theorem or_a : bits BinOp.or .u64 0 4 = 4 := by decide +kernel
theorem or_b : bits BinOp.or .u64 4 8 = 12 := by decide +kernel
theorem or_c : bits BinOp.or .u64 12 16 = 28 := by decide +kernel
theorem or_d : bits BinOp.or .u64 0 32 = 32 := by decide +kernel
set_option maxHeartbeats 1000000 in
theorem of_one (w : World) (g : Nat) (n set : Int) (hn : (n = 2 ∧ set = 4) ∨ (n = 5 ∧ set = 32)) (h0 : w.cell? ⟨g, 0, none⟩ = some (.int .i64 n)) :
    Calls Tryd.prog 69 #[.slice (some ⟨g, 0, none⟩) 1 1] w fun e w' => e = .returned (.agg #[.int .u64 set]) ∧ Below w.heap.size w w' := by
  have hg : g < w.heap.size := World.block_lt_of_cell? w _ h0
  have ha := or_a
  have hd := or_d
  rcases hn with ⟨rfl, rfl⟩ | ⟨rfl, rfl⟩
  all_goals
    go_enter Tryd.func69, Tryd.ntmps69
    go_wp2_with fail
    refine wp_loop_rounds 2 ?_
    rw [rounds_succ]
    go_wp2
    rw [rounds_succ]
    go_wp2
    refine bodyPost_ret (v := .agg #[.int .u64 _]) (by simp [results, Tryd.results69, go_sem]) rfl ⟨rfl, ?_⟩
    exact ((Below.refl _ _).alloc (Nat.le_refl _) _).alloc (by simp) _
set_option maxHeartbeats 1000000 in
theorem of_three (w : World) (g : Nat) (h0 : w.cell? ⟨g, 0, none⟩ = some (.int .i64 2)) (h1 : w.cell? ⟨g, 1, none⟩ = some (.int .i64 3)) (h2 : w.cell? ⟨g, 2, none⟩ = some (.int .i64 4)) :
    Calls Tryd.prog 69 #[.slice (some ⟨g, 0, none⟩) 3 3] w fun e w' => e = .returned (.agg #[.int .u64 28]) ∧ Below w.heap.size w w' := by
  have hg : g < w.heap.size := World.block_lt_of_cell? w _ h0
  have ha := or_a
  have hb := or_b
  have hc := or_c
  go_enter Tryd.func69, Tryd.ntmps69
  go_wp2_with fail
  refine wp_loop_rounds 4 ?_
  rw [rounds_succ]
  go_wp2
  rw [rounds_succ]
  go_wp2
  rw [rounds_succ]
  go_wp2
  rw [rounds_succ]
  go_wp2
  refine bodyPost_ret (v := .agg #[.int .u64 28]) (by simp [results, Tryd.results69, go_sem]) rfl ⟨rfl, ?_⟩
  exact ((Below.refl _ _).alloc (Nat.le_refl _) _).alloc (by simp) _

def hasB (set : Int) (c : UInt8) : Bool := if set = 4 then decide (bsort c = 2) else if set = 28 then isWord c else isSign c
theorem sort_at (w : World) (c : UInt8) (k : Int) (hk : bsort c = k) : Calls Tryd.prog 90 #[.int .u8 (c.toNat : Int)] w fun e w' => e = .returned (.int .i64 k) ∧ w' = w :=
  (sort_byte w c).mono fun e w' h => ⟨by rw [← hk]; exact h.1, h.2.symm⟩

set_option maxHeartbeats 4000000 in
theorem has_any (w : World) (set : Int) (c : UInt8) (hset : set = 4 ∨ set = 28 ∨ set = 32) :
    Calls Tryd.prog 70 #[.agg #[.int .u64 set], .int .u8 (c.toNat : Int)] w fun e w' => e = .returned (.bool (hasB set c)) ∧ Below w.heap.size w w' := by
  have hand : ∀ E : Int, 0 ≤ E → E ≤ 18446744073709551615 → bits BinOp.and .u64 E 1 = E % 2 := and_one_u64
  have hbd := bsort_bd c
  obtain ⟨k, hk⟩ : ∃ k, bsort c = k := ⟨_, rfl⟩
  have hR : hasB set c = if set = 4 then decide (k = 2) else if set = 28 then decide (k = 2 ∨ k = 3 ∨ k = 4) else decide (k = 5) := by
    unfold hasB isWord isSign
    rw [hk]
  rw [hR]
  rw [hk] at hbd
  have HK := Lib.hid hk
  clear hR hk
  rcases (show k = 0 ∨ k = 1 ∨ k = 2 ∨ k = 3 ∨ k = 4 ∨ k = 5 ∨ k = 6 ∨ k = 7 ∨ k = 8 by omega) with rfl | rfl | rfl | rfl | rfl | rfl | rfl | rfl | rfl
  all_goals
    rcases hset with rfl | rfl | rfl
    all_goals
      clear hbd
      go_enter Tryd.func70, Tryd.ntmps70
      go_wp2_with fail
      go_quiet ((go_at_call 90; exact Calls.quiet_of_same (sort_at _ c _ HK.out)))
      go_wp2
      go_ret
      exact ⟨rfl, below_drewN ((Below.refl _ _).alloc (Nat.le_refl _) _) _⟩

/-- What the loop over a text's bytes answers, of a test that is a method's value. -/
theorem all_go (p : UInt8 → Bool) : ∀ (l : List UInt8) (k : Nat), (l.take k).all p = true → ∀ c, l[k]? = some c → (p c = false → l.all p = false) ∧ (p c = true → (l.take (k + 1)).all p = true) := by
  intro l k h c hc
  refine ⟨fun h2 => ?_, fun h2 => ?_⟩
  · rw [List.all_eq_false]
    exact ⟨c, List.mem_of_getElem? hc, by simp [h2]⟩
  · obtain ⟨hk, rfl⟩ := List.getElem?_eq_some_iff.1 hc
    rw [List.take_succ_eq_append_getElem hk, List.all_append, h]
    simp [h2]
set_option maxHeartbeats 1000000 in
theorem all_any (w : World) (set : Int) (l : List UInt8) (hset : set = 4 ∨ set = 28 ∨ set = 32) (hl : (l.length : Int) ≤ 9223372036854775000) :
    Calls Tryd.prog 71 #[.string ⟨l.toArray⟩, .func (Fn.func 70) #[.agg #[.int .u64 set]] #[]] w fun e w' => e = .returned (.bool (l.all (hasB set))) ∧ Below w.heap.size w w' := by
  have HS := Lib.hid hset
  clear hset
  go_enter Tryd.func71, Tryd.ntmps71
  go_wp2_with fail
  go_loopw [5] (fun i wr => ∃ k : Nat, k ≤ l.length ∧ i = .int .i64 k ∧ Hid ((l.take k).all (hasB set) = true) ∧ Hid (Below w.heap.size w wr)) (fun i _ => l.length - (intOf i).toNat)
  case atStart => exact ⟨0, Nat.zero_le _, rfl, Lib.hid (by simp), Lib.hid (Below.refl _ _)⟩
  case round =>
    obtain ⟨k, hk, rfl, HA, HB⟩ := hrel
    by_cases hlt : k < l.length
    · obtain ⟨c, hd, hx, hg⟩ := byte_at l k hlt
      have HG := Lib.hid (all_go (hasB set) l k HA.out c hg)
      have hlt' : (k : Int) < (l.length : Int) := by omega
      clear hd hg HA
      go_wp2_with fail
      refine (has_any wr set c HS.out).mono ?_
      rintro e w' ⟨rfl, hb⟩
      have HB2 := Lib.hid (HB.out.trans (hb.mono HB.out.size))
      clear hb HB
      obtain ⟨b, hb⟩ : ∃ b, hasB set c = b := ⟨_, rfl⟩
      rw [hb]
      have HG2 := HG.out
      rw [hb] at HG2
      cases b
      · have HF := Lib.hid (HG2.1 rfl)
        clear HG2 HG hb
        go_wp2_with fail
        go_ret
        exact ⟨by rw [HF.out]; rfl, HB2.out⟩
      · have HF := Lib.hid (HG2.2 rfl)
        clear HG2 HG hb
        go_wp2_with fail
        go_roundw
        case rel => exact ⟨k + 1, hlt, by go_num, HF, HB2⟩
        case measure => simp [intOf]; omega
    · have hkn : k = l.length := by omega
      subst hkn
      have hA := HA.out
      rw [List.take_length] at hA
      have HA2 := Lib.hid hA
      clear hA HA
      go_wp2_with fail
      go_ret
      exact ⟨by rw [HA2.out]; rfl, HB.out⟩

theorem text_ne {l m : List UInt8} (h : l ≠ m) : (l == m) = false := beq_eq_false_iff_ne.2 h
theorem prefix_two (l : List UInt8) : Lib.hasPrefix l [47, 42] = (l.take 2 == [47, 42]) := by
  have e : ∀ x y : UInt8, (x == y) = (y == x) := fun x y => by rw [Bool.eq_iff_iff, beq_iff_eq, beq_iff_eq]; exact eq_comm
  unfold Lib.hasPrefix
  cases l with
  | nil => rfl
  | cons a r =>
    cases r with
    | nil => simp [List.isPrefixOf]
    | cons b r =>
      simp only [List.isPrefixOf, List.take_succ_cons, List.take_zero]
      rw [e 47 a, e 42 b]
      simp
set_option maxHeartbeats 4000000 in
theorem plain_any (w : World) (l : List UInt8) (hl : (l.length : Int) ≤ 1000000) :
    Calls Tryd.prog 57 #[.string ⟨l.toArray⟩] w fun e w' => e = .returned (.bool (plainB l)) ∧ Below w.heap.size w w' := by
  by_cases e1 : l = []
  · subst e1
    go_enter Tryd.func57, Tryd.ntmps57
    go_wp2_with fail
    go_ret
    exact ⟨rfl, Below.refl _ _⟩
  by_cases e2 : l = [46]
  · subst e2
    go_enter Tryd.func57, Tryd.ntmps57
    go_wp2_with fail
    go_ret
    exact ⟨rfl, Below.refl _ _⟩
  by_cases e3 : l = [91, 93]
  · subst e3
    go_enter Tryd.func57, Tryd.ntmps57
    go_wp2_with fail
    go_ret
    exact ⟨rfl, Below.refl _ _⟩
  by_cases e4 : l = [33]
  · subst e4
    go_enter Tryd.func57, Tryd.ntmps57
    go_wp2_with fail
    go_ret
    exact ⟨rfl, Below.refl _ _⟩
  by_cases e5 : l = [59]
  · subst e5
    go_enter Tryd.func57, Tryd.ntmps57
    go_wp2_with fail
    go_ret
    exact ⟨rfl, Below.refl _ _⟩
  by_cases e6 : l = [123, 125]
  · subst e6
    go_enter Tryd.func57, Tryd.ntmps57
    go_wp2_with fail
    go_ret
    exact ⟨rfl, Below.refl _ _⟩
  have t1 : l.isEmpty = false := by simpa using e1
  have t2 := text_ne e2
  have t3 := text_ne e3
  have t4 := text_ne e4
  have t5 := text_ne e5
  have t6 := text_ne e6
  have hmf : ∀ (fn : Fn) (first cap : Array Value) (w : World), (Instr.makeFunc fn first cap).run Tryd.prog w = .ok (.func fn first cap) w := fun _ _ _ _ => rfl
  have h0 : 0 < l.length := List.length_pos_iff.2 e1
  obtain ⟨c, hd, hx, hg⟩ := byte_at l 0 h0
  have hP : plainB l = if bsort c = 2 then l.all isWord else !(l.take 2 == [47, 42]) && l.all isSign := by
    have hc : l.headD 0 = c := by rw [List.drop_zero] at hd; rw [hd]; rfl
    unfold plainB
    rw [if_neg (by simp [e1, e2]), if_neg (by simp [e3, e4, e5, e6]), hc]
  have HP := Lib.hid hP
  have HE := Lib.hid (And.intro e1 e2)
  have h0' : (0 : Int) < (l.length : Int) := by omega
  clear hP e1 e2 e3 e4 e5 e6 hd hg
  go_enter Tryd.func57, Tryd.ntmps57
  go_wp2_with fail
  obtain ⟨W1, hW1⟩ : ∃ W1, w.alloc (.cells #[.int .i64 2] 3) = W1 := ⟨_, rfl⟩
  have hb1 : Below w.heap.size w W1 := by rw [← hW1]; exact (Below.refl _ _).alloc (Nat.le_refl _) _
  have hc1 : W1.cell? ⟨w.heap.size, 0, none⟩ = some (.int .i64 2) := by rw [← hW1]; simp
  rw [hW1]
  refine (of_one W1 w.heap.size 2 4 (.inl ⟨rfl, rfl⟩) hc1).mono ?_
  rintro e w2 ⟨rfl, hb2⟩
  have HB2 := Lib.hid (hb1.trans (hb2.mono hb1.size))
  clear hW1 hb1 hc1 hb2
  go_wp2_with fail
  refine (has_any w2 4 c (.inl rfl)).mono ?_
  rintro e w3 ⟨rfl, hb3⟩
  have HB3 := Lib.hid (HB2.out.trans (hb3.mono HB2.out.size))
  clear hb3 HB2
  by_cases h2 : bsort c = 2
  · rw [show hasB 4 c = true by simp [hasB, h2]]
    have HP2 := HP.out
    rw [if_pos h2] at HP2
    have HQ := Lib.hid HP2
    clear HP2 HP h2
    go_wp2_with fail
    obtain ⟨W4, hW4⟩ : ∃ W4, w3.alloc (.cells #[.int .i64 2, .int .i64 3, .int .i64 4] 3) = W4 := ⟨_, rfl⟩
    have hb4 : Below w.heap.size w W4 := by rw [← hW4]; exact HB3.out.trans (((Below.refl _ _).alloc (Nat.le_refl _) _).mono HB3.out.size)
    have k0 : W4.cell? ⟨w3.heap.size, 0, none⟩ = some (.int .i64 2) := by rw [← hW4]; simp
    have k1 : W4.cell? ⟨w3.heap.size, 1, none⟩ = some (.int .i64 3) := by rw [← hW4]; simp
    have k2 : W4.cell? ⟨w3.heap.size, 2, none⟩ = some (.int .i64 4) := by rw [← hW4]; simp
    rw [hW4]
    refine (of_three W4 w3.heap.size k0 k1 k2).mono ?_
    rintro e w5 ⟨rfl, hb5⟩
    have HB5 := Lib.hid (hb4.trans (hb5.mono hb4.size))
    clear hW4 hb4 k0 k1 k2 hb5 HB3
    go_wp2_with fail
    refine (all_any w5 28 l (.inr (.inl rfl)) (by omega)).mono ?_
    rintro e w6 ⟨rfl, hb6⟩
    have HB6 := Lib.hid (HB5.out.trans (hb6.mono HB5.out.size))
    clear hb6 HB5
    go_wp2_with fail
    go_ret
    exact ⟨by rw [HQ.out]; rfl, HB6.out⟩
  · rw [show hasB 4 c = false by simp [hasB, h2]]
    have HP2 := HP.out
    rw [if_neg h2] at HP2
    have HQ := Lib.hid HP2
    clear HP2 HP h2
    have hpre : Calls Tryd.prog 60 #[.string ⟨l.toArray⟩, .string ⟨#[47, 42]⟩] w3 fun e w' => e = .returned (.bool (l.take 2 == [47, 42])) ∧ w' = w3 := by
      have := Tryd.strings_HasPrefix ⟨l.toArray⟩ ⟨#[47, 42]⟩ w3
      rw [← prefix_two]
      simpa using this
    have HPRE := Lib.hid hpre
    clear hpre
    go_wp2_with fail
    refine HPRE.out.mono ?_
    rintro e w' ⟨rfl, rfl⟩
    clear HPRE
    obtain ⟨b, hb⟩ : ∃ b, (l.take 2 == [47, 42]) = b := ⟨_, rfl⟩
    rw [hb] at HQ ⊢
    clear hb
    cases b
    · go_wp2_with fail
      obtain ⟨W4, hW4⟩ : ∃ W4, w'.alloc (.cells #[.int .i64 5] 3) = W4 := ⟨_, rfl⟩
      have hb4 : Below w.heap.size w W4 := by rw [← hW4]; exact HB3.out.trans (((Below.refl _ _).alloc (Nat.le_refl _) _).mono HB3.out.size)
      have k0 : W4.cell? ⟨w'.heap.size, 0, none⟩ = some (.int .i64 5) := by rw [← hW4]; simp
      rw [hW4]
      refine (of_one W4 w'.heap.size 5 32 (.inr ⟨rfl, rfl⟩) k0).mono ?_
      rintro e w5 ⟨rfl, hb5⟩
      have HB5 := Lib.hid (hb4.trans (hb5.mono hb4.size))
      clear hW4 hb4 k0 hb5 HB3
      go_wp2_with fail
      refine (all_any w5 32 l (.inr (.inr rfl)) (by omega)).mono ?_
      rintro e w6 ⟨rfl, hb6⟩
      have HB6 := Lib.hid (HB5.out.trans (hb6.mono HB5.out.size))
      clear hb6 HB5
      go_wp2_with fail
      go_ret
      exact ⟨by rw [HQ.out]; rfl, HB6.out⟩
    · go_wp2_with fail
      go_ret
      exact ⟨by rw [HQ.out]; rfl, HB3.out⟩
end Go.Proofs.YtpiekfkkhgighaaDoor
