import Derived.Test.YtcallkljcjimiaaGreatDoorJW10
import Derived.Shelf.Small.Strs
import Derived.Shelf.Strings.Search1
import Derived.Shelf.Strings.Search2
import Derived.Shelf.Strings.Search3
import Derived.Shelf.Strings.Count
import Derived.Shelf.LaysM
import Derived.Shelf.Strings.Shaped
import Derived.Shelf.Strings.Prefix
import Derived.Test.YtcallkljcjimiaaGreatDoorProg
import Derived.LoopTactic
import Derived.LoopN
import Derived.Deep.QuietTactic
import Derived.BigQuiet
namespace Go.Proofs
open Go.Shelf
def Tryz.lays99_ren : Go.Shelf.Ren := ⟨fun | 99 => 30 | 206 => 61 | n => n, fun | 9 => 9 | 4 => 4 | 3 => 3 | n => n, fun | n => n⟩
theorem Tryz.lays99 : Go.Proofs.Lays.n99 Tryz.prog Tryz.lays99_ren := {
 mixed := by kernel_rfl
 f99 := Tryz.func30.trans (congrArg some (by kernel_rfl))
 f206 := Tryz.func61.trans (congrArg some (by kernel_rfl))
 t3 := Tryz.underlying3
 a3 := Tryz.isAgg3
 z3 := Tryz.sizeOf3
 v3 := Tryz.zeroValue3
 t4 := Tryz.underlying4
 a4 := Tryz.isAgg4
 z4 := Tryz.sizeOf4
 v4 := Tryz.zeroValue4
 t9 := Tryz.underlying9
 a9 := Tryz.isAgg9
 z9 := Tryz.sizeOf9
 v9 := Tryz.zeroValue9 }
open Go.RowKit Go.Lib in
theorem Tryz.strings_HasPrefix (s p : ByteArray) (w : World) :
    Calls Tryz.prog 30 #[.string s, .string p] w fun e w' => e = .returned (.bool (Lib.hasPrefix s.data.toList p.data.toList)) ∧ w' = w := Any.strings_HasPrefix Tryz.lays99 s p w
end Go.Proofs
namespace Go.Proofs.YtcallkljcjimiaaGreatDoor
open Go.RowKit
set_option maxRecDepth 100000
theorem or_a : bits BinOp.or .u64 0 4 = 4 := by decide +kernel
theorem or_b : bits BinOp.or .u64 4 8 = 12 := by decide +kernel
theorem or_c : bits BinOp.or .u64 12 16 = 28 := by decide +kernel
theorem or_d : bits BinOp.or .u64 0 32 = 32 := by decide +kernel
set_option maxHeartbeats 1000000 in
theorem of_one (w : World) (g : Nat) (n set : Int) (hn : (n = 2 ∧ set = 4) ∨ (n = 5 ∧ set = 32)) (h0 : w.cell? ⟨g, 0, none⟩ = some (.int .i64 n)) :
    Calls Tryz.prog 27 #[.slice (some ⟨g, 0, none⟩) 1 1] w fun e w' => e = .returned (.agg #[.int .u64 set]) ∧ Below w.heap.size w w' := by
 have hg : g < w.heap.size := World.block_lt_of_cell? w _ h0
 have ha := or_a
 have hd := or_d
 rcases hn with ⟨rfl, rfl⟩ | ⟨rfl, rfl⟩
 all_goals
  go_enter Tryz.func27, Tryz.ntmps27
  go_wp2_with fail
  refine wp_loop_rounds 2 ?_
  rw [rounds_succ]
  go_wp2
  rw [rounds_succ]
  go_wp2
  refine bodyPost_ret (v := .agg #[.int .u64 _]) (by simp [results, Tryz.results27, go_sem]) rfl ⟨rfl, ?_⟩
  exact ((Below.refl _ _).alloc (Nat.le_refl _) _).alloc (by simp) _
set_option maxHeartbeats 1000000 in
theorem of_three (w : World) (g : Nat) (h0 : w.cell? ⟨g, 0, none⟩ = some (.int .i64 2)) (h1 : w.cell? ⟨g, 1, none⟩ = some (.int .i64 3)) (h2 : w.cell? ⟨g, 2, none⟩ = some (.int .i64 4)) :
    Calls Tryz.prog 27 #[.slice (some ⟨g, 0, none⟩) 3 3] w fun e w' => e = .returned (.agg #[.int .u64 28]) ∧ Below w.heap.size w w' := by
 have hg : g < w.heap.size := World.block_lt_of_cell? w _ h0
 have ha := or_a
 have hb := or_b
 have hc := or_c
 go_enter Tryz.func27, Tryz.ntmps27
 go_wp2_with fail
 refine wp_loop_rounds 4 ?_
 rw [rounds_succ]
 go_wp2
 rw [rounds_succ]
 go_wp2
 rw [rounds_succ]
 go_wp2
 rw [rounds_succ]
 go_wp2
 refine bodyPost_ret (v := .agg #[.int .u64 28]) (by simp [results, Tryz.results27, go_sem]) rfl ⟨rfl, ?_⟩
 exact ((Below.refl _ _).alloc (Nat.le_refl _) _).alloc (by simp) _
def hasB (set : Int) (c : UInt8) : Bool := if set = 4 then decide (bsort c = 2) else if set = 28 then isWord c else isSign c
theorem sort_at (w : World) (c : UInt8) (k : Int) (hk : bsort c = k) : Calls Tryz.prog 60 #[.int .u8 (c.toNat : Int)] w fun e w' => e = .returned (.int .i64 k) ∧ w' = w :=
 (sort_byte w c).mono fun e w' h => ⟨by rw [← hk]; exact h.1, h.2.symm⟩
set_option maxHeartbeats 4000000 in
theorem sortsHas_any (w : World) (set : Int) (c : UInt8) (hset : set = 4 ∨ set = 28 ∨ set = 32) :
    Calls Tryz.prog 28 #[.agg #[.int .u64 set], .int .u8 (c.toNat : Int)] w fun e w' => e = .returned (.bool (hasB set c)) ∧ Below w.heap.size w w' := by
 have hand : ∀ E : Int, 0 ≤ E → E ≤ 18446744073709551615 → bits BinOp.and .u64 E 1 = E % 2 := and_one_u64
 have hbd := bsort_bd c
 obtain ⟨k, hk⟩ : ∃ k, bsort c = k := ⟨_, rfl⟩
 have hR : hasB set c = if set = 4 then decide (k = 2) else if set = 28 then decide (k = 2 ∨ k = 3 ∨ k = 4) else decide (k = 5) := by
  unfold hasB isWord isSign
  rw [hk]
 rw [hR]
 rw [hk] at hbd
 have HK := Lib.hid hk
 clear hR hk
 rcases (show k = 0 ∨ k = 1 ∨ k = 2 ∨ k = 3 ∨ k = 4 ∨ k = 5 ∨ k = 6 ∨ k = 7 ∨ k = 8 by omega) with rfl | rfl | rfl | rfl | rfl | rfl | rfl | rfl | rfl
 all_goals
  rcases hset with rfl | rfl | rfl
  all_goals
   clear hbd
   go_enter Tryz.func28, Tryz.ntmps28
   go_wp2_with fail
   go_quiet ((go_at_call 60; exact Calls.quiet_of_same (sort_at _ c _ HK.out)))
   go_wp2
   go_ret
   exact ⟨rfl, below_drewN ((Below.refl _ _).alloc (Nat.le_refl _) _) _⟩
theorem all_go (p : UInt8 → Bool) : ∀ (l : List UInt8) (k : Nat), (l.take k).all p = true → ∀ c, l[k]? = some c → (p c = false → l.all p = false) ∧ (p c = true → (l.take (k + 1)).all p = true) := by
 intro l k h c hc
 refine ⟨fun h2 => ?_, fun h2 => ?_⟩
 ·rw [List.all_eq_false]
  exact ⟨c, List.mem_of_getElem? hc, by simp [h2]⟩
 ·obtain ⟨hk, rfl⟩ := List.getElem?_eq_some_iff.1 hc
  rw [List.take_succ_eq_append_getElem hk, List.all_append, h]
  simp [h2]
set_option maxHeartbeats 1000000 in
theorem all_any (w : World) (set : Int) (l : List UInt8) (hset : set = 4 ∨ set = 28 ∨ set = 32) (hl : (l.length : Int) ≤ 9223372036854775000) :
    Calls Tryz.prog 29 #[.string ⟨l.toArray⟩, .func (Fn.func 28) #[.agg #[.int .u64 set]] #[]] w fun e w' => e = .returned (.bool (l.all (hasB set))) ∧ Below w.heap.size w w' := by
 have HS := Lib.hid hset
 clear hset
 go_enter Tryz.func29, Tryz.ntmps29
 go_wp2_with fail
 go_loopw [5] (fun i wr => ∃ k : Nat, k ≤ l.length ∧ i = .int .i64 k ∧ Hid ((l.take k).all (hasB set) = true) ∧ Hid (Below w.heap.size w wr)) (fun i _ => l.length - (intOf i).toNat)
 case atStart => exact ⟨0, Nat.zero_le _, rfl, Lib.hid (by simp), Lib.hid (Below.refl _ _)⟩
 case round =>
  obtain ⟨k, hk, rfl, HA, HB⟩ := hrel
  by_cases hlt : k < l.length
  ·obtain ⟨c, hd, hx, hg⟩ := byte_at l k hlt
   have HG := Lib.hid (all_go (hasB set) l k HA.out c hg)
   have hlt' : (k : Int) < (l.length : Int) := by omega
   clear hd hg HA
   go_wp2_with fail
   refine (sortsHas_any wr set c HS.out).mono ?_
   rintro e w' ⟨rfl, hb⟩
   have HB2 := Lib.hid (HB.out.trans (hb.mono HB.out.size))
   clear hb HB
   obtain ⟨b, hb⟩ : ∃ b, hasB set c = b := ⟨_, rfl⟩
   rw [hb]
   have HG2 := HG.out
   rw [hb] at HG2
   cases b
   ·have HF := Lib.hid (HG2.1 rfl)
    clear HG2 HG hb
    go_wp2_with fail
    go_ret
    exact ⟨by rw [HF.out]; rfl, HB2.out⟩
   ·have HF := Lib.hid (HG2.2 rfl)
    clear HG2 HG hb
    go_wp2_with fail
    go_roundw
    case rel => exact ⟨k + 1, hlt, by go_num, HF, HB2⟩
    case measure => simp [intOf]; omega
  ·have hkn : k = l.length := by omega
   subst hkn
   have hA := HA.out
   rw [List.take_length] at hA
   have HA2 := Lib.hid hA
   clear hA HA
   go_wp2_with fail
   go_ret
   exact ⟨by rw [HA2.out]; rfl, HB.out⟩
theorem text_ne {l m : List UInt8} (h : l ≠ m) : (l == m) = false := beq_eq_false_iff_ne.2 h
theorem prefix_two (l : List UInt8) : Lib.hasPrefix l [47, 42] = (l.take 2 == [47, 42]) := by
 have e : ∀ x y : UInt8, (x == y) = (y == x) := fun x y => by rw [Bool.eq_iff_iff, beq_iff_eq, beq_iff_eq]; exact eq_comm
 unfold Lib.hasPrefix
 cases l with
 | nil => rfl
 | cons a r =>
  cases r with
  | nil => simp [List.isPrefixOf]
  | cons b r =>
   simp only [List.isPrefixOf, List.take_succ_cons, List.take_zero]
   rw [e 47 a, e 42 b]
   simp
set_option maxHeartbeats 4000000 in
theorem plain_any (w : World) (l : List UInt8) (hl : (l.length : Int) ≤ 1000000) :
    Calls Tryz.prog 12 #[.string ⟨l.toArray⟩] w fun e w' => e = .returned (.bool (plainB l)) ∧ Below w.heap.size w w' := by
 by_cases e1 : l = []
 ·subst e1
  go_enter Tryz.func12, Tryz.ntmps12
  go_wp2_with fail
  go_ret
  exact ⟨rfl, Below.refl _ _⟩
 by_cases e2 : l = [46]
 ·subst e2
  go_enter Tryz.func12, Tryz.ntmps12
  go_wp2_with fail
  go_ret
  exact ⟨rfl, Below.refl _ _⟩
 by_cases e3 : l = [91, 93]
 ·subst e3
  go_enter Tryz.func12, Tryz.ntmps12
  go_wp2_with fail
  go_ret
  exact ⟨rfl, Below.refl _ _⟩
 by_cases e4 : l = [33]
 ·subst e4
  go_enter Tryz.func12, Tryz.ntmps12
  go_wp2_with fail
  go_ret
  exact ⟨rfl, Below.refl _ _⟩
 by_cases e5 : l = [59]
 ·subst e5
  go_enter Tryz.func12, Tryz.ntmps12
  go_wp2_with fail
  go_ret
  exact ⟨rfl, Below.refl _ _⟩
 by_cases e6 : l = [123, 125]
 ·subst e6
  go_enter Tryz.func12, Tryz.ntmps12
  go_wp2_with fail
  go_ret
  exact ⟨rfl, Below.refl _ _⟩
 have t1 : l.isEmpty = false := by simpa using e1
 have t2 := text_ne e2
 have t3 := text_ne e3
 have t4 := text_ne e4
 have t5 := text_ne e5
 have t6 := text_ne e6
 have hmf : ∀ (fn : Fn) (first cap : Array Value) (w : World), (Instr.makeFunc fn first cap).run Tryz.prog w = .ok (.func fn first cap) w := fun _ _ _ _ => rfl
 have h0 : 0 < l.length := List.length_pos_iff.2 e1
 obtain ⟨c, hd, hx, hg⟩ := byte_at l 0 h0
 have hP : plainB l = if bsort c = 2 then l.all isWord else !(l.take 2 == [47, 42]) && l.all isSign := by
  have hc : l.headD 0 = c := by rw [List.drop_zero] at hd; rw [hd]; rfl
  unfold plainB
  rw [if_neg (by simp [e1, e2]), if_neg (by simp [e3, e4, e5, e6]), hc]
 have HP := Lib.hid hP
 have HE := Lib.hid (And.intro e1 e2)
 have h0' : (0 : Int) < (l.length : Int) := by omega
 clear hP e1 e2 e3 e4 e5 e6 hd hg
 go_enter Tryz.func12, Tryz.ntmps12
 go_wp2_with fail
 obtain ⟨W1, hW1⟩ : ∃ W1, w.alloc (.cells #[.int .i64 2] 3) = W1 := ⟨_, rfl⟩
 have hb1 : Below w.heap.size w W1 := by rw [← hW1]; exact (Below.refl _ _).alloc (Nat.le_refl _) _
 have hc1 : W1.cell? ⟨w.heap.size, 0, none⟩ = some (.int .i64 2) := by rw [← hW1]; simp
 rw [hW1]
 refine (of_one W1 w.heap.size 2 4 (.inl ⟨rfl, rfl⟩) hc1).mono ?_
 rintro e w2 ⟨rfl, hb2⟩
 have HB2 := Lib.hid (hb1.trans (hb2.mono hb1.size))
 clear hW1 hb1 hc1 hb2
 go_wp2_with fail
 refine (sortsHas_any w2 4 c (.inl rfl)).mono ?_
 rintro e w3 ⟨rfl, hb3⟩
 have HB3 := Lib.hid (HB2.out.trans (hb3.mono HB2.out.size))
 clear hb3 HB2
 by_cases h2 : bsort c = 2
 ·rw [show hasB 4 c = true by simp [hasB, h2]]
  have HP2 := HP.out
  rw [if_pos h2] at HP2
  have HQ := Lib.hid HP2
  clear HP2 HP h2
  go_wp2_with fail
  obtain ⟨W4, hW4⟩ : ∃ W4, w3.alloc (.cells #[.int .i64 2, .int .i64 3, .int .i64 4] 3) = W4 := ⟨_, rfl⟩
  have hb4 : Below w.heap.size w W4 := by rw [← hW4]; exact HB3.out.trans (((Below.refl _ _).alloc (Nat.le_refl _) _).mono HB3.out.size)
  have k0 : W4.cell? ⟨w3.heap.size, 0, none⟩ = some (.int .i64 2) := by rw [← hW4]; simp
  have k1 : W4.cell? ⟨w3.heap.size, 1, none⟩ = some (.int .i64 3) := by rw [← hW4]; simp
  have k2 : W4.cell? ⟨w3.heap.size, 2, none⟩ = some (.int .i64 4) := by rw [← hW4]; simp
  rw [hW4]
  refine (of_three W4 w3.heap.size k0 k1 k2).mono ?_
  rintro e w5 ⟨rfl, hb5⟩
  have HB5 := Lib.hid (hb4.trans (hb5.mono hb4.size))
  clear hW4 hb4 k0 k1 k2 hb5 HB3
  go_wp2_with fail
  refine (all_any w5 28 l (.inr (.inl rfl)) (by omega)).mono ?_
  rintro e w6 ⟨rfl, hb6⟩
  have HB6 := Lib.hid (HB5.out.trans (hb6.mono HB5.out.size))
  clear hb6 HB5
  go_wp2_with fail
  go_ret
  exact ⟨by rw [HQ.out]; rfl, HB6.out⟩
 ·rw [show hasB 4 c = false by simp [hasB, h2]]
  have HP2 := HP.out
  rw [if_neg h2] at HP2
  have HQ := Lib.hid HP2
  clear HP2 HP h2
  have hpre : Calls Tryz.prog 30 #[.string ⟨l.toArray⟩, .string ⟨#[47, 42]⟩] w3 fun e w' => e = .returned (.bool (l.take 2 == [47, 42])) ∧ w' = w3 := by
   have := Tryz.strings_HasPrefix ⟨l.toArray⟩ ⟨#[47, 42]⟩ w3
   rw [← prefix_two]
   simpa using this
  have HPRE := Lib.hid hpre
  clear hpre
  go_wp2_with fail
  refine HPRE.out.mono ?_
  rintro e w' ⟨rfl, rfl⟩
  clear HPRE
  obtain ⟨b, hb⟩ : ∃ b, (l.take 2 == [47, 42]) = b := ⟨_, rfl⟩
  rw [hb] at HQ ⊢
  clear hb
  cases b
  ·go_wp2_with fail
   obtain ⟨W4, hW4⟩ : ∃ W4, w'.alloc (.cells #[.int .i64 5] 3) = W4 := ⟨_, rfl⟩
   have hb4 : Below w.heap.size w W4 := by rw [← hW4]; exact HB3.out.trans (((Below.refl _ _).alloc (Nat.le_refl _) _).mono HB3.out.size)
   have k0 : W4.cell? ⟨w'.heap.size, 0, none⟩ = some (.int .i64 5) := by rw [← hW4]; simp
   rw [hW4]
   refine (of_one W4 w'.heap.size 5 32 (.inr ⟨rfl, rfl⟩) k0).mono ?_
   rintro e w5 ⟨rfl, hb5⟩
   have HB5 := Lib.hid (hb4.trans (hb5.mono hb4.size))
   clear hW4 hb4 k0 hb5 HB3
   go_wp2_with fail
   refine (all_any w5 32 l (.inr (.inr rfl)) (by omega)).mono ?_
   rintro e w6 ⟨rfl, hb6⟩
   have HB6 := Lib.hid (HB5.out.trans (hb6.mono HB5.out.size))
   clear hb6 HB5
   go_wp2_with fail
   go_ret
   exact ⟨by rw [HQ.out]; rfl, HB6.out⟩
  ·go_wp2_with fail
   go_ret
   exact ⟨by rw [HQ.out]; rfl, HB3.out⟩
open Go.RowKit Go.Maps
def ekB (c : UInt8) : Value := .int .u8 (c.toNat : Int)
def evN (n : Nat) : Value := .int .i64 (n : Int)
theorem byteKE : KE Tryz.prog 5 ekB (fun _ => True) :=
 ⟨int_keyed Tryz.underlying5, fun k _ => ⟨_, keyOf_int_mk Tryz.underlying5 (by
     have := k.toNat_lt
     have e1 : IntKind.u8.min = 0 := by decide
     have e2 : IntKind.u8.max = 255 := by decide
     simp only [Lit.wf, Bool.and_eq_true, e1, e2]
     exact ⟨decide_eq_true (by omega), decide_eq_true (by omega)⟩)⟩,
  fun a b h => by
   simp only [ekB, Value.int.injEq, true_and] at h
   exact UInt8.toNat_inj.1 (by omega)⟩
def escL : List (UInt8 × Nat) := [(110, 10), (114, 13), (116, 9), (97, 7), (98, 8), (102, 12), (118, 11), (92, 92), (39, 39), (34, 34), (96, 96)]
theorem escL_get (c : UInt8) : mget escL c = escKnown c :=
 of_decide_eq_true (u8_all (fun c => decide (mget escL c = escKnown c)) (by decide +kernel) c)
set_option maxHeartbeats 1000000 in
theorem escapes_any (w : World) : Calls Tryz.prog 118 #[] w fun e w' => ∃ bm, e = .returned (.map (some bm)) ∧ MapAt w' bm ekB evN escL ∧ w.heap.size ≤ bm ∧ Below w.heap.size w w' := by
 have hmm := @run_makeMap Tryz.prog
 have M0 := MapAt.made (ek := ekB) (ev := evN) w
 have B0 : Below w.heap.size w (w.alloc (.map #[] 0)) := (Below.refl _ _).alloc (Nat.le_refl _) _
 obtain ⟨w1, u1, M1, G1, -⟩ := MapAt.update (P := Tryz.prog) (t := 187) byteKE Tryz.underlying187 M0 (fun _ _ => trivial) (k := (110 : UInt8)) trivial 10
 rw [show ekB 110 = .int .u8 110 from rfl, show evN 10 = .int .i64 10 from rfl] at u1
 have B1 : Below w.heap.size w w1 := ⟨G1.os.trans B0.os, G1.tape.trans B0.tape, G1.output.trans B0.output, Nat.le_trans B0.size G1.size, fun k hk => (G1.block k (Nat.lt_of_lt_of_le hk B0.size) (fun e => by cases e; omega)).trans (B0.block k hk)⟩
 clear M0 G1 B0
 obtain ⟨w2, u2, M2, G2, -⟩ := MapAt.update (P := Tryz.prog) (t := 187) byteKE Tryz.underlying187 M1 (fun _ _ => trivial) (k := (114 : UInt8)) trivial 13
 rw [show ekB 114 = .int .u8 114 from rfl, show evN 13 = .int .i64 13 from rfl] at u2
 have B2 : Below w.heap.size w w2 := ⟨G2.os.trans B1.os, G2.tape.trans B1.tape, G2.output.trans B1.output, Nat.le_trans B1.size G2.size, fun k hk => (G2.block k (Nat.lt_of_lt_of_le hk B1.size) (fun e => by cases e; omega)).trans (B1.block k hk)⟩
 clear M1 G2 B1
 obtain ⟨w3, u3, M3, G3, -⟩ := MapAt.update (P := Tryz.prog) (t := 187) byteKE Tryz.underlying187 M2 (fun _ _ => trivial) (k := (116 : UInt8)) trivial 9
 rw [show ekB 116 = .int .u8 116 from rfl, show evN 9 = .int .i64 9 from rfl] at u3
 have B3 : Below w.heap.size w w3 := ⟨G3.os.trans B2.os, G3.tape.trans B2.tape, G3.output.trans B2.output, Nat.le_trans B2.size G3.size, fun k hk => (G3.block k (Nat.lt_of_lt_of_le hk B2.size) (fun e => by cases e; omega)).trans (B2.block k hk)⟩
 clear M2 G3 B2
 obtain ⟨w4, u4, M4, G4, -⟩ := MapAt.update (P := Tryz.prog) (t := 187) byteKE Tryz.underlying187 M3 (fun _ _ => trivial) (k := (97 : UInt8)) trivial 7
 rw [show ekB 97 = .int .u8 97 from rfl, show evN 7 = .int .i64 7 from rfl] at u4
 have B4 : Below w.heap.size w w4 := ⟨G4.os.trans B3.os, G4.tape.trans B3.tape, G4.output.trans B3.output, Nat.le_trans B3.size G4.size, fun k hk => (G4.block k (Nat.lt_of_lt_of_le hk B3.size) (fun e => by cases e; omega)).trans (B3.block k hk)⟩
 clear M3 G4 B3
 obtain ⟨w5, u5, M5, G5, -⟩ := MapAt.update (P := Tryz.prog) (t := 187) byteKE Tryz.underlying187 M4 (fun _ _ => trivial) (k := (98 : UInt8)) trivial 8
 rw [show ekB 98 = .int .u8 98 from rfl, show evN 8 = .int .i64 8 from rfl] at u5
 have B5 : Below w.heap.size w w5 := ⟨G5.os.trans B4.os, G5.tape.trans B4.tape, G5.output.trans B4.output, Nat.le_trans B4.size G5.size, fun k hk => (G5.block k (Nat.lt_of_lt_of_le hk B4.size) (fun e => by cases e; omega)).trans (B4.block k hk)⟩
 clear M4 G5 B4
 obtain ⟨w6, u6, M6, G6, -⟩ := MapAt.update (P := Tryz.prog) (t := 187) byteKE Tryz.underlying187 M5 (fun _ _ => trivial) (k := (102 : UInt8)) trivial 12
 rw [show ekB 102 = .int .u8 102 from rfl, show evN 12 = .int .i64 12 from rfl] at u6
 have B6 : Below w.heap.size w w6 := ⟨G6.os.trans B5.os, G6.tape.trans B5.tape, G6.output.trans B5.output, Nat.le_trans B5.size G6.size, fun k hk => (G6.block k (Nat.lt_of_lt_of_le hk B5.size) (fun e => by cases e; omega)).trans (B5.block k hk)⟩
 clear M5 G6 B5
 obtain ⟨w7, u7, M7, G7, -⟩ := MapAt.update (P := Tryz.prog) (t := 187) byteKE Tryz.underlying187 M6 (fun _ _ => trivial) (k := (118 : UInt8)) trivial 11
 rw [show ekB 118 = .int .u8 118 from rfl, show evN 11 = .int .i64 11 from rfl] at u7
 have B7 : Below w.heap.size w w7 := ⟨G7.os.trans B6.os, G7.tape.trans B6.tape, G7.output.trans B6.output, Nat.le_trans B6.size G7.size, fun k hk => (G7.block k (Nat.lt_of_lt_of_le hk B6.size) (fun e => by cases e; omega)).trans (B6.block k hk)⟩
 clear M6 G7 B6
 obtain ⟨w8, u8, M8, G8, -⟩ := MapAt.update (P := Tryz.prog) (t := 187) byteKE Tryz.underlying187 M7 (fun _ _ => trivial) (k := (92 : UInt8)) trivial 92
 rw [show ekB 92 = .int .u8 92 from rfl, show evN 92 = .int .i64 92 from rfl] at u8
 have B8 : Below w.heap.size w w8 := ⟨G8.os.trans B7.os, G8.tape.trans B7.tape, G8.output.trans B7.output, Nat.le_trans B7.size G8.size, fun k hk => (G8.block k (Nat.lt_of_lt_of_le hk B7.size) (fun e => by cases e; omega)).trans (B7.block k hk)⟩
 clear M7 G8 B7
 obtain ⟨w9, u9, M9, G9, -⟩ := MapAt.update (P := Tryz.prog) (t := 187) byteKE Tryz.underlying187 M8 (fun _ _ => trivial) (k := (39 : UInt8)) trivial 39
 rw [show ekB 39 = .int .u8 39 from rfl, show evN 39 = .int .i64 39 from rfl] at u9
 have B9 : Below w.heap.size w w9 := ⟨G9.os.trans B8.os, G9.tape.trans B8.tape, G9.output.trans B8.output, Nat.le_trans B8.size G9.size, fun k hk => (G9.block k (Nat.lt_of_lt_of_le hk B8.size) (fun e => by cases e; omega)).trans (B8.block k hk)⟩
 clear M8 G9 B8
 obtain ⟨w10, u10, M10, G10, -⟩ := MapAt.update (P := Tryz.prog) (t := 187) byteKE Tryz.underlying187 M9 (fun _ _ => trivial) (k := (34 : UInt8)) trivial 34
 rw [show ekB 34 = .int .u8 34 from rfl, show evN 34 = .int .i64 34 from rfl] at u10
 have B10 : Below w.heap.size w w10 := ⟨G10.os.trans B9.os, G10.tape.trans B9.tape, G10.output.trans B9.output, Nat.le_trans B9.size G10.size, fun k hk => (G10.block k (Nat.lt_of_lt_of_le hk B9.size) (fun e => by cases e; omega)).trans (B9.block k hk)⟩
 clear M9 G10 B9
 obtain ⟨w11, u11, M11, G11, -⟩ := MapAt.update (P := Tryz.prog) (t := 187) byteKE Tryz.underlying187 M10 (fun _ _ => trivial) (k := (96 : UInt8)) trivial 96
 rw [show ekB 96 = .int .u8 96 from rfl, show evN 96 = .int .i64 96 from rfl] at u11
 have B11 : Below w.heap.size w w11 := ⟨G11.os.trans B10.os, G11.tape.trans B10.tape, G11.output.trans B10.output, Nat.le_trans B10.size G11.size, fun k hk => (G11.block k (Nat.lt_of_lt_of_le hk B10.size) (fun e => by cases e; omega)).trans (B10.block k hk)⟩
 clear M10 G11 B10
 have HM := Lib.hid M11
 have HB := Lib.hid B11
 clear M11 B11
 go_enter Tryz.func118, Tryz.ntmps118
 go_wp2_with fail
 go_ret
 exact ⟨_, rfl, HM.out, Nat.le_refl _, HB.out⟩
set_option maxHeartbeats 400000 in
theorem octal_any (w : World) (c : UInt8) : Calls Tryz.prog 140 #[.int .u8 (c.toNat : Int)] w fun e w' => e = .returned (.bool (isOct c)) ∧ w = w' := by
 unfold isOct
 have hc := c.toNat_lt
 generalize c.toNat = n at *
 have hn : (n : Int) < 256 := by omega
 by_cases h1 : 48 ≤ n
 ·by_cases h2 : n ≤ 55
  ·have a1 : 48 ≤ (n : Int) := by omega
   have a2 : (n : Int) ≤ 55 := by omega
   rw [decide_eq_true ⟨h1, h2⟩]
   clear h1 h2
   go_enter Tryz.func140, Tryz.ntmps140
   go_wp2_with fail
   go_ret
   exact ⟨rfl, rfl⟩
  ·have a1 : 48 ≤ (n : Int) := by omega
   have a2 : 55 < (n : Int) := by omega
   rw [decide_eq_false (fun h => h2 h.2)]
   clear h1 h2
   go_enter Tryz.func140, Tryz.ntmps140
   go_wp2_with fail
   go_ret
   exact ⟨ret_b (decide_eq_false (by omega)), rfl⟩
 ·have a1 : (n : Int) < 48 := by omega
  rw [decide_eq_false (fun h => h1 h.1)]
  clear h1
  go_enter Tryz.func140, Tryz.ntmps140
  go_wp2_with fail
  go_ret
  exact ⟨rfl, rfl⟩
theorem esc_some {u : World} {bm : Nat} (h : MapAt u bm ekB evN escL) (c : UInt8) (n : Nat) (hg : escKnown c = some n) :
    (Instr.lookup 187 (.map (some bm)) (.int .u8 (c.toNat : Int)) true).run Tryz.prog u = .ok (.tuple #[.int .i64 (n : Int), .bool true]) u := by
 have := h.lookup (t := 187) byteKE Tryz.underlying187 (z := .int .i64 0) (fun u => by kernel_rfl) (fun _ _ => trivial) (k := c) trivial true
 rw [show ekB c = .int .u8 (c.toNat : Int) from rfl, escL_get, hg] at this
 exact this
theorem esc_none {u : World} {bm : Nat} (h : MapAt u bm ekB evN escL) (c : UInt8) (hg : escKnown c = none) :
    (Instr.lookup 187 (.map (some bm)) (.int .u8 (c.toNat : Int)) true).run Tryz.prog u = .ok (.tuple #[.int .i64 0, .bool false]) u := by
 have := h.lookup (t := 187) byteKE Tryz.underlying187 (z := .int .i64 0) (fun u => by kernel_rfl) (fun _ _ => trivial) (k := c) trivial true
 rw [show ekB c = .int .u8 (c.toNat : Int) from rfl, escL_get, hg] at this
 exact this
theorem byte_eq {c d : UInt8} (h : c = d) : ((c.toNat : Int) == (d.toNat : Int)) = true := by rw [h]; simp
theorem slice_end (l : List UInt8) (k : Nat) : (⟨l.toArray⟩ : ByteArray).extract k l.length = ⟨(l.drop k).toArray⟩ := by
 apply ByteArray.ext
 rw [ByteArray.data_extract]
 apply Array.ext'
 rw [Array.toList_extract]
 simp only [List.extract]
 rw [List.take_of_length_le (by simp)]
theorem slice_mid (l : List UInt8) (a b : Nat) : (⟨l.toArray⟩ : ByteArray).extract a b = ⟨((l.drop a).take (b - a)).toArray⟩ := by
 apply ByteArray.ext
 rw [ByteArray.data_extract]
 apply Array.ext'
 rw [Array.toList_extract]
set_option maxHeartbeats 2000000 in
theorem escape_any (w : World) (l : List UInt8) (c : UInt8) (r : List UInt8) (hl : l = c :: r) (bm : Nat) (hM : MapAt w bm ekB evN escL) (hn : (l.length : Int) ≤ 9223372036854775000) :
    Calls Tryz.prog 119 #[.string ⟨l.toArray⟩, .map (some bm)] w fun e w' =>
     e = .returned (.tuple #[.int .i64 ((escapeF l).1 : Int), .int .i64 ((escapeF l).2.1 : Int), .bool (escapeF l).2.2]) ∧ w = w' := by
 have hlen : 0 < l.length := by rw [hl]; simp
 have hx : (⟨l.toArray⟩ : ByteArray)[0]'(by show 0 < l.toArray.size; simpa using hlen) = c := by subst hl; rfl
 have HT := Lib.hid (show l.tail = r by rw [hl]; rfl)
 have hrl : (r.length : Int) + 1 = l.length := by rw [hl]; simp
 have HRL := Lib.hid hrl
 have hrl1 : (r.length : Int) ≤ 9223372036854775000 := by omega
 have HL := Lib.hid hl
 generalize hE : escapeF l = E
 have HE := Lib.hid hE
 clear hl hE hrl
 cases hg : escKnown c with
 | some n =>
  have hk := esc_some hM c n hg
  have hE := HE.out
  rw [HL.out, escapeF, hg] at hE
  have HE2 := Lib.hid hE
  clear hE hg HE hM
  go_enter Tryz.func119, Tryz.ntmps119
  go_wp2_with fail
  go_ret3
  rw [← HE2.out]
  exact ⟨rfl, rfl⟩
 | none =>
  have hk := esc_none hM c hg
  have hE := HE.out
  rw [HL.out, escapeF, hg] at hE
  simp only at hE
  have HE2 := Lib.hid hE
  clear hE hg HE hM
  by_cases h1 : c = 120
  ·have t1 : ((c.toNat : Int) == 120) = true := byte_eq h1
   have hE := HE2.out
   rw [if_pos h1] at hE
   have HE3 := Lib.hid hE
   have hs : (⟨l.toArray⟩ : ByteArray).extract 1 l.length = ⟨r.toArray⟩ := by rw [slice_end, List.drop_one, HT.out]
   have hcb : (codedF 16 r 0 0).2.1 ≤ r.length := codedF_le 16 r
   clear h1 hE HE2
   go_enter Tryz.func119, Tryz.ntmps119
   go_wp2_with fail
   refine (coded_lit _ r 16 (.inr rfl) hrl1).mono ?_
   rintro e w' ⟨rfl, rfl⟩
   simp only [Int.reduceToNat]
   generalize codedF 16 r 0 0 = R at *
   obtain ⟨x, k, o⟩ := R
   simp only at HE3 hcb ⊢
   have hcb' : (k : Int) ≤ 9223372036854775000 := by omega
   go_wp2_with fail
   go_ret3
   rw [← HE3.out]
   exact ⟨by simp, rfl⟩
  ·have t1 : ((c.toNat : Int) == 120) = false := byte_ne h1
   have hE := HE2.out
   rw [if_neg h1] at hE
   have HE3 := Lib.hid hE
   clear h1 hE HE2
   by_cases h2 : c = 48
   ·have t2 : ((c.toNat : Int) == 48) = true := byte_eq h2
    have ho : isOct c = true := by rw [h2]; decide
    have hE := HE3.out
    rw [if_pos ho] at hE
    by_cases h3 : (l.length : Int) = 1
    ·have t3 : ((l.length : Int) == 1) = true := by rw [h3]; rfl
     rw [if_pos ⟨h2, .inl (List.eq_nil_of_length_eq_zero (by have := HRL.out; omega))⟩] at hE
     have HE4 := Lib.hid hE
     clear h2 hE HE3 h3
     go_enter Tryz.func119, Tryz.ntmps119
     go_wp2_with (first | (go_at_call 140; refine (octal_any _ _).mono ?_; rintro e w' ⟨rfl, rfl⟩) | (go_at_call 141; refine (coded_lit _ l 8 (.inl rfl) hn).mono ?_; rintro e w' ⟨rfl, rfl⟩))
     go_ret3
     rw [← HE4.out]
     exact ⟨rfl, rfl⟩
    ·have t3 : ((l.length : Int) == 1) = false := beq_eq_false_iff_ne.2 h3
     have h1l : 1 < l.length := by omega
     obtain ⟨d, hd, hx1, -⟩ := byte_at l 1 h1l
     have hrd : r.headD 0 = d := by
      have := HT.out
      rw [← List.drop_one, hd] at this
      rw [← this]
      rfl
     have hrn : r ≠ [] := by rintro rfl; have := HRL.out; simp at this; omega
     rw [hrd, ← HL.out] at hE
     have HE4 := Lib.hid hE
     clear hE HE3 h3 hd hrd
     cases hod : isOct d
     ·by_cases h92 : d = 92
      ·have t4 : ((d.toNat : Int) == 92) = true := byte_eq h92
       have t4' : ((d.toNat : Int) != 92) = false := by rw [bne, t4]; rfl
       have hE := HE4.out
       rw [if_neg (by rw [h92]; simp [hrn])] at hE
       have HE5 := Lib.hid hE
       clear hE HE4 h92 hrn h2 HL
       go_enter Tryz.func119, Tryz.ntmps119
       go_wp2_with (first | (go_at_call 140; refine (octal_any _ _).mono ?_; rintro e w' ⟨rfl, rfl⟩) | (go_at_call 141; refine (coded_lit _ l 8 (.inl rfl) hn).mono ?_; rintro e w' ⟨rfl, rfl⟩))
       go_ret3
       rw [← HE5.out]
       exact ⟨rfl, rfl⟩
      ·have t4 : ((d.toNat : Int) == 92) = false := byte_ne h92
       have t4' : ((d.toNat : Int) != 92) = true := by rw [bne, t4]; rfl
       have hE := HE4.out
       rw [if_pos ⟨h2, .inr ⟨hod, h92⟩⟩] at hE
       have HE5 := Lib.hid hE
       clear hE HE4 h92 hrn h2 HL
       go_enter Tryz.func119, Tryz.ntmps119
       go_wp2_with (first | (go_at_call 140; refine (octal_any _ _).mono ?_; rintro e w' ⟨rfl, rfl⟩) | (go_at_call 141; refine (coded_lit _ l 8 (.inl rfl) hn).mono ?_; rintro e w' ⟨rfl, rfl⟩))
       go_ret3
       rw [← HE5.out]
       exact ⟨rfl, rfl⟩
     ·have hE := HE4.out
      rw [if_neg (by rw [hod]; simp [hrn])] at hE
      have HE5 := Lib.hid hE
      clear hE HE4 hrn h2 HL
      go_enter Tryz.func119, Tryz.ntmps119
      go_wp2_with (first | (go_at_call 140; refine (octal_any _ _).mono ?_; rintro e w' ⟨rfl, rfl⟩) | (go_at_call 141; refine (coded_lit _ l 8 (.inl rfl) hn).mono ?_; rintro e w' ⟨rfl, rfl⟩))
      go_ret3
      rw [← HE5.out]
      exact ⟨rfl, rfl⟩
   ·have t2 : ((c.toNat : Int) == 48) = false := byte_ne h2
    have hE := HE3.out
    rw [if_neg (fun h => h2 h.1), ← HL.out] at hE
    cases ho : isOct c
    ·rw [if_neg (by rw [ho]; simp)] at hE
     have HE4 := Lib.hid hE
     clear hE HE3 h2 HL
     go_enter Tryz.func119, Tryz.ntmps119
     go_wp2_with (first | (go_at_call 140; refine (octal_any _ _).mono ?_; rintro e w' ⟨rfl, rfl⟩) | (go_at_call 141; refine (coded_lit _ l 8 (.inl rfl) hn).mono ?_; rintro e w' ⟨rfl, rfl⟩))
     go_ret3
     rw [← HE4.out]
     exact ⟨rfl, rfl⟩
    ·rw [if_pos ho] at hE
     have HE4 := Lib.hid hE
     clear hE HE3 h2 HL
     go_enter Tryz.func119, Tryz.ntmps119
     go_wp2_with (first | (go_at_call 140; refine (octal_any _ _).mono ?_; rintro e w' ⟨rfl, rfl⟩) | (go_at_call 141; refine (coded_lit _ l 8 (.inl rfl) hn).mono ?_; rintro e w' ⟨rfl, rfl⟩))
     go_ret3
     rw [← HE4.out]
     exact ⟨rfl, rfl⟩
end Go.Proofs.YtcallkljcjimiaaGreatDoor
