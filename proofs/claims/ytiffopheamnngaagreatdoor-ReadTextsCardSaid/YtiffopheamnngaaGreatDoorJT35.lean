import Derived.Test.YtiffopheamnngaaGreatDoorJT04
import Derived.Test.YtiffopheamnngaaGreatDoorJT34
namespace Go.Proofs.YtiffopheamnngaaGreatDoor
open Go.RowKit Go.Maps
set_option maxRecDepth 100000
def ekB (c : UInt8) : Value := .int .u8 (c.toNat : Int)
def evN (n : Nat) : Value := .int .i64 (n : Int)
theorem byteKE : KE Tryz.prog 5 ekB (fun _ => True) :=
 ⟨int_keyed Tryz.underlying5, fun k _ => ⟨_, keyOf_int_mk Tryz.underlying5 (by
     have := k.toNat_lt
     have e1 : IntKind.u8.min = 0 := by decide
     have e2 : IntKind.u8.max = 255 := by decide
     simp only [Lit.wf, Bool.and_eq_true, e1, e2]
     exact ⟨decide_eq_true (by omega), decide_eq_true (by omega)⟩)⟩,
  fun a b h => by
   simp only [ekB, Value.int.injEq, true_and] at h
   exact UInt8.toNat_inj.1 (by omega)⟩
def escL : List (UInt8 × Nat) := [(110, 10), (114, 13), (116, 9), (97, 7), (98, 8), (102, 12), (118, 11), (92, 92), (39, 39), (34, 34), (96, 96)]
theorem escL_get (c : UInt8) : mget escL c = escKnown c :=
 of_decide_eq_true (u8_all (fun c => decide (mget escL c = escKnown c)) (by decide +kernel) c)
set_option maxHeartbeats 1000000 in
theorem escapes_any (w : World) : Calls Tryz.prog 75 #[] w fun e w' => ∃ bm, e = .returned (.map (some bm)) ∧ MapAt w' bm ekB evN escL ∧ w.heap.size ≤ bm ∧ Below w.heap.size w w' := by
 have hmm := @run_makeMap Tryz.prog
 have M0 := MapAt.made (ek := ekB) (ev := evN) w
 have B0 : Below w.heap.size w (w.alloc (.map #[] 0)) := (Below.refl _ _).alloc (Nat.le_refl _) _
 obtain ⟨w1, u1, M1, G1, -⟩ := MapAt.update (P := Tryz.prog) (t := 140) byteKE Tryz.underlying140 M0 (fun _ _ => trivial) (k := (110 : UInt8)) trivial 10
 rw [show ekB 110 = .int .u8 110 from rfl, show evN 10 = .int .i64 10 from rfl] at u1
 have B1 : Below w.heap.size w w1 := ⟨G1.os.trans B0.os, G1.tape.trans B0.tape, G1.output.trans B0.output, Nat.le_trans B0.size G1.size, fun k hk => (G1.block k (Nat.lt_of_lt_of_le hk B0.size) (fun e => by cases e; omega)).trans (B0.block k hk)⟩
 clear M0 G1 B0
 obtain ⟨w2, u2, M2, G2, -⟩ := MapAt.update (P := Tryz.prog) (t := 140) byteKE Tryz.underlying140 M1 (fun _ _ => trivial) (k := (114 : UInt8)) trivial 13
 rw [show ekB 114 = .int .u8 114 from rfl, show evN 13 = .int .i64 13 from rfl] at u2
 have B2 : Below w.heap.size w w2 := ⟨G2.os.trans B1.os, G2.tape.trans B1.tape, G2.output.trans B1.output, Nat.le_trans B1.size G2.size, fun k hk => (G2.block k (Nat.lt_of_lt_of_le hk B1.size) (fun e => by cases e; omega)).trans (B1.block k hk)⟩
 clear M1 G2 B1
 obtain ⟨w3, u3, M3, G3, -⟩ := MapAt.update (P := Tryz.prog) (t := 140) byteKE Tryz.underlying140 M2 (fun _ _ => trivial) (k := (116 : UInt8)) trivial 9
 rw [show ekB 116 = .int .u8 116 from rfl, show evN 9 = .int .i64 9 from rfl] at u3
 have B3 : Below w.heap.size w w3 := ⟨G3.os.trans B2.os, G3.tape.trans B2.tape, G3.output.trans B2.output, Nat.le_trans B2.size G3.size, fun k hk => (G3.block k (Nat.lt_of_lt_of_le hk B2.size) (fun e => by cases e; omega)).trans (B2.block k hk)⟩
 clear M2 G3 B2
 obtain ⟨w4, u4, M4, G4, -⟩ := MapAt.update (P := Tryz.prog) (t := 140) byteKE Tryz.underlying140 M3 (fun _ _ => trivial) (k := (97 : UInt8)) trivial 7
 rw [show ekB 97 = .int .u8 97 from rfl, show evN 7 = .int .i64 7 from rfl] at u4
 have B4 : Below w.heap.size w w4 := ⟨G4.os.trans B3.os, G4.tape.trans B3.tape, G4.output.trans B3.output, Nat.le_trans B3.size G4.size, fun k hk => (G4.block k (Nat.lt_of_lt_of_le hk B3.size) (fun e => by cases e; omega)).trans (B3.block k hk)⟩
 clear M3 G4 B3
 obtain ⟨w5, u5, M5, G5, -⟩ := MapAt.update (P := Tryz.prog) (t := 140) byteKE Tryz.underlying140 M4 (fun _ _ => trivial) (k := (98 : UInt8)) trivial 8
 rw [show ekB 98 = .int .u8 98 from rfl, show evN 8 = .int .i64 8 from rfl] at u5
 have B5 : Below w.heap.size w w5 := ⟨G5.os.trans B4.os, G5.tape.trans B4.tape, G5.output.trans B4.output, Nat.le_trans B4.size G5.size, fun k hk => (G5.block k (Nat.lt_of_lt_of_le hk B4.size) (fun e => by cases e; omega)).trans (B4.block k hk)⟩
 clear M4 G5 B4
 obtain ⟨w6, u6, M6, G6, -⟩ := MapAt.update (P := Tryz.prog) (t := 140) byteKE Tryz.underlying140 M5 (fun _ _ => trivial) (k := (102 : UInt8)) trivial 12
 rw [show ekB 102 = .int .u8 102 from rfl, show evN 12 = .int .i64 12 from rfl] at u6
 have B6 : Below w.heap.size w w6 := ⟨G6.os.trans B5.os, G6.tape.trans B5.tape, G6.output.trans B5.output, Nat.le_trans B5.size G6.size, fun k hk => (G6.block k (Nat.lt_of_lt_of_le hk B5.size) (fun e => by cases e; omega)).trans (B5.block k hk)⟩
 clear M5 G6 B5
 obtain ⟨w7, u7, M7, G7, -⟩ := MapAt.update (P := Tryz.prog) (t := 140) byteKE Tryz.underlying140 M6 (fun _ _ => trivial) (k := (118 : UInt8)) trivial 11
 rw [show ekB 118 = .int .u8 118 from rfl, show evN 11 = .int .i64 11 from rfl] at u7
 have B7 : Below w.heap.size w w7 := ⟨G7.os.trans B6.os, G7.tape.trans B6.tape, G7.output.trans B6.output, Nat.le_trans B6.size G7.size, fun k hk => (G7.block k (Nat.lt_of_lt_of_le hk B6.size) (fun e => by cases e; omega)).trans (B6.block k hk)⟩
 clear M6 G7 B6
 obtain ⟨w8, u8, M8, G8, -⟩ := MapAt.update (P := Tryz.prog) (t := 140) byteKE Tryz.underlying140 M7 (fun _ _ => trivial) (k := (92 : UInt8)) trivial 92
 rw [show ekB 92 = .int .u8 92 from rfl, show evN 92 = .int .i64 92 from rfl] at u8
 have B8 : Below w.heap.size w w8 := ⟨G8.os.trans B7.os, G8.tape.trans B7.tape, G8.output.trans B7.output, Nat.le_trans B7.size G8.size, fun k hk => (G8.block k (Nat.lt_of_lt_of_le hk B7.size) (fun e => by cases e; omega)).trans (B7.block k hk)⟩
 clear M7 G8 B7
 obtain ⟨w9, u9, M9, G9, -⟩ := MapAt.update (P := Tryz.prog) (t := 140) byteKE Tryz.underlying140 M8 (fun _ _ => trivial) (k := (39 : UInt8)) trivial 39
 rw [show ekB 39 = .int .u8 39 from rfl, show evN 39 = .int .i64 39 from rfl] at u9
 have B9 : Below w.heap.size w w9 := ⟨G9.os.trans B8.os, G9.tape.trans B8.tape, G9.output.trans B8.output, Nat.le_trans B8.size G9.size, fun k hk => (G9.block k (Nat.lt_of_lt_of_le hk B8.size) (fun e => by cases e; omega)).trans (B8.block k hk)⟩
 clear M8 G9 B8
 obtain ⟨w10, u10, M10, G10, -⟩ := MapAt.update (P := Tryz.prog) (t := 140) byteKE Tryz.underlying140 M9 (fun _ _ => trivial) (k := (34 : UInt8)) trivial 34
 rw [show ekB 34 = .int .u8 34 from rfl, show evN 34 = .int .i64 34 from rfl] at u10
 have B10 : Below w.heap.size w w10 := ⟨G10.os.trans B9.os, G10.tape.trans B9.tape, G10.output.trans B9.output, Nat.le_trans B9.size G10.size, fun k hk => (G10.block k (Nat.lt_of_lt_of_le hk B9.size) (fun e => by cases e; omega)).trans (B9.block k hk)⟩
 clear M9 G10 B9
 obtain ⟨w11, u11, M11, G11, -⟩ := MapAt.update (P := Tryz.prog) (t := 140) byteKE Tryz.underlying140 M10 (fun _ _ => trivial) (k := (96 : UInt8)) trivial 96
 rw [show ekB 96 = .int .u8 96 from rfl, show evN 96 = .int .i64 96 from rfl] at u11
 have B11 : Below w.heap.size w w11 := ⟨G11.os.trans B10.os, G11.tape.trans B10.tape, G11.output.trans B10.output, Nat.le_trans B10.size G11.size, fun k hk => (G11.block k (Nat.lt_of_lt_of_le hk B10.size) (fun e => by cases e; omega)).trans (B10.block k hk)⟩
 clear M10 G11 B10
 have HM := Lib.hid M11
 have HB := Lib.hid B11
 clear M11 B11
 go_enter Tryz.func75, Tryz.ntmps75
 go_wp2_with fail
 go_ret
 exact ⟨_, rfl, HM.out, Nat.le_refl _, HB.out⟩
set_option maxHeartbeats 400000 in
theorem octal_any (w : World) (c : UInt8) : Calls Tryz.prog 99 #[.int .u8 (c.toNat : Int)] w fun e w' => e = .returned (.bool (isOct c)) ∧ w = w' := by
 unfold isOct
 have hc := c.toNat_lt
 generalize c.toNat = n at *
 have hn : (n : Int) < 256 := by omega
 by_cases h1 : 48 ≤ n
 ·by_cases h2 : n ≤ 55
  ·have a1 : 48 ≤ (n : Int) := by omega
   have a2 : (n : Int) ≤ 55 := by omega
   rw [decide_eq_true ⟨h1, h2⟩]
   clear h1 h2
   go_enter Tryz.func99, Tryz.ntmps99
   go_wp2_with fail
   go_ret
   exact ⟨rfl, rfl⟩
  ·have a1 : 48 ≤ (n : Int) := by omega
   have a2 : 55 < (n : Int) := by omega
   rw [decide_eq_false (fun h => h2 h.2)]
   clear h1 h2
   go_enter Tryz.func99, Tryz.ntmps99
   go_wp2_with fail
   go_ret
   exact ⟨ret_b (decide_eq_false (by omega)), rfl⟩
 ·have a1 : (n : Int) < 48 := by omega
  rw [decide_eq_false (fun h => h1 h.1)]
  clear h1
  go_enter Tryz.func99, Tryz.ntmps99
  go_wp2_with fail
  go_ret
  exact ⟨rfl, rfl⟩
theorem esc_some {u : World} {bm : Nat} (h : MapAt u bm ekB evN escL) (c : UInt8) (n : Nat) (hg : escKnown c = some n) :
    (Instr.lookup 140 (.map (some bm)) (.int .u8 (c.toNat : Int)) true).run Tryz.prog u = .ok (.tuple #[.int .i64 (n : Int), .bool true]) u := by
 have := h.lookup (t := 140) byteKE Tryz.underlying140 (z := .int .i64 0) (fun u => by kernel_rfl) (fun _ _ => trivial) (k := c) trivial true
 rw [show ekB c = .int .u8 (c.toNat : Int) from rfl, escL_get, hg] at this
 exact this
theorem esc_none {u : World} {bm : Nat} (h : MapAt u bm ekB evN escL) (c : UInt8) (hg : escKnown c = none) :
    (Instr.lookup 140 (.map (some bm)) (.int .u8 (c.toNat : Int)) true).run Tryz.prog u = .ok (.tuple #[.int .i64 0, .bool false]) u := by
 have := h.lookup (t := 140) byteKE Tryz.underlying140 (z := .int .i64 0) (fun u => by kernel_rfl) (fun _ _ => trivial) (k := c) trivial true
 rw [show ekB c = .int .u8 (c.toNat : Int) from rfl, escL_get, hg] at this
 exact this
theorem byte_eq {c d : UInt8} (h : c = d) : ((c.toNat : Int) == (d.toNat : Int)) = true := by rw [h]; simp
theorem slice_end (l : List UInt8) (k : Nat) : (⟨l.toArray⟩ : ByteArray).extract k l.length = ⟨(l.drop k).toArray⟩ := by
 apply ByteArray.ext
 rw [ByteArray.data_extract]
 apply Array.ext'
 rw [Array.toList_extract]
 simp only [List.extract]
 rw [List.take_of_length_le (by simp)]
theorem slice_mid (l : List UInt8) (a b : Nat) : (⟨l.toArray⟩ : ByteArray).extract a b = ⟨((l.drop a).take (b - a)).toArray⟩ := by
 apply ByteArray.ext
 rw [ByteArray.data_extract]
 apply Array.ext'
 rw [Array.toList_extract]
set_option maxHeartbeats 2000000 in
theorem escape_any (w : World) (l : List UInt8) (c : UInt8) (r : List UInt8) (hl : l = c :: r) (bm : Nat) (hM : MapAt w bm ekB evN escL) (hn : (l.length : Int) ≤ 9223372036854775000) :
    Calls Tryz.prog 76 #[.string ⟨l.toArray⟩, .map (some bm)] w fun e w' =>
     e = .returned (.tuple #[.int .i64 ((escapeF l).1 : Int), .int .i64 ((escapeF l).2.1 : Int), .bool (escapeF l).2.2]) ∧ w = w' := by
 have hlen : 0 < l.length := by rw [hl]; simp
 have hx : (⟨l.toArray⟩ : ByteArray)[0]'(by show 0 < l.toArray.size; simpa using hlen) = c := by subst hl; rfl
 have HT := Lib.hid (show l.tail = r by rw [hl]; rfl)
 have hrl : (r.length : Int) + 1 = l.length := by rw [hl]; simp
 have HRL := Lib.hid hrl
 have hrl1 : (r.length : Int) ≤ 9223372036854775000 := by omega
 have HL := Lib.hid hl
 generalize hE : escapeF l = E
 have HE := Lib.hid hE
 clear hl hE hrl
 cases hg : escKnown c with
 | some n =>
  have hk := esc_some hM c n hg
  have hE := HE.out
  rw [HL.out, escapeF, hg] at hE
  have HE2 := Lib.hid hE
  clear hE hg HE hM
  go_enter Tryz.func76, Tryz.ntmps76
  go_wp2_with fail
  go_ret3
  rw [← HE2.out]
  exact ⟨rfl, rfl⟩
 | none =>
  have hk := esc_none hM c hg
  have hE := HE.out
  rw [HL.out, escapeF, hg] at hE
  simp only at hE
  have HE2 := Lib.hid hE
  clear hE hg HE hM
  by_cases h1 : c = 120
  ·have t1 : ((c.toNat : Int) == 120) = true := byte_eq h1
   have hE := HE2.out
   rw [if_pos h1] at hE
   have HE3 := Lib.hid hE
   have hs : (⟨l.toArray⟩ : ByteArray).extract 1 l.length = ⟨r.toArray⟩ := by rw [slice_end, List.drop_one, HT.out]
   have hcb : (codedF 16 r 0 0).2.1 ≤ r.length := codedF_le 16 r
   clear h1 hE HE2
   go_enter Tryz.func76, Tryz.ntmps76
   go_wp2_with fail
   refine (coded_lit _ r 16 (.inr rfl) hrl1).mono ?_
   rintro e w' ⟨rfl, rfl⟩
   simp only [Int.reduceToNat]
   generalize codedF 16 r 0 0 = R at *
   obtain ⟨x, k, o⟩ := R
   simp only at HE3 hcb ⊢
   have hcb' : (k : Int) ≤ 9223372036854775000 := by omega
   go_wp2_with fail
   go_ret3
   rw [← HE3.out]
   exact ⟨by simp, rfl⟩
  ·have t1 : ((c.toNat : Int) == 120) = false := byte_ne h1
   have hE := HE2.out
   rw [if_neg h1] at hE
   have HE3 := Lib.hid hE
   clear h1 hE HE2
   by_cases h2 : c = 48
   ·have t2 : ((c.toNat : Int) == 48) = true := byte_eq h2
    have ho : isOct c = true := by rw [h2]; decide
    have hE := HE3.out
    rw [if_pos ho] at hE
    by_cases h3 : (l.length : Int) = 1
    ·have t3 : ((l.length : Int) == 1) = true := by rw [h3]; rfl
     rw [if_pos ⟨h2, .inl (List.eq_nil_of_length_eq_zero (by have := HRL.out; omega))⟩] at hE
     have HE4 := Lib.hid hE
     clear h2 hE HE3 h3
     go_enter Tryz.func76, Tryz.ntmps76
     go_wp2_with (first | (go_at_call 99; refine (octal_any _ _).mono ?_; rintro e w' ⟨rfl, rfl⟩) | (go_at_call 100; refine (coded_lit _ l 8 (.inl rfl) hn).mono ?_; rintro e w' ⟨rfl, rfl⟩))
     go_ret3
     rw [← HE4.out]
     exact ⟨rfl, rfl⟩
    ·have t3 : ((l.length : Int) == 1) = false := beq_eq_false_iff_ne.2 h3
     have h1l : 1 < l.length := by omega
     obtain ⟨d, hd, hx1, -⟩ := byte_at l 1 h1l
     have hrd : r.headD 0 = d := by
      have := HT.out
      rw [← List.drop_one, hd] at this
      rw [← this]
      rfl
     have hrn : r ≠ [] := by rintro rfl; have := HRL.out; simp at this; omega
     rw [hrd, ← HL.out] at hE
     have HE4 := Lib.hid hE
     clear hE HE3 h3 hd hrd
     cases hod : isOct d
     ·by_cases h92 : d = 92
      ·have t4 : ((d.toNat : Int) == 92) = true := byte_eq h92
       have t4' : ((d.toNat : Int) != 92) = false := by rw [bne, t4]; rfl
       have hE := HE4.out
       rw [if_neg (by rw [h92]; simp [hrn])] at hE
       have HE5 := Lib.hid hE
       clear hE HE4 h92 hrn h2 HL
       go_enter Tryz.func76, Tryz.ntmps76
       go_wp2_with (first | (go_at_call 99; refine (octal_any _ _).mono ?_; rintro e w' ⟨rfl, rfl⟩) | (go_at_call 100; refine (coded_lit _ l 8 (.inl rfl) hn).mono ?_; rintro e w' ⟨rfl, rfl⟩))
       go_ret3
       rw [← HE5.out]
       exact ⟨rfl, rfl⟩
      ·have t4 : ((d.toNat : Int) == 92) = false := byte_ne h92
       have t4' : ((d.toNat : Int) != 92) = true := by rw [bne, t4]; rfl
       have hE := HE4.out
       rw [if_pos ⟨h2, .inr ⟨hod, h92⟩⟩] at hE
       have HE5 := Lib.hid hE
       clear hE HE4 h92 hrn h2 HL
       go_enter Tryz.func76, Tryz.ntmps76
       go_wp2_with (first | (go_at_call 99; refine (octal_any _ _).mono ?_; rintro e w' ⟨rfl, rfl⟩) | (go_at_call 100; refine (coded_lit _ l 8 (.inl rfl) hn).mono ?_; rintro e w' ⟨rfl, rfl⟩))
       go_ret3
       rw [← HE5.out]
       exact ⟨rfl, rfl⟩
     ·have hE := HE4.out
      rw [if_neg (by rw [hod]; simp [hrn])] at hE
      have HE5 := Lib.hid hE
      clear hE HE4 hrn h2 HL
      go_enter Tryz.func76, Tryz.ntmps76
      go_wp2_with (first | (go_at_call 99; refine (octal_any _ _).mono ?_; rintro e w' ⟨rfl, rfl⟩) | (go_at_call 100; refine (coded_lit _ l 8 (.inl rfl) hn).mono ?_; rintro e w' ⟨rfl, rfl⟩))
      go_ret3
      rw [← HE5.out]
      exact ⟨rfl, rfl⟩
   ·have t2 : ((c.toNat : Int) == 48) = false := byte_ne h2
    have hE := HE3.out
    rw [if_neg (fun h => h2 h.1), ← HL.out] at hE
    cases ho : isOct c
    ·rw [if_neg (by rw [ho]; simp)] at hE
     have HE4 := Lib.hid hE
     clear hE HE3 h2 HL
     go_enter Tryz.func76, Tryz.ntmps76
     go_wp2_with (first | (go_at_call 99; refine (octal_any _ _).mono ?_; rintro e w' ⟨rfl, rfl⟩) | (go_at_call 100; refine (coded_lit _ l 8 (.inl rfl) hn).mono ?_; rintro e w' ⟨rfl, rfl⟩))
     go_ret3
     rw [← HE4.out]
     exact ⟨rfl, rfl⟩
    ·rw [if_pos ho] at hE
     have HE4 := Lib.hid hE
     clear hE HE3 h2 HL
     go_enter Tryz.func76, Tryz.ntmps76
     go_wp2_with (first | (go_at_call 99; refine (octal_any _ _).mono ?_; rintro e w' ⟨rfl, rfl⟩) | (go_at_call 100; refine (coded_lit _ l 8 (.inl rfl) hn).mono ?_; rintro e w' ⟨rfl, rfl⟩))
     go_ret3
     rw [← HE4.out]
     exact ⟨rfl, rfl⟩
def encBy (c : UInt8) : List Value := [.int .u8 (c.toNat : Int)]
theorem encB_len (c : UInt8) : (encBy c).length = 1 := rfl
theorem encBy_one (c : UInt8) : ∀ u ∈ encBy c, u.oneCell' = true := by
 intro u hu
 simp only [encBy, List.mem_singleton] at hu
 subst hu
 rfl
theorem byte_info : ∃ i z, Tryz.prog.info? 5 = some i ∧ i.zero = some z ∧ i.size = 1 ∧ i.bytes = 1 ∧ z.cells.size = 1 := by
 refine ⟨_, _, rfl, rfl, ?_, ?_, ?_⟩ <;> kernel_rfl
theorem Row.string {P : Program} {w : World} {B : Nat} {src dst e : TypeId} (hs : P.underlying src = some (.slice e)) (he : P.underlying e = some (.int .u8)) (hd : P.underlying dst = some .string)
    {v : Value} {l : List UInt8} (h : Row w B e 1 encBy v l) : (convert src dst v).run P w = .ok (.string ⟨l.toArray⟩) w := by
 rcases Classical.em (l = []) with rfl | hne
 ·obtain ⟨A, cap, rfl⟩ := h.shape
  cases A with
  | none => exact run_convert_bytes_nil w src e hs he _ _ dst hd
  | some a => exact run_convert_bytes_back w src dst e a cap [] hs he hd (fun j hj => by simp at hj)
 ·obtain ⟨g, cap, rfl, _, _, _, hc⟩ := h.cells encB_len hne
  refine run_convert_bytes_back w src dst e _ cap l hs he hd (fun j hj => ?_)
  have := (hc j l[j] (List.getElem?_eq_getElem hj) 0 _ rfl).1
  have hplain : (⟨g, 0, none⟩ : Addr).add j = ⟨g, j, none⟩ := by unfold Addr.add; split <;> simp_all
  rw [hplain]
  simpa using this
theorem cell_alloc1 (w : World) (cs : Array Value) (t : TypeId) (i : Nat) (u : Value) (h : cs[i]? = some u) : (w.alloc (.cells cs t)).cell? ⟨w.heap.size, i, none⟩ = some u := by
 rw [World.cell?_alloc_at _ _ _ _ rfl]
 exact h
def getRes : Option (List UInt8 × Nat) → Value
 | some (t, n) => .tuple #[.string ⟨t.toArray⟩, .int .i64 (n : Int), .int .i64 0]
 | none => .tuple #[.string ⟨[].toArray⟩, .int .i64 0, .int .i64 5]
theorem getF_nil (q : UInt8) (f i : Nat) (b : List UInt8) : getF q f [] i b = none := by cases f <;> rfl
theorem coded_bd : ∀ (base : Nat) (l : List UInt8) (n i : Nat), n ≤ 255 → (codedF base l n i).1 ≤ 255 := by
 intro base l
 induction l with
 | nil => intro n i _; exact Nat.zero_le _
 | cons c r ih =>
  intro n i hn
  unfold codedF
  split
  ·exact hn
  ·split
   ·exact Nat.zero_le _
   ·split
    ·exact Nat.zero_le _
    ·exact ih _ _ (by omega)
theorem known_bd (c : UInt8) (n : Nat) (h : escKnown c = some n) : n ≤ 255 := by
 unfold escKnown at h
 (repeat' split at h) <;> first | (simp only [Option.some.injEq] at h; omega) | (cases h)
theorem escapeF_bd (r : List UInt8) : (escapeF r).1 ≤ 255 ∧ (escapeF r).2.1 ≤ r.length := by
 cases r with
 | nil => exact ⟨Nat.zero_le _, Nat.zero_le _⟩
 | cons c r =>
  have hb := coded_bd 16 r 0 0 (by omega)
  have hb2 := coded_bd 8 (c :: r) 0 0 (by omega)
  have hl := codedF_le 16 r
  have hl2 := codedF_le 8 (c :: r)
  cases h : escKnown c with
  | some n =>
   have e : escapeF (c :: r) = (n, 1, true) := by simp only [escapeF, h]
   rw [e]
   exact ⟨known_bd c n h, by simp⟩
  | none =>
   have e : escapeF (c :: r) = if c = 120 then ((codedF 16 r 0 0).1, (codedF 16 r 0 0).2.1 + 1, (codedF 16 r 0 0).2.2)
       else if c = 48 ∧ (r = [] ∨ (isOct (r.headD 0) = false ∧ r.headD 0 ≠ 92)) then (0, 1, true)
       else if isOct c then codedF 8 (c :: r) 0 0 else (0, 0, false) := by rw [escapeF, h]
   rw [e]
   by_cases h1 : c = 120
   ·rw [if_pos h1]
    simp only [List.length_cons]
    omega
   rw [if_neg h1]
   by_cases h2 : c = 48 ∧ (r = [] ∨ (isOct (r.headD 0) = false ∧ r.headD 0 ≠ 92))
   ·rw [if_pos h2]
    simp only [List.length_cons]
    omega
   rw [if_neg h2]
   by_cases h3 : isOct c = true
   ·rw [if_pos h3]
    exact ⟨hb2, hl2⟩
   ·rw [if_neg h3]
    exact ⟨Nat.zero_le _, Nat.zero_le _⟩
section
variable {q c : UInt8} {f i k : Nat} {l r b : List UInt8}
theorem getF_close (hf : r.length < f) (h : r.head? ≠ some c) : getF c f (c :: r) i b = some (b, i + 1) := by rw [getQ_step _ _ _ _ _ _ hf, if_pos rfl, if_neg h]
theorem getF_twice (hf : r.length < f) (h : r.head? = some c) : getF c f (c :: r) i b = getF c f r.tail (i + 2) (b ++ [c]) := by rw [getQ_step _ _ _ _ _ _ hf, if_pos rfl, if_pos h]
theorem getF_ten (hf : r.length < f) (h : (10 : UInt8) ≠ q) : getF q f (10 :: r) i b = none := by rw [getQ_step _ _ _ _ _ _ hf, if_neg h, if_pos rfl]
theorem getF_plain (hf : r.length < f) (h : c ≠ q) (h2 : c ≠ 10) (h3 : c ≠ 92) : getF q f (c :: r) i b = getF q f r (i + 1) (b ++ [c]) := by rw [getQ_step _ _ _ _ _ _ hf, if_neg h, if_neg h2, if_pos h3]
theorem getF_slash (hf : r.length < f) (h : (92 : UInt8) ≠ q) : getF q f (92 :: r) i b = if r = [] then none else if r.head? = some 10 then getF q f r.tail (i + 2) b
    else if (escapeF r).2.2 then getF q f (r.drop (escapeF r).2.1) (i + 1 + (escapeF r).2.1) (b ++ [UInt8.ofNat (escapeF r).1]) else none := by
 rw [getQ_step _ _ _ _ _ _ hf, if_neg h, if_neg (by decide), if_neg (by decide)]
theorem head_drop (l : List UInt8) (k : Nat) : (l.drop k).head? = l[k]? := by rw [List.head?_drop]
end
structure GetInv (w1 : World) (q : UInt8) (l : List UInt8) (R : Option (List UInt8 × Nat)) (bm : Nat) (k : Nat) (v : Value) (acc : List UInt8) (wr : World) : Prop where
 row : Row wr w1.heap.size 5 1 encBy v acc
 below : Below w1.heap.size w1 wr
 map : MapAt wr bm ekB evN escL
 acc_le : acc.length ≤ k
 ans : getF q l.length (l.drop k) k acc = R
theorem GetInv.step {w1 : World} {q : UInt8} {l : List UInt8} {R : Option (List UInt8 × Nat)} {bm k k' : Nat} {v v' : Value} {acc : List UInt8} {wr w' : World} {c : UInt8} {o : Obj} (h : GetInv w1 q l R bm k v acc wr) (hbm : bm < w1.heap.size)
    (hr : Row w' w1.heap.size 5 1 encBy v' (acc ++ [c])) (hg : (wr.alloc o).grownBy w' v.ownBlock) (hk : k < k') (ha : getF q l.length (l.drop k') k' (acc ++ [c]) = R) : GetInv w1 q l R bm k' v' (acc ++ [c]) w' := by
 have hs := h.below.size
 have hlow : ∀ g, v.ownBlock = some g → w1.heap.size ≤ g := fun g e => (h.row.lt g e).1
 have hb : Below w1.heap.size w1 w' := by
  refine ⟨hg.os.trans h.below.os, hg.tape.trans h.below.tape, hg.output.trans h.below.output, ?_, fun j hj => ?_⟩
  ·have := hg.size
   simp at this
   omega
  ·rw [hg.block j (by simp; omega) (fun e => by have := hlow j e.symm; omega), Below.heap_alloc _ _ j (by omega)]
   exact h.below.block j hj
 refine ⟨hr, hb, ?_, ?_, ha⟩
 ·exact h.map.keep (by rw [hb.block bm hbm, h.below.block bm hbm])
 ·have := h.acc_le
  rw [List.length_append]
  simp
  omega
set_option maxHeartbeats 4000000 in
theorem get_any (w : World) (l : List UInt8) (q : UInt8) (qi : Int) (hq : qi = (q.toNat : Int)) (hn : (l.length : Int) ≤ 1000000) :
    Calls Tryz.prog 47 #[.string ⟨l.toArray⟩, .int .u8 qi] w fun e w' => e = .returned (getRes (getQ q l)) ∧ Below w.heap.size w w' := by
 subst hq
 generalize hR : getQ q l = R
 have HR := Lib.hid hR
 clear hR
 obtain ⟨i, z, hi, hz, hsi, hby, hzs⟩ := byte_info
 go_enter Tryz.func47, Tryz.ntmps47
 go_wp2_with fail
 refine (escapes_any w).mono ?_
 rintro e w1 ⟨bm, rfl, hM, hbm, hb1⟩
 have hbm1 := hM.lt
 have HI0 : Hid (GetInv w1 q l R bm 0 (.slice none 0 0) [] w1) := ⟨Row.nil _ _ _ _ _, Below.refl _ _, hM, Nat.zero_le _, HR.out⟩
 have HB1 := Lib.hid hb1
 clear hM hb1 HR
 go_wp2_with fail
 go_loopw [7, 9] (fun v i wr => ∃ (k : Nat) (acc : List UInt8), k ≤ l.length ∧ i = .int .i64 k ∧ GetInv w1 q l R bm k v acc wr) (fun _ i _ => l.length - (intOf i).toNat)
 case atStart => exact ⟨0, [], Nat.zero_le _, rfl, HI0.out⟩
 case round =>
  obtain ⟨k, acc, hk, rfl, hI⟩ := hrel
  have hacc := hI.acc_le
  have hwr := hI.below.size
  have HI := Lib.hid hI
  clear hI HI0
  by_cases hlt : k < l.length
  ·obtain ⟨c, hd, hx, -⟩ := byte_at l k hlt
   have hlt' : (k : Int) < (l.length : Int) := by omega
   have hf : (l.drop (k + 1)).length < l.length := by rw [List.length_drop]; omega
   have ha := HI.out.ans
   rw [hd] at ha
   have HA := Lib.hid ha
   have hhd := head_drop l (k + 1)
   have HHD := Lib.hid hhd
   clear ha hd hhd
   by_cases h1 : c = q
   ·subst h1
    by_cases h2 : (k : Int) + 1 = l.length
    ·have t2 : ((k : Int) + 1 == (l.length : Int)) = true := by rw [h2]; simp
     have hst := HI.out.row.string (P := Tryz.prog) (dst := 9) Tryz.underlying139 Tryz.underlying5 Tryz.underlying9
     have ha := HA.out
     rw [getF_close hf (by rw [HHD.out, List.getElem?_eq_none (by omega)]; simp)] at ha
     have HA2 := Lib.hid ha
     clear ha HA h2 HHD
     go_wp2_with fail
     go_ret3
     rw [← HA2.out]
     exact ⟨by simp [getRes], HB1.out.trans (HI.out.below.mono HB1.out.size)⟩
    ·have t2 : ((k : Int) + 1 == (l.length : Int)) = false := beq_eq_false_iff_ne.2 h2
     have hlt2 : k + 1 < l.length := by omega
     have hlt2' : (k : Int) + 1 < (l.length : Int) := by omega
     obtain ⟨d, hd1, hx1, hg1⟩ := byte_at l (k + 1) hlt2
     rw [hg1] at HHD
     have HD1 := Lib.hid hd1
     clear hd1 hg1 h2
     by_cases h3 : d = c
     ·subst h3
      have t3 : ((d.toNat : Int) != (d.toNat : Int)) = false := by simp
      have ha := HA.out
      rw [getF_twice hf HHD.out, List.tail_drop] at ha
      have HA1 := Lib.hid ha
      clear ha HA HHD HD1
      go_wp2_with (at_builtin; refine wpList_row rfl _ _ 139 rfl _ w1.heap.size 5 i z 1 1 encBy Tryz.underlying139 hi hz hsi hby hzs (by decide) encB_len encBy_one _ acc d rfl (HI.out.row.alloc _) _ _ rfl (fun j u hu => cell_alloc1 _ _ _ j u (by simpa [encBy] using hu)) (by unfold maxLen; omega) (by omega) (Nat.le_trans hwr (by simp)) ?_)
      intro v' w5 hrow5 hg5
      have HI5 := Lib.hid (HI.out.step (c := d) (k' := k + 2) hbm1 hrow5 hg5 (by omega) HA1.out)
      clear hrow5 hg5
      go_wp2_with fail
      go_roundw
      case rel => exact ⟨k + 2, _, by omega, by go_num, HI5.out⟩
      case measure => simp [intOf]; omega
     ·have t3 : ((d.toNat : Int) == (c.toNat : Int)) = false := byte_ne h3
      have t3' : ((d.toNat : Int) != (c.toNat : Int)) = true := by rw [bne, t3]; rfl
      have hst := HI.out.row.string (P := Tryz.prog) (dst := 9) Tryz.underlying139 Tryz.underlying5 Tryz.underlying9
      have ha := HA.out
      rw [getF_close hf (by rw [HHD.out]; simpa using h3)] at ha
      have HA2 := Lib.hid ha
      clear ha HA HHD HD1 h3
      go_wp2_with fail
      go_ret3
      rw [← HA2.out]
      exact ⟨by simp [getRes], HB1.out.trans (HI.out.below.mono HB1.out.size)⟩
   ·have t1 : ((c.toNat : Int) == (q.toNat : Int)) = false := byte_ne h1
    by_cases h10 : c = 10
    ·subst h10
     have ha := HA.out
     rw [getF_ten hf h1] at ha
     have HA2 := Lib.hid ha
     have t1' : ((10 : Int) == (q.toNat : Int)) = false := t1
     clear ha HA h1 t1
     go_wp2_with fail
     go_ret3
     rw [← HA2.out]
     exact ⟨rfl, HB1.out.trans (HI.out.below.mono HB1.out.size)⟩
    have t10 : ((c.toNat : Int) == 10) = false := byte_ne h10
    by_cases h92 : c = 92
    ·subst h92
     have hq92 : ((92 : Int) == (q.toNat : Int)) = false := t1
     have ha := HA.out
     rw [getF_slash hf h1] at ha
     have HA' := Lib.hid ha
     clear ha HA h1 h10 t10 t1
     by_cases h2 : (k : Int) + 1 = l.length
     ·have t2 : ((k : Int) + 1 == (l.length : Int)) = true := by rw [h2]; simp
      have ha := HA'.out
      rw [if_pos (List.drop_eq_nil_of_le (by omega))] at ha
      have HA2 := Lib.hid ha
      clear ha HA' h2 HHD
      go_wp2_with fail
      go_ret3
      rw [← HA2.out]
      exact ⟨rfl, HB1.out.trans (HI.out.below.mono HB1.out.size)⟩
     have t2 : ((k : Int) + 1 == (l.length : Int)) = false := beq_eq_false_iff_ne.2 h2
     have hlt2 : k + 1 < l.length := by omega
     have hlt2' : (k : Int) + 1 < (l.length : Int) := by omega
     obtain ⟨d, hd1, hx1, hg1⟩ := byte_at l (k + 1) hlt2
     rw [hg1] at HHD
     have ha := HA'.out
     rw [if_neg (by rw [hd1]; simp), HHD.out, List.tail_drop] at ha
     have HA2 := Lib.hid ha
     have HD1 := Lib.hid hd1
     clear hd1 hg1 h2 ha HA' HHD
     by_cases h3 : d = 10
     ·have t3 : ((d.toNat : Int) == 10) = true := byte_eq h3
      have ha := HA2.out
      rw [if_pos (by rw [h3])] at ha
      have HI5 : Hid (GetInv w1 q l R bm (k + 2) _ acc wr) := ⟨HI.out.row, HI.out.below, HI.out.map, by omega, ha⟩
      clear ha HA2 h3
      go_wp2_with fail
      go_roundw
      case rel => exact ⟨k + 2, _, by omega, by go_num, HI5.out⟩
      case measure => simp [intOf]; omega
     ·have t3 : ((d.toNat : Int) == 10) = false := byte_ne h3
      have ha := HA2.out
      rw [if_neg (by simpa using h3)] at ha
      have HA3 := Lib.hid ha
      clear ha HA2 h3
      have hsl : (⟨l.toArray⟩ : ByteArray).extract (k + 1) l.length = ⟨(l.drop (k + 1)).toArray⟩ := slice_end l (k + 1)
      go_wp2_with fail
      refine (escape_any _ (l.drop (k + 1)) d _ HD1.out bm HI.out.map (by rw [List.length_drop]; omega)).mono ?_
      rintro e w' ⟨rfl, rfl⟩
      have hbd := escapeF_bd (l.drop (k + 1))
      rw [List.length_drop] at hbd
      rw [List.drop_drop] at HA3
      generalize escapeF (l.drop (k + 1)) = E at *
      obtain ⟨n, t, o⟩ := E
      simp only at HA3 hbd ⊢
      obtain ⟨hb1, hb2⟩ := hbd
      clear hsl HD1
      cases o
      ·have ha := HA3.out
       rw [if_neg (by simp)] at ha
       have HA4 := Lib.hid ha
       clear ha HA3
       go_wp2_with fail
       go_ret3
       rw [← HA4.out]
       exact ⟨rfl, HB1.out.trans (HI.out.below.mono HB1.out.size)⟩
      ·have ha := HA3.out
       rw [if_pos rfl] at ha
       have HA1 := Lib.hid ha
       clear ha HA3
       have hn8 : (n : Int) ≤ 255 := by omega
       have ht8 : (t : Int) ≤ 1000000 := by omega
       have hnb : (n : Int) = ((UInt8.ofNat n).toNat : Int) := by rw [UInt8.toNat_ofNat']; omega
       generalize UInt8.ofNat n = m at *
       have HNB := Lib.hid hnb
       clear hnb
       go_wp2_with (at_builtin; refine wpList_row rfl _ _ 139 rfl _ w1.heap.size 5 i z 1 1 encBy Tryz.underlying139 hi hz hsi hby hzs (by decide) encB_len encBy_one _ acc m rfl (HI.out.row.alloc _) _ _ rfl (fun j u hu => cell_alloc1 _ _ _ j u (by rw [HNB.out]; simpa [encBy] using hu)) (by unfold maxLen; omega) (by omega) (Nat.le_trans hwr (by simp)) ?_)
       intro v' w5 hrow5 hg5
       have HI5 := Lib.hid (HI.out.step (c := m) (k' := k + 1 + t) hbm1 hrow5 hg5 (by omega) HA1.out)
       clear hrow5 hg5
       go_wp2_with fail
       go_roundw
       case rel => exact ⟨k + 1 + t, _, by omega, by go_num, HI5.out⟩
       case measure => simp [intOf]; omega
    ·have t92 : ((c.toNat : Int) == 92) = false := byte_ne h92
     have t92' : ((c.toNat : Int) != 92) = true := by rw [bne, t92]; rfl
     have ha := HA.out
     rw [getF_plain hf h1 h10 h92] at ha
     have HA1 := Lib.hid ha
     clear ha HA h1 h10 h92 HHD
     go_wp2_with (at_builtin; refine wpList_row rfl _ _ 139 rfl _ w1.heap.size 5 i z 1 1 encBy Tryz.underlying139 hi hz hsi hby hzs (by decide) encB_len encBy_one _ acc c rfl (HI.out.row.alloc _) _ _ rfl (fun j u hu => cell_alloc1 _ _ _ j u (by simpa [encBy] using hu)) (by unfold maxLen; omega) (by omega) (Nat.le_trans hwr (by simp)) ?_)
     intro v' w5 hrow5 hg5
     have HI5 := Lib.hid (HI.out.step (c := c) (k' := k + 1) hbm1 hrow5 hg5 (by omega) HA1.out)
     clear hrow5 hg5
     go_wp2_with fail
     go_roundw
     case rel => exact ⟨k + 1, _, hlt, by go_num, HI5.out⟩
     case measure => simp [intOf]; omega
  ·have hkn : k = l.length := by omega
   have ha := HI.out.ans
   rw [List.drop_eq_nil_of_le (by omega), getF_nil] at ha
   have HA := Lib.hid ha
   clear ha hkn
   go_wp2_with fail
   go_ret3
   rw [← HA.out]
   exact ⟨rfl, HB1.out.trans (HI.out.below.mono HB1.out.size)⟩
end Go.Proofs.YtiffopheamnngaaGreatDoor
namespace Go.Proofs.YtiffopheamnngaaGreatDoor
open Go.RowKit
set_option maxRecDepth 100000
def tokV (t : TokIs) : Value := .agg #[.int .i64 t.kind, .int .i64 0, .int .i64 t.n, .string ⟨t.s.toArray⟩, .bool false, .bool false]
def tryV : Option (Option TokIs) → Value
 | none => .tuple #[tokV ⟨0, 0, [], 0⟩, .int .i64 0, .int .i64 0]
 | some none => .tuple #[tokV ⟨0, 0, [], 0⟩, .int .i64 0, .int .i64 5]
 | some (some t) => .tuple #[tokV t, .int .i64 (t.len : Int), .int .i64 0]
set_option maxHeartbeats 1000000 in
theorem word_any (w : World) (l : List UInt8) (hl : (l.length : Int) ≤ 1000000) : Calls Tryz.prog 44 #[.string ⟨l.toArray⟩] w fun e w' => e = .returned (.int .i64 (spanN isWord l : Int)) ∧ w = w' := by
 go_enter Tryz.func44, Tryz.ntmps44
 go_wp2_with fail
 go_loop [3] (fun i => ∃ k : Nat, k ≤ l.length ∧ i = .int .i64 k ∧ k ≤ spanN isWord l) (fun i => l.length - (intOf i).toNat)
 case atStart => exact ⟨0, Nat.zero_le _, rfl, Nat.zero_le _⟩
 case round =>
  obtain ⟨k, hk, rfl, hks⟩ := hrel
  have hsp := spanN_le isWord l
  have hgo := spanN_go isWord l k hks
  have HGO := Lib.hid hgo
  clear hgo
  by_cases hlt : k < l.length
  ·obtain ⟨c, hd, hx, hg⟩ := byte_at l k hlt
   have HG := Lib.hid hg
   have hlt' : (k : Int) < (l.length : Int) := by omega
   clear hd hg
   cases hw : isWord c
   ·have hn : ¬ (bsort c = 2 ∨ bsort c = 3 ∨ bsort c = 4) := by simpa [isWord] using hw
    have t2 : (bsort c != 2) = true := by rw [bne_iff_ne]; exact fun e => hn (.inl e)
    have t3 : (bsort c != 3) = true := by rw [bne_iff_ne]; exact fun e => hn (.inr (.inl e))
    have t4 : (bsort c != 4) = true := by rw [bne_iff_ne]; exact fun e => hn (.inr (.inr e))
    have he : k = spanN isWord l := by
     have h2 := HGO.out.1
     rcases Nat.lt_or_ge k (spanN isWord l) with h | h
     ·obtain ⟨c', h3, h4⟩ := h2 h
      rw [HG.out] at h3
      cases h3
      rw [hw] at h4
      cases h4
     ·omega
    have HE := Lib.hid he
    clear hn he hw
    go_wp2_with fail
    refine (sort_byte _ c).mono ?_
    rintro e w' ⟨rfl, rfl⟩
    go_wp2_with fail
    go_ret
    exact ⟨ret_i (by have := HE.out; omega), rfl⟩
   ·have hn : bsort c = 2 ∨ bsort c = 3 ∨ bsort c = 4 := by simpa [isWord] using hw
    have hks' : k < spanN isWord l := HGO.out.2 ⟨c, HG.out, hw⟩
    clear hw
    rcases hn with hn | hn | hn
    all_goals
     go_wp2_with fail
     refine (sort_byte _ c).mono ?_
     rintro e w' ⟨rfl, rfl⟩
     go_wp2_with fail
     go_round
     case rel => exact ⟨k + 1, hlt, by go_num, hks'⟩
     case measure => simp [intOf]; omega
  ·have hkn : k = spanN isWord l := by omega
   have HE := Lib.hid hkn
   clear hkn
   go_wp2_with fail
   go_ret
   exact ⟨ret_i (by have := HE.out; omega), rfl⟩
set_option maxHeartbeats 1000000 in
theorem tokpunct_any (w : World) (xv : Value) (l : List UInt8) (c : UInt8) (r : List UInt8) (hlc : l = c :: r) (hl : (l.length : Int) ≤ 1000000) :
    Calls Tryz.prog 23 #[xv, .string ⟨l.toArray⟩] w fun e w' => e = .returned (tryV (if bsort c = 7 then some (some ⟨6, 0, [c], 1⟩) else none)) ∧ Below w.heap.size w w' := by
 have hlen : 0 < l.length := by rw [hlc]; simp
 have hx : (⟨l.toArray⟩ : ByteArray)[0]'(by show 0 < l.toArray.size; simpa using hlen) = c := by subst hlc; rfl
 have hs : (⟨l.toArray⟩ : ByteArray).extract 0 1 = ⟨[c].toArray⟩ := by rw [slice_mid, hlc]; rfl
 clear hlc
 by_cases h7 : bsort c = 7
 ·rw [if_pos h7]
  go_enter Tryz.func23, Tryz.ntmps23
  go_wp2_with fail
  refine (sort_byte _ c).mono ?_
  rintro e w' ⟨rfl, rfl⟩
  go_wp2_with fail
  refine bodyPost_ret (v := tryV (some (some ⟨6, 0, [c], 1⟩))) (by simp [results, Tryz.results23, go_sem, tryV, tokV]) rfl ⟨rfl, (Below.refl _ _).alloc (Nat.le_refl _) _⟩
 ·rw [if_neg h7]
  have t7 : (bsort c != 7) = true := by rw [bne_iff_ne]; exact h7
  clear h7
  go_enter Tryz.func23, Tryz.ntmps23
  go_wp2_with fail
  refine (sort_byte _ c).mono ?_
  rintro e w' ⟨rfl, rfl⟩
  go_wp2_with fail
  refine bodyPost_ret (v := tryV none) (by simp [results, Tryz.results23, go_sem, tryV, tokV]) rfl ⟨rfl, (Below.refl _ _).alloc (Nat.le_refl _) _⟩
set_option maxHeartbeats 1000000 in
theorem named_any (w : World) (xv : Value) (l : List UInt8) (c : UInt8) (r : List UInt8) (hlc : l = c :: r) (hl : (l.length : Int) ≤ 1000000) :
    Calls Tryz.prog 20 #[xv, .string ⟨l.toArray⟩] w fun e w' => e = .returned (tryV (if bsort c = 3 then some (some ⟨4, 0, l.take (spanN isWord l), spanN isWord l⟩) else none)) ∧ Below w.heap.size w w' := by
 have hlen : 0 < l.length := by rw [hlc]; simp
 have hx : (⟨l.toArray⟩ : ByteArray)[0]'(by show 0 < l.toArray.size; simpa using hlen) = c := by subst hlc; rfl
 have hs : (⟨l.toArray⟩ : ByteArray).extract 0 (spanN isWord l) = ⟨(l.take (spanN isWord l)).toArray⟩ := by rw [slice_mid]; rfl
 have hsp := spanN_le isWord l
 have hsp' : (spanN isWord l : Int) ≤ (l.length : Int) := by omega
 generalize hn : spanN isWord l = n at *
 have HN := Lib.hid hn
 generalize l.take n = t at *
 clear hlc hn
 by_cases h3 : bsort c = 3
 ·rw [if_pos h3]
  go_enter Tryz.func20, Tryz.ntmps20
  go_wp2_with fail
  refine (sort_byte _ c).mono ?_
  rintro e w' ⟨rfl, rfl⟩
  go_wp2_with fail
  refine (word_any _ l hl).mono ?_
  rintro e w' ⟨rfl, rfl⟩
  rw [HN.out]
  go_wp2_with fail
  refine bodyPost_ret (v := tryV (some (some ⟨4, 0, t, n⟩))) (by simp [results, Tryz.results20, go_sem, tryV, tokV]) rfl ⟨rfl, (Below.refl _ _).alloc (Nat.le_refl _) _⟩
 ·rw [if_neg h3]
  have t3 : (bsort c != 3) = true := by rw [bne_iff_ne]; exact h3
  clear h3
  go_enter Tryz.func20, Tryz.ntmps20
  go_wp2_with fail
  refine (sort_byte _ c).mono ?_
  rintro e w' ⟨rfl, rfl⟩
  go_wp2_with fail
  refine bodyPost_ret (v := tryV none) (by simp [results, Tryz.results20, go_sem, tryV, tokV]) rfl ⟨rfl, (Below.refl _ _).alloc (Nat.le_refl _) _⟩
theorem parse_one (b : Nat) (c : UInt8) : parseF b [c] = if digVal c < b then ((digVal c : Int), 0) else (0, 6) := by
 have hd := digVal_le c
 unfold parseF
 by_cases h : digVal c < b
 ·rw [if_pos h, if_neg (by simp [digitsIn, h]), if_neg (by simp [valOf]; omega)]
  have : tops (valOf b [c]) = (digVal c : Int) := by
   simp only [valOf, List.foldl_cons, List.foldl_nil, Nat.zero_mul, Nat.zero_add, tops]
   rw [if_neg (by omega)]
  rw [this]
 ·rw [if_neg h, if_pos (.inr (by simp [digitsIn]; omega))]
set_option maxHeartbeats 1000000 in
theorem digits_any (w : World) (l : List UInt8) (f : Nat) (fi base : Int) (hf : fi = (f : Int)) (hfl : f ≤ l.length) (hb : base = 2 ∨ base = 8 ∨ base = 10 ∨ base = 16) (hl : (l.length : Int) ≤ 1000000) :
    Calls Tryz.prog 45 #[.string ⟨l.toArray⟩, .int .i64 fi, .int .i64 base] w fun e w' => e = .returned (tryV (some ((digitsF base.toNat l f).map fun x => ⟨3, x.1, [], x.2⟩))) ∧ Below w.heap.size w w' := by
 subst hf
 have HB := Lib.hid hb
 clear hb
 generalize hP : (fun c : UInt8 => decide (digVal c < base.toNat)) = p
 have HP := Lib.hid hP
 clear hP
 have hsl := spanN_le p (l.drop f)
 rw [List.length_drop] at hsl
 have hdig : digitsF base.toNat l f = if (parseF base.toNat ((l.drop f).take (spanN p (l.drop f)))).2 = 0 then some ((parseF base.toNat ((l.drop f).take (spanN p (l.drop f)))).1, f + spanN p (l.drop f)) else none := by
  unfold digitsF
  rw [HP.out]
 have HD := Lib.hid hdig
 clear hdig
 generalize hR : (some ((digitsF base.toNat l f).map fun x => (⟨3, x.1, [], x.2⟩ : TokIs))) = R
 have HR := Lib.hid hR
 clear hR
 generalize hN : spanN p (l.drop f) = N at *
 have HN := Lib.hid hN
 clear hN
 go_enter Tryz.func45, Tryz.ntmps45
 go_wp2_with fail
 go_loop [9] (fun i => ∃ k : Nat, f ≤ k ∧ k ≤ l.length ∧ i = .int .i64 k ∧ k ≤ f + N) (fun i => l.length - (intOf i).toNat)
 case atStart => exact ⟨f, Nat.le_refl _, hfl, rfl, Nat.le_add_right _ _⟩
 case round =>
  obtain ⟨k, hfk, hk, rfl, hkN⟩ := hrel
  have hgo := spanN_go p (l.drop f) (k - f) (by rw [HN.out]; omega)
  rw [HN.out, List.getElem?_drop, show f + (k - f) = k by omega] at hgo
  have HGO := Lib.hid hgo
  clear hgo
  have hend : (k = f + N) → Hid (k = f + N) := fun h => h
  by_cases hlt : k < l.length
  ·obtain ⟨c, hd, hx, hg⟩ := byte_at l k hlt
   have HG := Lib.hid hg
   have hlt' : (k : Int) < (l.length : Int) := by omega
   have hs1 : (⟨l.toArray⟩ : ByteArray).extract k (k + 1) = ⟨[c].toArray⟩ := by
    rw [slice_mid, hd, show k + 1 - k = 1 by omega]
    rfl
   have hb1 : (k : Int) + 1 ≤ (l.length : Int) := by omega
   have hp1 := parse_one base.toNat c
   have hd36 := digVal_le c
   clear hd hg
   have hpc : p c = decide (digVal c < base.toNat) := by rw [← HP.out]
   have HPC := Lib.hid hpc
   clear hpc
   by_cases hdc : digVal c < base.toNat
   ·rw [if_pos hdc] at hp1
    have HP1 := Lib.hid hp1
    have hkN' : k < f + N := by
     have := HGO.out.2 ⟨c, HG.out, by rw [HPC.out]; simpa using hdc⟩
     omega
    clear hp1 hdc
    go_wp2_with fail
    refine (parse_lit _ [c] base HB.out (by simp)).mono ?_
    rintro e w' ⟨rfl, rfl⟩
    rw [HP1.out]
    go_wp2_with fail
    go_round
    case rel => exact ⟨k + 1, by omega, hlt, by go_num, hkN'⟩
    case measure => simp [intOf]; omega
   ·rw [if_neg hdc] at hp1
    have HP1 := Lib.hid hp1
    have hkN' : k = f + N := by
     rcases Nat.lt_or_ge (k - f) N with h | h
     ·obtain ⟨c', h3, h4⟩ := HGO.out.1 h
      rw [HG.out] at h3
      cases h3
      rw [HPC.out] at h4
      exact absurd (by simpa using h4) hdc
     ·omega
    have HE := hend hkN'
    have hs2 : (⟨l.toArray⟩ : ByteArray).extract f k = ⟨((l.drop f).take N).toArray⟩ := by rw [slice_mid, hkN', show f + N - f = N by omega]
    clear hp1 hdc hkN'
    go_wp2_with fail
    refine (parse_lit _ [c] base HB.out (by simp)).mono ?_
    rintro e w' ⟨rfl, rfl⟩
    rw [HP1.out]
    go_wp2_with fail
    refine (parse_lit _ _ base HB.out (by rw [List.length_take, List.length_drop]; omega)).mono ?_
    rintro e w' ⟨rfl, rfl⟩
    have hr := HR.out
    rw [HD.out] at hr
    generalize parseF base.toNat ((l.drop f).take N) = p at *
    obtain ⟨p1, p2⟩ := p
    simp only at hr ⊢
    by_cases hp2 : p2 = 0
    ·rw [if_pos hp2] at hr
     have HR2 := Lib.hid hr
     subst hp2
     clear hr
     go_wp2_with fail
     have he := HE.out
     rw [← HR2.out]
     refine bodyPost_ret (v := tryV (some (some ⟨3, p1, [], f + N⟩))) (by simp [results, Tryz.results45, go_sem, tryV, tokV]; omega) rfl ⟨rfl, (Below.refl _ _).alloc (Nat.le_refl _) _⟩
    ·have t : (p2 != 0) = true := by rw [bne_iff_ne]; exact hp2
     rw [if_neg hp2] at hr
     have HR2 := Lib.hid hr
     clear hr hp2
     go_wp2_with fail
     rw [← HR2.out]
     refine bodyPost_ret (v := tryV (some none)) (by simp [results, Tryz.results45, go_sem, tryV, tokV]) rfl ⟨rfl, (Below.refl _ _).alloc (Nat.le_refl _) _⟩
  ·have hkN' : k = f + N := by omega
   have HE := hend hkN'
   have hs2 : (⟨l.toArray⟩ : ByteArray).extract f k = ⟨((l.drop f).take N).toArray⟩ := by rw [slice_mid, hkN', show f + N - f = N by omega]
   clear hkN'
   go_wp2_with fail
   refine (parse_lit _ _ base HB.out (by rw [List.length_take, List.length_drop]; omega)).mono ?_
   rintro e w' ⟨rfl, rfl⟩
   have hr := HR.out
   rw [HD.out] at hr
   generalize parseF base.toNat ((l.drop f).take N) = p at *
   obtain ⟨p1, p2⟩ := p
   simp only at hr ⊢
   by_cases hp2 : p2 = 0
   ·rw [if_pos hp2] at hr
    have HR2 := Lib.hid hr
    subst hp2
    clear hr
    go_wp2_with fail
    have he := HE.out
    rw [← HR2.out]
    refine bodyPost_ret (v := tryV (some (some ⟨3, p1, [], f + N⟩))) (by simp [results, Tryz.results45, go_sem, tryV, tokV]; omega) rfl ⟨rfl, (Below.refl _ _).alloc (Nat.le_refl _) _⟩
   ·have t : (p2 != 0) = true := by rw [bne_iff_ne]; exact hp2
    rw [if_neg hp2] at hr
    have HR2 := Lib.hid hr
    clear hr hp2
    go_wp2_with fail
    rw [← HR2.out]
    refine bodyPost_ret (v := tryV (some none)) (by simp [results, Tryz.results45, go_sem, tryV, tokV]) rfl ⟨rfl, (Below.refl _ _).alloc (Nat.le_refl _) _⟩
end Go.Proofs.YtiffopheamnngaaGreatDoor
