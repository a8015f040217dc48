/-
  What name.escapes and name.escape answer: the map of the escapes of one letter, and the byte that is told behind a backslash. No condition but the sizes that are named.
-/
import Derived.Test.YtpiekfkkhgighaaDoorNameA
import Derived.Test.YtpiekfkkhgighaaDoorMaps
namespace Go.Proofs.YtpiekfkkhgighaaDoor
open Go.RowKit Go.Maps
set_option maxRecDepth 100000

def ekB (c : UInt8) : Value := .int .u8 (c.toNat : Int)
def evN (n : Nat) : Value := .int .i64 (n : Int)
theorem byteKE : KE Tryd.prog 5 ekB (fun _ => True) :=
  ⟨int_keyed Tryd.underlying5, fun k _ => ⟨_, keyOf_int_mk Tryd.underlying5 (by
      have := k.toNat_lt
      have e1 : IntKind.u8.min = 0 := by decide
      have e2 : IntKind.u8.max = 255 := by decide
      simp only [Lit.wf, Bool.and_eq_true, e1, e2]
      exact ⟨decide_eq_true (by omega), decide_eq_true (by omega)⟩)⟩,
    fun a b h => by
      simp only [ekB, Value.int.injEq, true_and] at h
      exact UInt8.toNat_inj.1 (by omega)⟩
def escL : List (UInt8 × Nat) := [(110, 10), (114, 13), (116, 9), (97, 7), (98, 8), (102, 12), (118, 11), (92, 92), (39, 39), (34, 34), (96, 96)]
theorem escL_get (c : UInt8) : mget escL c = escKnown c :=
  of_decide_eq_true (u8_all (fun c => decide (mget escL c = escKnown c)) (by decide +kernel) c)

set_option maxHeartbeats 1000000 in
theorem escapes_any (w : World) : Calls Tryd.prog 61 #[] w fun e w' => ∃ bm, e = .returned (.map (some bm)) ∧ MapAt w' bm ekB evN escL ∧ w.heap.size ≤ bm ∧ Below w.heap.size w w' := by
  have hmm := @run_makeMap Tryd.prog
  have M0 := MapAt.made (ek := ekB) (ev := evN) w
  have B0 : Below w.heap.size w (w.alloc (.map #[] 0)) := (Below.refl _ _).alloc (Nat.le_refl _) _
  obtain ⟨w1, u1, M1, G1, -⟩ := MapAt.update (P := Tryd.prog) (t := 118) byteKE Tryd.underlying118 M0 (fun _ _ => trivial) (k := (110 : UInt8)) trivial 10
  rw [show ekB 110 = .int .u8 110 from rfl, show evN 10 = .int .i64 10 from rfl] at u1
  have B1 : Below w.heap.size w w1 := ⟨G1.os.trans B0.os, G1.tape.trans B0.tape, G1.output.trans B0.output, Nat.le_trans B0.size G1.size, fun k hk => (G1.block k (Nat.lt_of_lt_of_le hk B0.size) (fun e => by cases e; omega)).trans (B0.block k hk)⟩
  clear M0 G1 B0
  obtain ⟨w2, u2, M2, G2, -⟩ := MapAt.update (P := Tryd.prog) (t := 118) byteKE Tryd.underlying118 M1 (fun _ _ => trivial) (k := (114 : UInt8)) trivial 13
  rw [show ekB 114 = .int .u8 114 from rfl, show evN 13 = .int .i64 13 from rfl] at u2
  have B2 : Below w.heap.size w w2 := ⟨G2.os.trans B1.os, G2.tape.trans B1.tape, G2.output.trans B1.output, Nat.le_trans B1.size G2.size, fun k hk => (G2.block k (Nat.lt_of_lt_of_le hk B1.size) (fun e => by cases e; omega)).trans (B1.block k hk)⟩
  clear M1 G2 B1
  obtain ⟨w3, u3, M3, G3, -⟩ := MapAt.update (P := Tryd.prog) (t := 118) byteKE Tryd.underlying118 M2 (fun _ _ => trivial) (k := (116 : UInt8)) trivial 9
  rw [show ekB 116 = .int .u8 116 from rfl, show evN 9 = .int .i64 9 from rfl] at u3
  have B3 : Below w.heap.size w w3 := ⟨G3.os.trans B2.os, G3.tape.trans B2.tape, G3.output.trans B2.output, Nat.le_trans B2.size G3.size, fun k hk => (G3.block k (Nat.lt_of_lt_of_le hk B2.size) (fun e => by cases e; omega)).trans (B2.block k hk)⟩
  clear M2 G3 B2
  obtain ⟨w4, u4, M4, G4, -⟩ := MapAt.update (P := Tryd.prog) (t := 118) byteKE Tryd.underlying118 M3 (fun _ _ => trivial) (k := (97 : UInt8)) trivial 7
  rw [show ekB 97 = .int .u8 97 from rfl, show evN 7 = .int .i64 7 from rfl] at u4
  have B4 : Below w.heap.size w w4 := ⟨G4.os.trans B3.os, G4.tape.trans B3.tape, G4.output.trans B3.output, Nat.le_trans B3.size G4.size, fun k hk => (G4.block k (Nat.lt_of_lt_of_le hk B3.size) (fun e => by cases e; omega)).trans (B3.block k hk)⟩
  clear M3 G4 B3
  obtain ⟨w5, u5, M5, G5, -⟩ := MapAt.update (P := Tryd.prog) (t := 118) byteKE Tryd.underlying118 M4 (fun _ _ => trivial) (k := (98 : UInt8)) trivial 8
  rw [show ekB 98 = .int .u8 98 from rfl, show evN 8 = .int .i64 8 from rfl] at u5
  have B5 : Below w.heap.size w w5 := ⟨G5.os.trans B4.os, G5.tape.trans B4.tape, G5.output.trans B4.output, Nat.le_trans B4.size G5.size, fun k hk => (G5.block k (Nat.lt_of_lt_of_le hk B4.size) (fun e => by cases e; omega)).trans (B4.block k hk)⟩
  clear M4 G5 B4
  obtain ⟨w6, u6, M6, G6, -⟩ := MapAt.update (P := Tryd.prog) (t := 118) byteKE Tryd.underlying118 M5 (fun _ _ => trivial) (k := (102 : UInt8)) trivial 12
  rw [show ekB 102 = .int .u8 102 from rfl, show evN 12 = .int .i64 12 from rfl] at u6
  have B6 : Below w.heap.size w w6 := ⟨G6.os.trans B5.os, G6.tape.trans B5.tape, G6.output.trans B5.output, Nat.le_trans B5.size G6.size, fun k hk => (G6.block k (Nat.lt_of_lt_of_le hk B5.size) (fun e => by cases e; omega)).trans (B5.block k hk)⟩
  clear M5 G6 B5
  obtain ⟨w7, u7, M7, G7, -⟩ := MapAt.update (P := Tryd.prog) (t := 118) byteKE Tryd.underlying118 M6 (fun _ _ => trivial) (k := (118 : UInt8)) trivial 11
  rw [show ekB 118 = .int .u8 118 from rfl, show evN 11 = .int .i64 11 from rfl] at u7
  have B7 : Below w.heap.size w w7 := ⟨G7.os.trans B6.os, G7.tape.trans B6.tape, G7.output.trans B6.output, Nat.le_trans B6.size G7.size, fun k hk => (G7.block k (Nat.lt_of_lt_of_le hk B6.size) (fun e => by cases e; omega)).trans (B6.block k hk)⟩
  clear M6 G7 B6
  obtain ⟨w8, u8, M8, G8, -⟩ := MapAt.update (P := Tryd.prog) (t := 118) byteKE Tryd.underlying118 M7 (fun _ _ => trivial) (k := (92 : UInt8)) trivial 92
  rw [show ekB 92 = .int .u8 92 from rfl, show evN 92 = .int .i64 92 from rfl] at u8
  have B8 : Below w.heap.size w w8 := ⟨G8.os.trans B7.os, G8.tape.trans B7.tape, G8.output.trans B7.output, Nat.le_trans B7.size G8.size, fun k hk => (G8.block k (Nat.lt_of_lt_of_le hk B7.size) (fun e => by cases e; omega)).trans (B7.block k hk)⟩
  clear M7 G8 B7
  obtain ⟨w9, u9, M9, G9, -⟩ := MapAt.update (P := Tryd.prog) (t := 118) byteKE Tryd.underlying118 M8 (fun _ _ => trivial) (k := (39 : UInt8)) trivial 39
  rw [show ekB 39 = .int .u8 39 from rfl, show evN 39 = .int .i64 39 from rfl] at u9
  have B9 : Below w.heap.size w w9 := ⟨G9.os.trans B8.os, G9.tape.trans B8.tape, G9.output.trans B8.output, Nat.le_trans B8.size G9.size, fun k hk => (G9.block k (Nat.lt_of_lt_of_le hk B8.size) (fun e => by cases e; omega)).trans (B8.block k hk)⟩
  clear M8 G9 B8
  obtain ⟨w10, u10, M10, G10, -⟩ := MapAt.update (P := Tryd.prog) (t := 118) byteKE Tryd.underlying118 M9 (fun _ _ => trivial) (k := (34 : UInt8)) trivial 34
  rw [show ekB 34 = .int .u8 34 from rfl, show evN 34 = .int .i64 34 from rfl] at u10
  have B10 : Below w.heap.size w w10 := ⟨G10.os.trans B9.os, G10.tape.trans B9.tape, G10.output.trans B9.output, Nat.le_trans B9.size G10.size, fun k hk => (G10.block k (Nat.lt_of_lt_of_le hk B9.size) (fun e => by cases e; omega)).trans (B9.block k hk)⟩
  clear M9 G10 B9
  obtain ⟨w11, u11, M11, G11, -⟩ := MapAt.update (P := Tryd.prog) (t := 118) byteKE Tryd.underlying118 M10 (fun _ _ => trivial) (k := (96 : UInt8)) trivial 96
  rw [show ekB 96 = .int .u8 96 from rfl, show evN 96 = .int .i64 96 from rfl] at u11
  have B11 : Below w.heap.size w w11 := ⟨G11.os.trans B10.os, G11.tape.trans B10.tape, G11.output.trans B10.output, Nat.le_trans B10.size G11.size, fun k hk => (G11.block k (Nat.lt_of_lt_of_le hk B10.size) (fun e => by cases e; omega)).trans (B10.block k hk)⟩
  clear M10 G11 B10
  have HM := Lib.hid M11
  have HB := Lib.hid B11
  clear M11 B11
  go_enter Tryd.func61, Tryd.ntmps61
  go_wp2_with fail
  go_ret
  exact ⟨_, rfl, HM.out, Nat.le_refl _, HB.out⟩

set_option maxHeartbeats 400000 in
theorem octal_any (w : World) (c : UInt8) : Calls Tryd.prog 75 #[.int .u8 (c.toNat : Int)] w fun e w' => e = .returned (.bool (isOct c)) ∧ w = w' := by
  unfold isOct
  have hc := c.toNat_lt
  generalize c.toNat = n at *
  have hn : (n : Int) < 256 := by omega
  by_cases h1 : 48 ≤ n
  · by_cases h2 : n ≤ 55
    · have a1 : 48 ≤ (n : Int) := by omega
      have a2 : (n : Int) ≤ 55 := by omega
      rw [decide_eq_true ⟨h1, h2⟩]
      clear h1 h2
      go_enter Tryd.func75, Tryd.ntmps75
      go_wp2_with fail
      go_ret
      exact ⟨rfl, rfl⟩
    · have a1 : 48 ≤ (n : Int) := by omega
      have a2 : 55 < (n : Int) := by omega
      rw [decide_eq_false (fun h => h2 h.2)]
      clear h1 h2
      go_enter Tryd.func75, Tryd.ntmps75
      go_wp2_with fail
      go_ret
      exact ⟨ret_b (decide_eq_false (by omega)), rfl⟩
  · have a1 : (n : Int) < 48 := by omega
    rw [decide_eq_false (fun h => h1 h.1)]
    clear h1
    go_enter Tryd.func75, Tryd.ntmps75
    go_wp2_with fail
    go_ret
    exact ⟨rfl, rfl⟩

theorem esc_some {u : World} {bm : Nat} (h : MapAt u bm ekB evN escL) (c : UInt8) (n : Nat) (hg : escKnown c = some n) :
    (Instr.lookup 118 (.map (some bm)) (.int .u8 (c.toNat : Int)) true).run Tryd.prog u = .ok (.tuple #[.int .i64 (n : Int), .bool true]) u := by
  have := h.lookup (t := 118) byteKE Tryd.underlying118 (z := .int .i64 0) (fun u => by kernel_rfl) (fun _ _ => trivial) (k := c) trivial true
  rw [show ekB c = .int .u8 (c.toNat : Int) from rfl, escL_get, hg] at this
  exact this
theorem esc_none {u : World} {bm : Nat} (h : MapAt u bm ekB evN escL) (c : UInt8) (hg : escKnown c = none) :
    (Instr.lookup 118 (.map (some bm)) (.int .u8 (c.toNat : Int)) true).run Tryd.prog u = .ok (.tuple #[.int .i64 0, .bool false]) u := by
  have := h.lookup (t := 118) byteKE Tryd.underlying118 (z := .int .i64 0) (fun u => by kernel_rfl) (fun _ _ => trivial) (k := c) trivial true
  rw [show ekB c = .int .u8 (c.toNat : Int) from rfl, escL_get, hg] at this
  exact this
theorem byte_eq {c d : UInt8} (h : c = d) : ((c.toNat : Int) == (d.toNat : Int)) = true := by rw [h]; simp
theorem bool_ne {b : Bool} (h : ¬ b = true) : b = false := by simpa using h

theorem slice_end (l : List UInt8) (k : Nat) : (⟨l.toArray⟩ : ByteArray).extract k l.length = ⟨(l.drop k).toArray⟩ := by
  apply ByteArray.ext
  rw [ByteArray.data_extract]
  apply Array.ext'
  rw [Array.toList_extract]
  simp only [List.extract]
  rw [List.take_of_length_le (by simp)]
theorem slice_mid (l : List UInt8) (a b : Nat) : (⟨l.toArray⟩ : ByteArray).extract a b = ⟨((l.drop a).take (b - a)).toArray⟩ := by
  apply ByteArray.ext
  rw [ByteArray.data_extract]
  apply Array.ext'
  rw [Array.toList_extract]

set_option maxHeartbeats 2000000 in
theorem escape_any (w : World) (l : List UInt8) (c : UInt8) (r : List UInt8) (hl : l = c :: r) (bm : Nat) (hM : MapAt w bm ekB evN escL) (hn : (l.length : Int) ≤ 9223372036854775000) :
    Calls Tryd.prog 62 #[.string ⟨l.toArray⟩, .map (some bm)] w fun e w' =>
      e = .returned (.tuple #[.int .i64 ((escapeF l).1 : Int), .int .i64 ((escapeF l).2.1 : Int), .bool (escapeF l).2.2]) ∧ w = w' := by
  have hlen : 0 < l.length := by rw [hl]; simp
  have hx : (⟨l.toArray⟩ : ByteArray)[0]'(by show 0 < l.toArray.size; simpa using hlen) = c := by subst hl; rfl
  have HT := Lib.hid (show l.tail = r by rw [hl]; rfl)
  have hrl : (r.length : Int) + 1 = l.length := by rw [hl]; simp
  have HRL := Lib.hid hrl
  have hrl1 : (r.length : Int) ≤ 9223372036854775000 := by omega
  have HL := Lib.hid hl
  generalize hE : escapeF l = E
  have HE := Lib.hid hE
  clear hl hE hrl
  cases hg : escKnown c with
  | some n =>
    have hk := esc_some hM c n hg
    have hE := HE.out
    rw [HL.out, escapeF, hg] at hE
    have HE2 := Lib.hid hE
    clear hE hg HE hM
    go_enter Tryd.func62, Tryd.ntmps62
    go_wp2_with fail
    go_ret3
    rw [← HE2.out]
    exact ⟨rfl, rfl⟩
  | none =>
    have hk := esc_none hM c hg
    have hE := HE.out
    rw [HL.out, escapeF, hg] at hE
    simp only at hE
    have HE2 := Lib.hid hE
    clear hE hg HE hM
    by_cases h1 : c = 120
    · have t1 : ((c.toNat : Int) == 120) = true := byte_eq h1
      have hE := HE2.out
      rw [if_pos h1] at hE
      have HE3 := Lib.hid hE
      have hs : (⟨l.toArray⟩ : ByteArray).extract 1 l.length = ⟨r.toArray⟩ := by rw [slice_end, List.drop_one, HT.out]
      have hcb : (codedF 16 r 0 0).2.1 ≤ r.length := codedF_le 16 r
      clear h1 hE HE2
      go_enter Tryd.func62, Tryd.ntmps62
      go_wp2_with fail
      refine (coded_lit _ r 16 (.inr rfl) hrl1).mono ?_
      rintro e w' ⟨rfl, rfl⟩
      simp only [Int.reduceToNat]
      generalize codedF 16 r 0 0 = R at *
      obtain ⟨x, k, o⟩ := R
      simp only at HE3 hcb ⊢
      have hcb' : (k : Int) ≤ 9223372036854775000 := by omega
      go_wp2_with fail
      go_ret3
      rw [← HE3.out]
      exact ⟨by simp, rfl⟩
    · have t1 : ((c.toNat : Int) == 120) = false := byte_ne h1
      have hE := HE2.out
      rw [if_neg h1] at hE
      have HE3 := Lib.hid hE
      clear h1 hE HE2
      by_cases h2 : c = 48
      · have t2 : ((c.toNat : Int) == 48) = true := byte_eq h2
        have ho : isOct c = true := by rw [h2]; decide
        have hE := HE3.out
        rw [if_pos ho] at hE
        by_cases h3 : (l.length : Int) = 1
        · have t3 : ((l.length : Int) == 1) = true := by rw [h3]; rfl
          rw [if_pos ⟨h2, .inl (List.eq_nil_of_length_eq_zero (by have := HRL.out; omega))⟩] at hE
          have HE4 := Lib.hid hE
          clear h2 hE HE3 h3
          go_enter Tryd.func62, Tryd.ntmps62
          go_wp2_with (first | (go_at_call 75; refine (octal_any _ _).mono ?_; rintro e w' ⟨rfl, rfl⟩) | (go_at_call 76; refine (coded_lit _ l 8 (.inl rfl) hn).mono ?_; rintro e w' ⟨rfl, rfl⟩))
          go_ret3
          rw [← HE4.out]
          exact ⟨rfl, rfl⟩
        · have t3 : ((l.length : Int) == 1) = false := beq_eq_false_iff_ne.2 h3
          have h1l : 1 < l.length := by omega
          obtain ⟨d, hd, hx1, -⟩ := byte_at l 1 h1l
          have hrd : r.headD 0 = d := by
            have := HT.out
            rw [← List.drop_one, hd] at this
            rw [← this]
            rfl
          have hrn : r ≠ [] := by rintro rfl; have := HRL.out; simp at this; omega
          rw [hrd, ← HL.out] at hE
          have HE4 := Lib.hid hE
          clear hE HE3 h3 hd hrd
          cases hod : isOct d
          · by_cases h92 : d = 92
            · have t4 : ((d.toNat : Int) == 92) = true := byte_eq h92
              have t4' : ((d.toNat : Int) != 92) = false := by rw [bne, t4]; rfl
              have hE := HE4.out
              rw [if_neg (by rw [h92]; simp [hrn])] at hE
              have HE5 := Lib.hid hE
              clear hE HE4 h92 hrn h2 HL
              go_enter Tryd.func62, Tryd.ntmps62
              go_wp2_with (first | (go_at_call 75; refine (octal_any _ _).mono ?_; rintro e w' ⟨rfl, rfl⟩) | (go_at_call 76; refine (coded_lit _ l 8 (.inl rfl) hn).mono ?_; rintro e w' ⟨rfl, rfl⟩))
              go_ret3
              rw [← HE5.out]
              exact ⟨rfl, rfl⟩
            · have t4 : ((d.toNat : Int) == 92) = false := byte_ne h92
              have t4' : ((d.toNat : Int) != 92) = true := by rw [bne, t4]; rfl
              have hE := HE4.out
              rw [if_pos ⟨h2, .inr ⟨hod, h92⟩⟩] at hE
              have HE5 := Lib.hid hE
              clear hE HE4 h92 hrn h2 HL
              go_enter Tryd.func62, Tryd.ntmps62
              go_wp2_with (first | (go_at_call 75; refine (octal_any _ _).mono ?_; rintro e w' ⟨rfl, rfl⟩) | (go_at_call 76; refine (coded_lit _ l 8 (.inl rfl) hn).mono ?_; rintro e w' ⟨rfl, rfl⟩))
              go_ret3
              rw [← HE5.out]
              exact ⟨rfl, rfl⟩
          · have hE := HE4.out
            rw [if_neg (by rw [hod]; simp [hrn])] at hE
            have HE5 := Lib.hid hE
            clear hE HE4 hrn h2 HL
            go_enter Tryd.func62, Tryd.ntmps62
            go_wp2_with (first | (go_at_call 75; refine (octal_any _ _).mono ?_; rintro e w' ⟨rfl, rfl⟩) | (go_at_call 76; refine (coded_lit _ l 8 (.inl rfl) hn).mono ?_; rintro e w' ⟨rfl, rfl⟩))
            go_ret3
            rw [← HE5.out]
            exact ⟨rfl, rfl⟩
      · have t2 : ((c.toNat : Int) == 48) = false := byte_ne h2
        have hE := HE3.out
        rw [if_neg (fun h => h2 h.1), ← HL.out] at hE
        cases ho : isOct c
        · rw [if_neg (by rw [ho]; simp)] at hE
          have HE4 := Lib.hid hE
          clear hE HE3 h2 HL
          go_enter Tryd.func62, Tryd.ntmps62
          go_wp2_with (first | (go_at_call 75; refine (octal_any _ _).mono ?_; rintro e w' ⟨rfl, rfl⟩) | (go_at_call 76; refine (coded_lit _ l 8 (.inl rfl) hn).mono ?_; rintro e w' ⟨rfl, rfl⟩))
          go_ret3
          rw [← HE4.out]
          exact ⟨rfl, rfl⟩
        · rw [if_pos ho] at hE
          have HE4 := Lib.hid hE
          clear hE HE3 h2 HL
          go_enter Tryd.func62, Tryd.ntmps62
          go_wp2_with (first | (go_at_call 75; refine (octal_any _ _).mono ?_; rintro e w' ⟨rfl, rfl⟩) | (go_at_call 76; refine (coded_lit _ l 8 (.inl rfl) hn).mono ?_; rintro e w' ⟨rfl, rfl⟩))
          go_ret3
          rw [← HE4.out]
          exact ⟨rfl, rfl⟩
end Go.Proofs.YtpiekfkkhgighaaDoor
