import Derived.Test.YtiffopheamnngaaGreatDoorJT37
import Derived.Deep.LoopGhost
namespace Go.Proofs.YtiffopheamnngaaGreatDoor
open Go.RowKit
set_option maxRecDepth 100000
def lexCells (bx : Nat) (T : List UInt8) (a ln en : Nat) (v : Value) : Array Value :=
 #[.string ⟨T.toArray⟩, .int .i64 (a : Int), .int .i64 (ln : Int), .int .i64 (en : Int), v,
  .func (.func 18) #[.pointer (some ⟨bx, 0, none⟩)] #[], .func (.func 19) #[.pointer (some ⟨bx, 0, none⟩)] #[],
  .func (.func 20) #[.pointer (some ⟨bx, 0, none⟩)] #[], .func (.func 21) #[.pointer (some ⟨bx, 0, none⟩)] #[],
  .func (.func 22) #[.pointer (some ⟨bx, 0, none⟩)] #[], .func (.func 23) #[.pointer (some ⟨bx, 0, none⟩)] #[]]
structure LexAt (w : World) (bx : Nat) (T : List UInt8) (a ln en : Nat) (v : Value) : Prop where
 blk : w.heap[bx]? = some (.cells (lexCells bx T a ln en v) 63 (0, 0))
section
variable {w w' : World} {bx a ln en : Nat} {T : List UInt8} {v : Value}
theorem LexAt.lt (h : LexAt w bx T a ln en v) : bx < w.heap.size := (Array.getElem?_eq_some_iff.1 h.blk).1
theorem LexAt.keep (h : LexAt w bx T a ln en v) (hb : w'.heap[bx]? = w.heap[bx]?) : LexAt w' bx T a ln en v := ⟨hb.trans h.blk⟩
theorem LexAt.later (h : LexAt w bx T a ln en v) (hb : Below w.heap.size w w') : LexAt w' bx T a ln en v := h.keep (hb.block _ h.lt)
theorem LexAt.cells (h : LexAt w bx T a ln en v) : w.cell? ⟨bx, 0, none⟩ = some (.string ⟨T.toArray⟩) ∧ w.cell? ⟨bx, 1, none⟩ = some (.int .i64 (a : Int)) ∧ w.cell? ⟨bx, 2, none⟩ = some (.int .i64 (ln : Int)) ∧ w.cell? ⟨bx, 3, none⟩ = some (.int .i64 (en : Int)) ∧ w.cell? ⟨bx, 4, none⟩ = some v ∧ (∀ o, w.frozen? ⟨bx, o, none⟩ = false) :=
 ⟨by rw [cell_of_row w bx 0 _ _ (0, 0) h.blk]; rfl, by rw [cell_of_row w bx 1 _ _ (0, 0) h.blk]; rfl, by rw [cell_of_row w bx 2 _ _ (0, 0) h.blk]; rfl, by rw [cell_of_row w bx 3 _ _ (0, 0) h.blk]; rfl, by rw [cell_of_row w bx 4 _ _ (0, 0) h.blk]; rfl, fun o => by simp [World.frozen?, h.blk]⟩
theorem setCell_blk {b i : Nat} {cs : Array Value} {t : TypeId} (h : w.heap[b]? = some (.cells cs t (0, 0))) (u : Value) : (w.setCell ⟨b, i, none⟩ u).heap[b]? = some (.cells (cs.setIfInBounds i u) t (0, 0)) := by
 simp only [World.setCell, Array.getElem?_modify, h, if_true, Option.map_some, Option.isSome_none, Bool.false_eq_true, if_false]
theorem LexAt.setAt (h : LexAt w bx T a ln en v) (a' : Nat) : LexAt (w.setCell ⟨bx, 1, none⟩ (.int .i64 (a' : Int))) bx T a' ln en v := ⟨setCell_blk h.blk _⟩
theorem LexAt.setLn (h : LexAt w bx T a ln en v) (ln' : Nat) : LexAt (w.setCell ⟨bx, 2, none⟩ (.int .i64 (ln' : Int))) bx T a ln' en v := ⟨setCell_blk h.blk _⟩
theorem LexAt.setEn (h : LexAt w bx T a ln en v) (en' : Nat) : LexAt (w.setCell ⟨bx, 3, none⟩ (.int .i64 (en' : Int))) bx T a ln en' v := ⟨setCell_blk h.blk _⟩
theorem LexAt.setL (h : LexAt w bx T a ln en v) (v' : Value) : LexAt (w.setCell ⟨bx, 4, none⟩ v') bx T a ln en v' := ⟨setCell_blk h.blk _⟩
theorem LexAt.drew (h : LexAt w bx T a ln en v) : LexAt w.drew bx T a ln en v := ⟨h.blk⟩
theorem LexAt.drewN (h : LexAt w bx T a ln en v) (n : Nat) : LexAt (w.drewN n) bx T a ln en v := ⟨h.blk⟩
end
set_option maxHeartbeats 2000000 in
theorem to_any (w : World) (bx : Nat) (T : List UInt8) (a ln en : Nat) (v : Value) (h : LexAt w bx T a ln en v) (m : Nat) (mi : Int) (hmi : mi = (m : Int)) (ham : a + m ≤ T.length) (hT : (T.length : Int) ≤ 1000000) (hln : (ln : Int) ≤ 1000000) :
    Calls Tryz.prog 48 #[.pointer (some ⟨bx, 0, none⟩), .int .i64 mi] w fun e w' => e = .returned (.tuple #[]) ∧ LexAt w' bx T (a + m) (ln + lines ((T.drop a).take m)) en v ∧ Fr (· = bx) w w' := by
 subst hmi
 obtain ⟨c0, c1, c2, c3, c4, hf⟩ := h.cells
 have hs : (⟨T.toArray⟩ : ByteArray).extract a (a + m) = ⟨((T.drop a).take m).toArray⟩ := by rw [slice_mid, show a + m - a = m by omega]
 have hcnt : ∀ W, Calls Tryz.prog 77 #[.string ⟨((T.drop a).take m).toArray⟩, .string ⟨#[10]⟩] W fun e w' => e = .returned (.int .i64 (lines ((T.drop a).take m) : Int)) ∧ w' = W := fun W => Tryz.strings_Count_one _ 10 W
 have hlm : lines ((T.drop a).take m) ≤ T.length := Nat.le_trans (List.count_le_length ..) (by rw [List.length_take, List.length_drop]; omega)
 generalize lines ((T.drop a).take m) = L at *
 have HL := Lib.hid h
 have hw1 : IntKind.i64.wrap ((a : Int) + (m : Int)) = (a : Int) + (m : Int) := IntWalk.i64_in _ (by omega)
 have hw2 : IntKind.i64.wrap ((ln : Int) + (L : Int)) = (ln : Int) + (L : Int) := IntWalk.i64_in _ (by omega)
 have hw3 : ((a : Int) + (m : Int)).toNat = a + m := by omega
 have hw4 : (0 : Int) ≤ (a : Int) + (m : Int) := by omega
 have hw5 : (a : Int) ≤ (a : Int) + (m : Int) := by omega
 have hw6 : (a : Int) + (m : Int) ≤ (T.length : Int) := by omega
 clear h
 go_enter Tryz.func48, Tryz.ntmps48
 go_wp2_with fail
 go_still_tail 23, (by kernel_rfl)
 still_call (hcnt _)
 repeat still_step
 refine wpStill_nil ?_
 go_wp2_with fail
 go_end0
 refine ⟨rfl, ((HL.out.setLn (ln + L)).setAt (a + m)).drew, ?_⟩
 exact (((Fr.refl (· = bx) w).setCell (p := ⟨bx, 2, none⟩) (.inl rfl) _).setCell (p := ⟨bx, 1, none⟩) (.inl rfl) _).drew
end Go.Proofs.YtiffopheamnngaaGreatDoor
namespace Go.Proofs.YtiffopheamnngaaGreatDoor
open Go.RowKit
set_option maxRecDepth 100000
def notTen (c : UInt8) : Bool := decide (c ≠ 10)
theorem indexByte_ten : ∀ l : List UInt8, Lib.indexByte l 10 = if spanN notTen l < l.length then (spanN notTen l : Int) else -1
 | [] => rfl
 | c :: r => by
  have ih := indexByte_ten r
  have hle := spanN_le notTen r
  rw [Lib.indexByte, spanN_cons, List.length_cons, ih]
  by_cases h : c = 10
  ·subst h
   rfl
  ·have h1 : (c == 10) = false := beq_eq_false_iff_ne.2 h
   have h3 : notTen c = true := by simpa [notTen] using h
   rw [h1, h3]
   simp only [Bool.false_eq_true, if_false, if_true]
   generalize spanN notTen r = n at *
   generalize r.length = m at *
   by_cases h2 : n < m
   ·rw [if_pos h2, if_pos (show n + 1 < m + 1 by omega), if_neg (by rw [beq_iff_eq]; omega)]
    omega
   ·rw [if_neg h2, if_neg (show ¬ n + 1 < m + 1 by omega)]
    rfl
theorem prefix_end (c : UInt8) (r : List UInt8) : List.isPrefixOf [42, 47] (c :: r) = decide (c = 42 ∧ r.head? = some 47) := by
 cases r with
 | nil =>
  rw [decide_eq_false (by simp)]
  simp [List.isPrefixOf]
 | cons d r =>
  by_cases h : c = 42
  ·subst h
   by_cases h2 : d = 47
   ·subst h2
    rfl
   ·have h3 : ¬ (47 : UInt8) = d := fun e => h2 e.symm
    rw [decide_eq_false (by simp [h2])]
    simp [List.isPrefixOf, h3]
  ·have h3 : ¬ (42 : UInt8) = c := fun e => h e.symm
   rw [decide_eq_false (by simp [h])]
   simp [List.isPrefixOf, h3]
def endI : Option Nat → Int
 | some n => (n : Int)
 | none => -1
theorem index_end : ∀ l : List UInt8, Lib.index l [42, 47] = endI (endOf l)
 | [] => rfl
 | c :: r => by
  have ih := index_end r
  rw [Lib.index, endOf, ih, prefix_end]
  by_cases h : c = 42 ∧ r.head? = some 47
  ·rw [if_pos h, decide_eq_true h]
   rfl
  ·rw [if_neg h, decide_eq_false h]
   cases endOf r with
   | none => rfl
   | some n =>
    have h1 : ((n : Int) == -1) = false := by rw [beq_eq_false_iff_ne]; omega
    show (if false = true then (0 : Int) else if ((n : Int) == -1) = true then -1 else (n : Int) + 1) = ((n + 1 : Nat) : Int)
    rw [h1]
    rfl
theorem prefix_begin (c : UInt8) (r : List UInt8) : Lib.hasPrefix (c :: r) [47, 42] = decide (c = 47 ∧ r.head? = some 42) := by
 unfold Lib.hasPrefix
 cases r with
 | nil =>
  rw [decide_eq_false (by simp)]
  simp [List.isPrefixOf]
 | cons d r =>
  by_cases h : c = 47
  ·subst h
   by_cases h2 : d = 42
   ·subst h2
    rfl
   ·have h3 : ¬ (42 : UInt8) = d := fun e => h2 e.symm
    rw [decide_eq_false (by simp [h2])]
    simp [List.isPrefixOf, h3]
  ·have h3 : ¬ (47 : UInt8) = c := fun e => h e.symm
   rw [decide_eq_false (by simp [h])]
   simp [List.isPrefixOf, h3]
structure SkipInv (w : World) (bx : Nat) (T : List UInt8) (a ln en : Nat) (v : Value) (R : List UInt8 × Bool) (k : Nat) (wr : World) : Prop where
 lex : LexAt wr bx T k (ln + lines ((T.drop a).take (k - a))) en v
 fr : Fr (· = bx) w wr
 ge : a ≤ k
 le : k ≤ T.length
 ans : skipB (T.drop k) = R
 max : ∃ m : Int, wr.cell? ⟨3, 0, none⟩ = some (.int .i64 m)
theorem lines_take_add (T : List UInt8) (a k m : Nat) (h : a ≤ k) : lines ((T.drop a).take (k - a)) + lines ((T.drop k).take m) = lines ((T.drop a).take (k + m - a)) := by
 rw [show k + m - a = (k - a) + m by omega, List.take_add, lines_app, List.drop_drop, show a + (k - a) = k by omega]
theorem SkipInv.step {w wr w' : World} {bx a ln en k m : Nat} {T : List UInt8} {v : Value} {R : List UInt8 × Bool} (h : SkipInv w bx T a ln en v R k wr) (hg : 3 ≠ bx)
    (hl : LexAt w' bx T (k + m) (ln + lines ((T.drop a).take (k - a)) + lines ((T.drop k).take m)) en v) (hF : Fr (· = bx) wr w') (hm : k + m ≤ T.length) (ha : skipB (T.drop (k + m)) = R) : SkipInv w bx T a ln en v R (k + m) w' := by
 refine ⟨?_, h.fr.trans hF, by have := h.ge; omega, hm, ha, ?_⟩
 ·rw [Nat.add_assoc, lines_take_add T a k m h.ge] at hl
  exact hl
 ·obtain ⟨x, hx⟩ := h.max
  exact ⟨x, (hF.cell (p := ⟨3, 0, none⟩) (World.block_lt_of_cell? wr _ hx) hg).trans hx⟩
theorem skipB_cons (c : UInt8) (r : List UInt8) : skipB (c :: r) = if bsort c = 1 then skipB r
    else if c = 37 then skipB (r.drop (spanN notTen r))
    else if c = 47 ∧ r.head? = some 42 then
     match endOf r.tail with
     | none => (c :: r, false)
     | some n => skipB (r.tail.drop (n + 2))
    else (c :: r, true) := by
 unfold skipB
 rw [List.length_cons, skipF_cons, show (fun c : UInt8 => decide (c ≠ 10)) = notTen from rfl]
 have h1 : skipF r.length (r.drop (spanN notTen r)) = skipF (r.drop (spanN notTen r)).length (r.drop (spanN notTen r)) := skipF_fuel _ _ _ (by rw [List.length_drop]; omega) (Nat.le_refl _)
 rw [h1]
 cases endOf r.tail with
 | none => rfl
 | some n =>
  have h2 : skipF r.length (r.tail.drop (n + 2)) = skipF (r.tail.drop (n + 2)).length (r.tail.drop (n + 2)) := skipF_fuel _ _ _ (by rw [List.length_drop, List.length_tail]; omega) (Nat.le_refl _)
  simp only
  rw [h2]
theorem SkipInv.drewN {w wr : World} {bx a ln en k : Nat} {T : List UInt8} {v : Value} {R : List UInt8 × Bool} (h : SkipInv w bx T a ln en v R k wr) (n : Nat) : SkipInv w bx T a ln en v R k (wr.drewN n) :=
 ⟨h.lex.drewN n, h.fr.drewN n, h.ge, h.le, h.ans, h.max⟩
def SkipDone (w : World) (bx : Nat) (T : List UInt8) (a ln en : Nat) (v : Value) (R : List UInt8 × Bool) (e : Ending) (w' : World) : Prop :=
 e = .returned (.bool R.2) ∧ ∃ k, LexAt w' bx T k (ln + lines ((T.drop a).take (k - a))) en v ∧ Fr (· = bx) w w' ∧ a ≤ k ∧ k ≤ T.length ∧ R.1 = T.drop k
theorem SkipInv.done {w wr : World} {bx a ln en k : Nat} {T : List UInt8} {v : Value} {R : List UInt8 × Bool} (h : SkipInv w bx T a ln en v R k wr) {b : Bool} (hR : R = (T.drop k, b)) : SkipDone w bx T a ln en v R (.returned (.bool b)) wr :=
 ⟨by rw [hR], k, h.lex, h.fr, h.ge, h.le, by rw [hR]⟩
set_option maxHeartbeats 4000000 in
theorem skip_any (w : World) (bx : Nat) (T : List UInt8) (a ln en : Nat) (v : Value) (h : LexAt w bx T a ln en v) (ha : a ≤ T.length) (hT : (T.length : Int) ≤ 400000) (hln : (ln : Int) ≤ 400000) (hg : 3 ≠ bx)
    (hmax : ∃ m : Int, w.cell? ⟨3, 0, none⟩ = some (.int .i64 m)) :
    Calls Tryz.prog 24 #[.pointer (some ⟨bx, 0, none⟩)] w (SkipDone w bx T a ln en v (skipB (T.drop a))) := by
 have HI0 : Hid (SkipInv w bx T a ln en v (skipB (T.drop a)) a w) := ⟨by rw [Nat.sub_self]; simpa [lines] using h, Fr.refl _ _, Nat.le_refl _, ha, rfl, hmax⟩
 generalize hR : skipB (T.drop a) = R at *
 clear h hmax hR
 go_enter Tryz.func24, Tryz.ntmps24
 go_wp2_with fail
 go_loopg [] (T.length + 1 - a) (fun n wr => ∃ k, SkipInv w bx T a ln en v R k wr ∧ T.length + 1 ≤ k + n)
 case atStart => exact ⟨a, HI0.out, by omega⟩
 case round =>
  obtain ⟨k, hI, hgk⟩ := hrel
  have HI := Lib.hid hI
  have hk := hI.le
  obtain ⟨c0, c1, c2, c3, c4, hf⟩ := hI.lex.cells
  have HGK := Lib.hid hgk
  clear hI hgk HI0
  by_cases hlt : k < T.length
  ·obtain ⟨c, hd, hx, hgc⟩ := byte_at T k hlt
   have hlt' : (k : Int) < (T.length : Int) := by omega
   have hk' : (k : Int) ≤ (T.length : Int) := by omega
   obtain ⟨S, hS⟩ : ∃ S, S = T.drop k := ⟨_, rfl⟩
   have hs : (⟨T.toArray⟩ : ByteArray).extract k T.length = ⟨S.toArray⟩ := by rw [hS]; exact slice_end T k
   have hD : S = c :: T.drop (k + 1) := by rw [hS]; exact hd
   have hSl : S.length = T.length - k := by rw [hS, List.length_drop]
   have hlen0 : 0 < S.length := by omega
   have hx0 : (⟨S.toArray⟩ : ByteArray)[0]'(by show 0 < S.toArray.size; simpa using hlen0) = c := by subst hD; rfl
   have ha := HI.out.ans
   rw [← hS, hD, skipB_cons] at ha
   have HA := Lib.hid ha
   have HD := Lib.hid hD
   have HS := Lib.hid hS
   have HSL := Lib.hid hSl
   have hS1 : (1 : Int) ≤ (S.length : Int) := by omega
   clear ha hd hgc hx hD hS hSl
   have hlb : lines ((T.drop a).take (k - a)) ≤ T.length := Nat.le_trans (List.count_le_length ..) (by rw [List.length_take, List.length_drop]; omega)
   have hsp := spanN_le notTen S
   go_wp2_with fail
   go_quiet (fail)
   obtain ⟨w1, hw1⟩ : ∃ u, u = wr.drewN nq := ⟨_, rfl⟩
   have HI1 : Hid (SkipInv w bx T a ln en v R k w1) := by rw [hw1]; exact HI.out.drewN _
   rw [← hw1]
   clear hw1 c0 c1 c2 c3 c4 hf
   obtain ⟨c0, c1, c2, c3, c4, hf⟩ := HI1.out.lex.cells
   go_wp2_with fail
   go_quiet (fail)
   obtain ⟨w2, hw2⟩ : ∃ u, u = w1.drewN nq := ⟨_, rfl⟩
   have HI2 : Hid (SkipInv w bx T a ln en v R k w2) := by rw [hw2]; exact HI1.out.drewN _
   rw [← hw2]
   clear hw2 c0 c1 c2 c3 c4 hf
   obtain ⟨c0, c1, c2, c3, c4, hf⟩ := HI2.out.lex.cells
   by_cases h1 : bsort c = 1
   ·have ha := HA.out
    rw [if_pos h1] at ha
    have HA1 := Lib.hid ha
    clear ha HA
    go_wp2_with fail
    refine (sort_byte _ c).mono ?_
    rintro e w' ⟨rfl, rfl⟩
    go_wp2_with fail
    refine (to_any w2 bx T k _ en v HI2.out.lex (1) 1 rfl (by omega) (by omega) (by omega)).mono ?_
    rintro e w3 ⟨rfl, hl3, hF3⟩
    have HI3 := Lib.hid (HI2.out.step hg hl3 hF3 (by omega) HA1.out)
    clear hl3 hF3
    go_wp2_with fail
    go_roundg (T.length + 1 - (k + (1)))
    case measure => have := HGK.out; omega
    case rel => exact ⟨k + (1), HI3.out, by omega⟩
   have t1 : (bsort c == 1) = false := beq_eq_false_iff_ne.2 h1
   have ha := HA.out
   rw [if_neg h1] at ha
   have HA1 := Lib.hid ha
   clear ha HA h1
   by_cases h37 : c = 37
   ·have t37 : ((c.toNat : Int) == 37) = true := byte_eq h37
    have ha := HA1.out
    rw [if_pos h37, List.drop_drop] at ha
    have hsS : spanN notTen S = spanN notTen (T.drop (k + 1)) + 1 := by
     rw [HD.out, spanN_cons, if_pos (by rw [h37]; decide)]
    rw [show k + 1 + spanN notTen (T.drop (k + 1)) = k + spanN notTen S by omega] at ha
    have HA2 := Lib.hid ha
    have hN1 : 1 ≤ spanN notTen S := by omega
    have hib : Lib.indexByte S 10 = if spanN notTen S < S.length then (spanN notTen S : Int) else -1 := indexByte_ten S
    have HIB := Lib.hid hib
    clear ha HA1 h37 hib hsS
    have hidx : ∀ W, Calls Tryz.prog 49 #[.string ⟨S.toArray⟩, .int .u8 10] W fun e w' => e = .returned (.int .i64 (Lib.indexByte S 10)) ∧ W = w' := fun W => (Tryz.strings_IndexByte _ 10 W).mono fun _ _ ⟨h1, h2⟩ => ⟨h1, h2.symm⟩
    have HX := Lib.hid hidx
    clear hidx
    generalize spanN notTen S = N at *
    by_cases hN : N < S.length
    ·have hib := HIB.out
     rw [if_pos hN] at hib
     have HIB2 := Lib.hid hib
     have hSk := HSL.out
     have HNk : k + N ≤ T.length := by omega
     clear hib HIB hSk
     go_wp2_with fail
     refine (sort_byte _ c).mono ?_
     rintro e w' ⟨rfl, rfl⟩
     go_wp2_with fail
     refine (HX.out _).mono ?_
     rintro e w' ⟨rfl, rfl⟩
     rw [HIB2.out]
     go_wp2_with fail
     refine (to_any w2 bx T k _ en v HI2.out.lex (N) (N : Int) rfl (by omega) (by omega) (by omega)).mono ?_
     rintro e w3 ⟨rfl, hl3, hF3⟩
     have HI3 := Lib.hid (HI2.out.step hg hl3 hF3 (by omega) HA2.out)
     clear hl3 hF3
     go_wp2_with fail
     go_roundg (T.length + 1 - (k + (N)))
     case measure => have := HGK.out; omega
     case rel => exact ⟨k + (N), HI3.out, by omega⟩
    ·have hNe : N = S.length := by omega
     have hib := HIB.out
     rw [if_neg hN] at hib
     have HIB2 := Lib.hid hib
     have hSk := HSL.out
     have HNk : k + S.length ≤ T.length := by omega
     have ha := HA2.out
     rw [hNe] at ha
     have HA3 := Lib.hid ha
     clear hib HIB hSk ha HA2 hNe hN hsp
     go_wp2_with fail
     refine (sort_byte _ c).mono ?_
     rintro e w' ⟨rfl, rfl⟩
     go_wp2_with fail
     refine (HX.out _).mono ?_
     rintro e w' ⟨rfl, rfl⟩
     rw [HIB2.out]
     go_wp2_with fail
     refine (to_any w2 bx T k _ en v HI2.out.lex (S.length) (S.length : Int) rfl (by omega) (by omega) (by omega)).mono ?_
     rintro e w3 ⟨rfl, hl3, hF3⟩
     have HI3 := Lib.hid (HI2.out.step hg hl3 hF3 (by omega) HA3.out)
     clear hl3 hF3
     go_wp2_with fail
     go_roundg (T.length + 1 - (k + (S.length)))
     case measure => have := HGK.out; omega
     case rel => exact ⟨k + (S.length), HI3.out, by omega⟩
   have t37 : ((c.toNat : Int) == 37) = false := byte_ne h37
   have ha := HA1.out
   rw [if_neg h37] at ha
   have HA2 := Lib.hid ha
   have hpre : ∀ W, Calls Tryz.prog 50 #[.string ⟨S.toArray⟩, .string ⟨#[47, 42]⟩] W fun e w' => e = .returned (.bool (decide (c = 47 ∧ (T.drop (k + 1)).head? = some 42))) ∧ W = w' := fun W => by
    have := Tryz.strings_HasPrefix ⟨S.toArray⟩ ⟨#[47, 42]⟩ W
    simp only [HD.out] at this
    rw [← prefix_begin]
    rw [HD.out]
    exact this.mono fun _ _ ⟨h1, h2⟩ => ⟨h1, h2.symm⟩
   have HP := Lib.hid hpre
   clear ha HA1 h37 hpre
   by_cases hc : c = 47 ∧ (T.drop (k + 1)).head? = some 42
   ·have ha := HA2.out
    rw [if_pos hc, List.tail_drop] at ha
    have hp := HP.out
    rw [decide_eq_true hc] at hp
    have HP2 := Lib.hid hp
    have hS2 : (2 : Int) ≤ (S.length : Int) := by
     have h2 := hc.2
     have h3 := HSL.out
     rcases Nat.lt_or_ge (k + 1) T.length with h4 | h4
     ·omega
     ·rw [List.drop_eq_nil_of_le h4] at h2
      cases h2
    have hs2 : (⟨S.toArray⟩ : ByteArray).extract 2 S.length = ⟨(T.drop (k + 1 + 1)).toArray⟩ := by rw [slice_end, HS.out, List.drop_drop]
    obtain ⟨mx, hmx⟩ := HI2.out.max
    have hsz : (⟨(T.drop (k + 1 + 1)).toArray⟩ : ByteArray).size < 4294967281 := by
     show (T.drop (k + 1 + 1)).toArray.size < 4294967281
     rw [List.size_toArray, List.length_drop]
     omega
    have hidx : Calls Tryz.prog 51 #[.string ⟨(T.drop (k + 1 + 1)).toArray⟩, .string ⟨#[42, 47]⟩] w2 fun e w' => e = .returned (.int .i64 (endI (endOf (T.drop (k + 1 + 1))))) ∧ w2 = w' := by
     rw [← index_end]
     exact (Tryz.strings_Index _ ⟨#[42, 47]⟩ mx w2 hsz hmx).mono fun _ _ ⟨h1, h2⟩ => ⟨h1, h2.symm⟩
    have HX := Lib.hid hidx
    have hbd : ∀ n, endOf (T.drop (k + 1 + 1)) = some n → k + (n + 4) ≤ T.length := fun n h => by
     have := endOf_le _ _ h
     rw [List.length_drop] at this
     omega
    have HBD := Lib.hid hbd
    clear hc hp HP HA2 hidx hmx hsz hbd
    cases he : endOf (T.drop (k + 1 + 1)) with
    | none =>
     rw [he] at ha
     simp only at ha
     rw [← HD.out, HS.out] at ha
     have HA3 := Lib.hid ha.symm
     have hx := HX.out
     rw [he] at hx
     have HX2 := Lib.hid hx
     clear hx HX he ha HBD
     go_wp2_with fail
     refine (sort_byte _ c).mono ?_
     rintro e w' ⟨rfl, rfl⟩
     go_wp2_with fail
     refine (HP2.out _).mono ?_
     rintro e w' ⟨rfl, rfl⟩
     go_wp2_with fail
     refine (HX2.out).mono ?_
     rintro e w' ⟨rfl, rfl⟩
     simp only [endI]
     go_wp2_with fail
     go_ret
     exact HI2.out.done HA3.out
    | some n =>
     rw [he] at ha
     simp only at ha
     rw [List.drop_drop, show k + 1 + 1 + (n + 2) = k + (n + 4) by omega] at ha
     have HA3 := Lib.hid ha
     have hx := HX.out
     rw [he] at hx
     have HX2 := Lib.hid hx
     have hn4 := HBD.out n he
     clear hx HX he ha HBD
     go_wp2_with fail
     refine (sort_byte _ c).mono ?_
     rintro e w' ⟨rfl, rfl⟩
     go_wp2_with fail
     refine (HP2.out _).mono ?_
     rintro e w' ⟨rfl, rfl⟩
     go_wp2_with fail
     refine (HX2.out).mono ?_
     rintro e w' ⟨rfl, rfl⟩
     simp only [endI]
     go_wp2_with fail
     refine (to_any w2 bx T k _ en v HI2.out.lex (n + 4) ((n : Int) + 4) rfl (by omega) (by omega) (by omega)).mono ?_
     rintro e w3 ⟨rfl, hl3, hF3⟩
     have HI3 := Lib.hid (HI2.out.step hg hl3 hF3 (by omega) HA3.out)
     clear hl3 hF3
     go_wp2_with fail
     go_roundg (T.length + 1 - (k + (n + 4)))
     case measure => have := HGK.out; omega
     case rel => exact ⟨k + (n + 4), HI3.out, by omega⟩
   ·have ha := HA2.out
    rw [if_neg hc, ← HD.out, HS.out] at ha
    have HA3 := Lib.hid ha.symm
    have hp := HP.out
    rw [decide_eq_false hc] at hp
    have HP2 := Lib.hid hp
    clear ha HA2 hc hp HP
    go_wp2_with fail
    refine (sort_byte _ c).mono ?_
    rintro e w' ⟨rfl, rfl⟩
    go_wp2_with fail
    refine (HP2.out _).mono ?_
    rintro e w' ⟨rfl, rfl⟩
    go_wp2_with fail
    go_ret
    exact HI2.out.done HA3.out
  ·have hkT : k = T.length := by omega
   have ha := HI.out.ans
   rw [List.drop_eq_nil_of_le (by omega)] at ha
   have hR : R = (T.drop k, true) := by rw [← ha, List.drop_eq_nil_of_le (by omega)]; rfl
   have HRR := Lib.hid hR
   clear ha hR hkT
   go_wp2_with fail
   go_quiet (fail)
   go_wp2_with fail
   go_ret
   exact (HI.out.drewN _).done HRR.out
set_option maxHeartbeats 2000000 in
theorem name_any (w : World) (xv : Value) (l : List UInt8) (c : UInt8) (r : List UInt8) (hlc : l = c :: r) (hl : (l.length : Int) ≤ 1000000) :
    Calls Tryz.prog 19 #[xv, .string ⟨l.toArray⟩] w fun e w' => e = .returned (tryV (if bsort c = 2 then some (some ⟨1, 0, l.take (spanN isWord l), spanN isWord l⟩) else if bsort c = 5 then some (some ⟨1, 0, l.take (spanN isSign l), spanN isSign l⟩) else if bsort c = 6 then some (some ⟨1, 0, [c], 1⟩) else none)) ∧ Below w.heap.size w w' := by
 have hlen : 0 < l.length := by rw [hlc]; simp
 have hx : (⟨l.toArray⟩ : ByteArray)[0]'(by show 0 < l.toArray.size; simpa using hlen) = c := by subst hlc; rfl
 by_cases h2 : bsort c = 2
 ·rw [if_pos h2]
  have hs : (⟨l.toArray⟩ : ByteArray).extract 0 (spanN isWord l) = ⟨(l.take (spanN isWord l)).toArray⟩ := by rw [slice_mid]; rfl
  have hsp := spanN_le isWord l
  have hsp' : (spanN isWord l : Int) ≤ (l.length : Int) := by omega
  generalize hn : spanN isWord l = n at *
  have HN := Lib.hid hn
  generalize l.take n = t at *
  clear hlc hn
  go_enter Tryz.func19, Tryz.ntmps19
  go_wp2_with fail
  refine (sort_byte _ c).mono ?_
  rintro e w' ⟨rfl, rfl⟩
  go_wp2_with fail
  refine (word_any _ l hl).mono ?_
  rintro e w' ⟨rfl, rfl⟩
  rw [HN.out]
  go_wp2_with fail
  refine bodyPost_ret (v := tryV (some (some ⟨1, 0, t, n⟩))) (by simp [results, Tryz.results19, go_sem, tryV, tokV]) rfl ⟨rfl, (Below.refl _ _).alloc (Nat.le_refl _) _⟩
 rw [if_neg h2]
 have t2 : (bsort c == 2) = false := beq_eq_false_iff_ne.2 h2
 by_cases h5 : bsort c = 5
 ·rw [if_pos h5]
  have t2' : ((5 : Int) == 2) = false := rfl
  clear t2 h2 hlc
  generalize hR : (some (some (⟨1, 0, l.take (spanN isSign l), spanN isSign l⟩ : TokIs))) = R
  have HR := Lib.hid hR
  clear hR
  go_enter Tryz.func19, Tryz.ntmps19
  go_wp2_with fail
  refine (sort_byte _ c).mono ?_
  rintro e w' ⟨rfl, rfl⟩
  go_wp2_with fail
  go_loop [7] (fun i => ∃ k : Nat, k ≤ l.length ∧ i = .int .i64 k ∧ k ≤ spanN isSign l) (fun i => l.length - (intOf i).toNat)
  case atStart => exact ⟨0, Nat.zero_le _, rfl, Nat.zero_le _⟩
  case round =>
   obtain ⟨k, hk, rfl, hks⟩ := hrel
   have hsp := spanN_le isSign l
   have hgo := spanN_go isSign l k hks
   have HGO := Lib.hid hgo
   clear hgo
   by_cases hlt : k < l.length
   ·obtain ⟨d, hd, hx1, hg⟩ := byte_at l k hlt
    have HG := Lib.hid hg
    have hlt' : (k : Int) < (l.length : Int) := by omega
    clear hd hg
    by_cases hw : bsort d = 5
    ·have hks' : k < spanN isSign l := HGO.out.2 ⟨d, HG.out, by simpa [isSign] using hw⟩
     go_wp2_with fail
     refine (sort_byte _ d).mono ?_
     rintro e w' ⟨rfl, rfl⟩
     go_wp2_with fail
     go_round
     case rel => exact ⟨k + 1, hlt, by go_num, hks'⟩
     case measure => simp [intOf]; omega
    ·have he : k = spanN isSign l := by
      rcases Nat.lt_or_ge k (spanN isSign l) with h | h
      ·obtain ⟨c', h3, h4⟩ := HGO.out.1 h
       rw [HG.out] at h3
       cases h3
       exact absurd (by simpa [isSign] using h4) hw
      ·omega
     have HE := Lib.hid he
     have t5 : (bsort d == 5) = false := beq_eq_false_iff_ne.2 hw
     have hs : (⟨l.toArray⟩ : ByteArray).extract 0 k = ⟨(l.take k).toArray⟩ := by rw [slice_mid]; rfl
     clear he hw
     go_wp2_with fail
     refine (sort_byte _ d).mono ?_
     rintro e w' ⟨rfl, rfl⟩
     go_wp2_with fail
     rw [← HR.out, ← HE.out]
     refine bodyPost_ret (v := tryV (some (some ⟨1, 0, l.take k, k⟩))) (by simp [results, Tryz.results19, go_sem, tryV, tokV]) rfl ⟨rfl, (Below.refl _ _).alloc (Nat.le_refl _) _⟩
   ·have he : k = spanN isSign l := by omega
    have HE := Lib.hid he
    have hs : (⟨l.toArray⟩ : ByteArray).extract 0 k = ⟨(l.take k).toArray⟩ := by rw [slice_mid]; rfl
    have hk1 : decide ((k : Int) < (l.length : Int)) = false := decide_eq_false (by omega)
    clear he
    go_wp2_with fail
    rw [← HR.out, ← HE.out]
    refine bodyPost_ret (v := tryV (some (some ⟨1, 0, l.take k, k⟩))) (by simp [results, Tryz.results19, go_sem, tryV, tokV]) rfl ⟨rfl, (Below.refl _ _).alloc (Nat.le_refl _) _⟩
 rw [if_neg h5]
 have t5 : (bsort c == 5) = false := beq_eq_false_iff_ne.2 h5
 by_cases h6 : bsort c = 6
 ·rw [if_pos h6]
  have hs : (⟨l.toArray⟩ : ByteArray).extract 0 1 = ⟨[c].toArray⟩ := by rw [slice_mid, hlc]; rfl
  have hl1 : (1 : Int) ≤ (l.length : Int) := by omega
  clear t2 t5 h2 h5 hlc
  go_enter Tryz.func19, Tryz.ntmps19
  go_wp2_with fail
  refine (sort_byte _ c).mono ?_
  rintro e w' ⟨rfl, rfl⟩
  go_wp2_with fail
  refine bodyPost_ret (v := tryV (some (some ⟨1, 0, [c], 1⟩))) (by simp [results, Tryz.results19, go_sem, tryV, tokV]) rfl ⟨rfl, (Below.refl _ _).alloc (Nat.le_refl _) _⟩
 rw [if_neg h6]
 have t6 : (bsort c == 6) = false := beq_eq_false_iff_ne.2 h6
 clear h2 h5 h6 hlc
 go_enter Tryz.func19, Tryz.ntmps19
 go_wp2_with fail
 refine (sort_byte _ c).mono ?_
 rintro e w' ⟨rfl, rfl⟩
 go_wp2_with fail
 refine bodyPost_ret (v := tryV none) (by simp [results, Tryz.results19, go_sem, tryV, tokV]) rfl ⟨rfl, (Below.refl _ _).alloc (Nat.le_refl _) _⟩
end Go.Proofs.YtiffopheamnngaaGreatDoor
