import Derived.Test.YtcallkljcjimiaaGreatDoorJW29
import Derived.Shelf.Small.Strs
import Derived.Shelf.Strings.Search1
import Derived.Shelf.Strings.Search2
import Derived.Shelf.Strings.Search3
import Derived.Shelf.Strings.Count
import Derived.Shelf.LaysM
import Derived.Shelf.Strings.Shaped
import Derived.Shelf.Strings.Prefix
import Derived.Test.YtcallkljcjimiaaGreatDoorProg
import Derived.StillTailTactics
import Derived.Deep.LoopGhost
import Derived.IntWalk
import Derived.Lib.Index
namespace Go.Proofs
open Go.Shelf
def Tryz.lays137_ren : Go.Shelf.Ren := ⟨fun | 137 => 87 | 217 => 121 | 266 => 144 | n => n, fun | 9 => 9 | 5 => 5 | 3 => 3 | n => n, fun | n => n⟩
theorem Tryz.lays137 : Go.Proofs.Lays.n137 Tryz.prog Tryz.lays137_ren := {
 mixed := by kernel_rfl
 f137 := Tryz.func87.trans (congrArg some (by kernel_rfl))
 f217 := Tryz.func121.trans (congrArg some (by kernel_rfl))
 f266 := Tryz.func144.trans (congrArg some (by kernel_rfl))
 t3 := Tryz.underlying3
 a3 := Tryz.isAgg3
 z3 := Tryz.sizeOf3
 v3 := Tryz.zeroValue3
 t5 := Tryz.underlying5
 a5 := Tryz.isAgg5
 z5 := Tryz.sizeOf5
 v5 := Tryz.zeroValue5
 t9 := Tryz.underlying9
 a9 := Tryz.isAgg9
 z9 := Tryz.sizeOf9
 v9 := Tryz.zeroValue9 }
open Go.RowKit in
theorem Tryz.strings_IndexByte (s : ByteArray) (c : Int) (w : World) :
    Calls Tryz.prog 87 #[.string s, .int .u8 c] w fun e w' => e = .returned (.int .i64 (Lib.indexByte s.data.toList c.toNat.toUInt8)) ∧ w' = w := Any.strings_IndexByte Tryz.lays137 s c w
def Tryz.lays143_ren : Go.Shelf.Ren := ⟨fun | 143 => 88 | 219 => 122 | 217 => 121 | 225 => 145 | 224 => 146 | 267 => 147 | 266 => 144 | 314 => 156 | n => n, fun | 9 => 9 | 3 => 3 | 4 => 4 | 5 => 5 | 46 => 64 | 146 => 225 | 51 => 181 | n => n, fun | 1 => 3 | n => n⟩
theorem Tryz.lays143 : Go.Proofs.Lays.n143 Tryz.prog Tryz.lays143_ren := {
 mixed := by kernel_rfl
 f143 := Tryz.func88.trans (congrArg some (by kernel_rfl))
 f217 := Tryz.func121.trans (congrArg some (by kernel_rfl))
 f219 := Tryz.func122.trans (congrArg some (by kernel_rfl))
 f224 := Tryz.func146.trans (congrArg some (by kernel_rfl))
 f225 := Tryz.func145.trans (congrArg some (by kernel_rfl))
 f266 := Tryz.func144.trans (congrArg some (by kernel_rfl))
 f267 := Tryz.func147.trans (congrArg some (by kernel_rfl))
 f314 := Tryz.func156.trans (congrArg some (by kernel_rfl))
 t3 := Tryz.underlying3
 a3 := Tryz.isAgg3
 z3 := Tryz.sizeOf3
 v3 := Tryz.zeroValue3
 t4 := Tryz.underlying4
 a4 := Tryz.isAgg4
 z4 := Tryz.sizeOf4
 v4 := Tryz.zeroValue4
 t5 := Tryz.underlying5
 a5 := Tryz.isAgg5
 z5 := Tryz.sizeOf5
 v5 := Tryz.zeroValue5
 t9 := Tryz.underlying9
 a9 := Tryz.isAgg9
 z9 := Tryz.sizeOf9
 v9 := Tryz.zeroValue9
 t46 := Tryz.underlying64
 a46 := Tryz.isAgg64
 z46 := Tryz.sizeOf64
 v46 := Tryz.zeroValue64
 t51 := Tryz.underlying181
 a51 := Tryz.isAgg181
 z51 := Tryz.sizeOf181
 v51 := Tryz.zeroValue181
 t146 := Tryz.underlying225
 a146 := Tryz.isAgg225
 z146 := Tryz.sizeOf225
 v146 := Tryz.zeroValue225
 g1 := by kernel_rfl }
open Go.RowKit Go.Lib in
theorem Tryz.strings_Index (s sub : ByteArray) (m : Int) (w : World) (hs : s.size < 4294967281) (hm : w.cell? ⟨3, 0, none⟩ = some (.int .i64 m)) :
    Calls Tryz.prog 88 #[.string s, .string sub] w fun e w' => e = .returned (.int .i64 (Lib.index s.data.toList sub.data.toList)) ∧ w' = w := Any.strings_Index Tryz.lays143 s sub m w hs hm
def Tryz.lays138_ren : Go.Shelf.Ren := ⟨fun | 138 => 120 | 195 => 142 | 218 => 143 | 143 => 88 | 219 => 122 | 217 => 121 | 225 => 145 | 224 => 146 | 267 => 147 | 266 => 144 | 314 => 156 | n => n, fun | 9 => 9 | 3 => 3 | 4 => 4 | 5 => 5 | 0 => 0 | 46 => 64 | 146 => 225 | 51 => 181 | n => n, fun | 1 => 3 | n => n⟩
theorem Tryz.lays138 : Go.Proofs.Lays.n138 Tryz.prog Tryz.lays138_ren := {
 mixed := by kernel_rfl
 f138 := Tryz.func120.trans (congrArg some (by kernel_rfl))
 f143 := Tryz.func88.trans (congrArg some (by kernel_rfl))
 f195 := Tryz.func142.trans (congrArg some (by kernel_rfl))
 f217 := Tryz.func121.trans (congrArg some (by kernel_rfl))
 f218 := Tryz.func143.trans (congrArg some (by kernel_rfl))
 f219 := Tryz.func122.trans (congrArg some (by kernel_rfl))
 f224 := Tryz.func146.trans (congrArg some (by kernel_rfl))
 f225 := Tryz.func145.trans (congrArg some (by kernel_rfl))
 f266 := Tryz.func144.trans (congrArg some (by kernel_rfl))
 f267 := Tryz.func147.trans (congrArg some (by kernel_rfl))
 f314 := Tryz.func156.trans (congrArg some (by kernel_rfl))
 t0 := Tryz.underlying0
 a0 := Tryz.isAgg0
 z0 := Tryz.sizeOf0
 v0 := Tryz.zeroValue0
 t3 := Tryz.underlying3
 a3 := Tryz.isAgg3
 z3 := Tryz.sizeOf3
 v3 := Tryz.zeroValue3
 t4 := Tryz.underlying4
 a4 := Tryz.isAgg4
 z4 := Tryz.sizeOf4
 v4 := Tryz.zeroValue4
 t5 := Tryz.underlying5
 a5 := Tryz.isAgg5
 z5 := Tryz.sizeOf5
 v5 := Tryz.zeroValue5
 t9 := Tryz.underlying9
 a9 := Tryz.isAgg9
 z9 := Tryz.sizeOf9
 v9 := Tryz.zeroValue9
 t46 := Tryz.underlying64
 a46 := Tryz.isAgg64
 z46 := Tryz.sizeOf64
 v46 := Tryz.zeroValue64
 t51 := Tryz.underlying181
 a51 := Tryz.isAgg181
 z51 := Tryz.sizeOf181
 v51 := Tryz.zeroValue181
 t146 := Tryz.underlying225
 a146 := Tryz.isAgg225
 z146 := Tryz.sizeOf225
 v146 := Tryz.zeroValue225
 g1 := by kernel_rfl }
open Go.RowKit Go.Lib in
theorem Tryz.strings_Count_one (s : ByteArray) (c : UInt8) (w : World) :
    Calls Tryz.prog 120 #[.string s, .string ⟨#[c]⟩] w fun e w' => e = .returned (.int .i64 (Lib.countByte s.data.toList c)) ∧ w' = w := Any.strings_Count_one Tryz.lays138 s c w
end Go.Proofs
namespace Go.Proofs.YtcallkljcjimiaaGreatDoor
open Go.RowKit
set_option maxRecDepth 100000
def lexCells (bx : Nat) (T : List UInt8) (a ln en : Nat) (v : Value) : Array Value :=
 #[.string ⟨T.toArray⟩, .int .i64 (a : Int), .int .i64 (ln : Int), .int .i64 (en : Int), v,
  .func (.func 40) #[.pointer (some ⟨bx, 0, none⟩)] #[], .func (.func 41) #[.pointer (some ⟨bx, 0, none⟩)] #[],
  .func (.func 42) #[.pointer (some ⟨bx, 0, none⟩)] #[], .func (.func 43) #[.pointer (some ⟨bx, 0, none⟩)] #[],
  .func (.func 44) #[.pointer (some ⟨bx, 0, none⟩)] #[], .func (.func 45) #[.pointer (some ⟨bx, 0, none⟩)] #[]]
structure LexAt (w : World) (bx : Nat) (T : List UInt8) (a ln en : Nat) (v : Value) : Prop where
 blk : w.heap[bx]? = some (.cells (lexCells bx T a ln en v) 105 (0, 0))
section
variable {w w' : World} {bx a ln en : Nat} {T : List UInt8} {v : Value}
theorem LexAt.lt (h : LexAt w bx T a ln en v) : bx < w.heap.size := (Array.getElem?_eq_some_iff.1 h.blk).1
theorem LexAt.keep (h : LexAt w bx T a ln en v) (hb : w'.heap[bx]? = w.heap[bx]?) : LexAt w' bx T a ln en v := ⟨hb.trans h.blk⟩
theorem LexAt.later (h : LexAt w bx T a ln en v) (hb : Below w.heap.size w w') : LexAt w' bx T a ln en v := h.keep (hb.block _ h.lt)
theorem LexAt.cells (h : LexAt w bx T a ln en v) : w.cell? ⟨bx, 0, none⟩ = some (.string ⟨T.toArray⟩) ∧ w.cell? ⟨bx, 1, none⟩ = some (.int .i64 (a : Int)) ∧ w.cell? ⟨bx, 2, none⟩ = some (.int .i64 (ln : Int)) ∧ w.cell? ⟨bx, 3, none⟩ = some (.int .i64 (en : Int)) ∧ w.cell? ⟨bx, 4, none⟩ = some v ∧ (∀ o, w.frozen? ⟨bx, o, none⟩ = false) :=
 ⟨by rw [cell_of_row w bx 0 _ _ (0, 0) h.blk]; rfl, by rw [cell_of_row w bx 1 _ _ (0, 0) h.blk]; rfl, by rw [cell_of_row w bx 2 _ _ (0, 0) h.blk]; rfl, by rw [cell_of_row w bx 3 _ _ (0, 0) h.blk]; rfl, by rw [cell_of_row w bx 4 _ _ (0, 0) h.blk]; rfl, fun o => by simp [World.frozen?, h.blk]⟩
theorem setCell_blk {b i : Nat} {cs : Array Value} {t : TypeId} (h : w.heap[b]? = some (.cells cs t (0, 0))) (u : Value) : (w.setCell ⟨b, i, none⟩ u).heap[b]? = some (.cells (cs.setIfInBounds i u) t (0, 0)) := by
 simp only [World.setCell, Array.getElem?_modify, h, if_true, Option.map_some, Option.isSome_none, Bool.false_eq_true, if_false]
theorem LexAt.setAt (h : LexAt w bx T a ln en v) (a' : Nat) : LexAt (w.setCell ⟨bx, 1, none⟩ (.int .i64 (a' : Int))) bx T a' ln en v := ⟨setCell_blk h.blk _⟩
theorem LexAt.setLn (h : LexAt w bx T a ln en v) (ln' : Nat) : LexAt (w.setCell ⟨bx, 2, none⟩ (.int .i64 (ln' : Int))) bx T a ln' en v := ⟨setCell_blk h.blk _⟩
theorem LexAt.setEn (h : LexAt w bx T a ln en v) (en' : Nat) : LexAt (w.setCell ⟨bx, 3, none⟩ (.int .i64 (en' : Int))) bx T a ln en' v := ⟨setCell_blk h.blk _⟩
theorem LexAt.setL (h : LexAt w bx T a ln en v) (v' : Value) : LexAt (w.setCell ⟨bx, 4, none⟩ v') bx T a ln en v' := ⟨setCell_blk h.blk _⟩
theorem LexAt.drew (h : LexAt w bx T a ln en v) : LexAt w.drew bx T a ln en v := ⟨h.blk⟩
theorem LexAt.drewN (h : LexAt w bx T a ln en v) (n : Nat) : LexAt (w.drewN n) bx T a ln en v := ⟨h.blk⟩
end
set_option maxHeartbeats 2000000 in
theorem to_any (w : World) (bx : Nat) (T : List UInt8) (a ln en : Nat) (v : Value) (h : LexAt w bx T a ln en v) (m : Nat) (mi : Int) (hmi : mi = (m : Int)) (ham : a + m ≤ T.length) (hT : (T.length : Int) ≤ 1000000) (hln : (ln : Int) ≤ 1000000) :
    Calls Tryz.prog 86 #[.pointer (some ⟨bx, 0, none⟩), .int .i64 mi] w fun e w' => e = .returned (.tuple #[]) ∧ LexAt w' bx T (a + m) (ln + lines ((T.drop a).take m)) en v ∧ Fr (· = bx) w w' := by
 subst hmi
 obtain ⟨c0, c1, c2, c3, c4, hf⟩ := h.cells
 have hs : (⟨T.toArray⟩ : ByteArray).extract a (a + m) = ⟨((T.drop a).take m).toArray⟩ := by rw [slice_mid, show a + m - a = m by omega]
 have hcnt : ∀ W, Calls Tryz.prog 120 #[.string ⟨((T.drop a).take m).toArray⟩, .string ⟨#[10]⟩] W fun e w' => e = .returned (.int .i64 (lines ((T.drop a).take m) : Int)) ∧ w' = W := fun W => Tryz.strings_Count_one _ 10 W
 have hlm : lines ((T.drop a).take m) ≤ T.length := Nat.le_trans (List.count_le_length ..) (by rw [List.length_take, List.length_drop]; omega)
 generalize lines ((T.drop a).take m) = L at *
 have HL := Lib.hid h
 have hw1 : IntKind.i64.wrap ((a : Int) + (m : Int)) = (a : Int) + (m : Int) := IntWalk.i64_in _ (by omega)
 have hw2 : IntKind.i64.wrap ((ln : Int) + (L : Int)) = (ln : Int) + (L : Int) := IntWalk.i64_in _ (by omega)
 have hw3 : ((a : Int) + (m : Int)).toNat = a + m := by omega
 have hw4 : (0 : Int) ≤ (a : Int) + (m : Int) := by omega
 have hw5 : (a : Int) ≤ (a : Int) + (m : Int) := by omega
 have hw6 : (a : Int) + (m : Int) ≤ (T.length : Int) := by omega
 clear h
 go_enter Tryz.func86, Tryz.ntmps86
 go_wp2_with fail
 go_still_tail 23, (by kernel_rfl)
 still_call (hcnt _)
 repeat still_step
 refine wpStill_nil ?_
 go_wp2_with fail
 go_end0
 refine ⟨rfl, ((HL.out.setLn (ln + L)).setAt (a + m)).drew, ?_⟩
 exact (((Fr.refl (· = bx) w).setCell (p := ⟨bx, 2, none⟩) (.inl rfl) _).setCell (p := ⟨bx, 1, none⟩) (.inl rfl) _).drew
end Go.Proofs.YtcallkljcjimiaaGreatDoor
namespace Go.Proofs.YtcallkljcjimiaaGreatDoor
open Go.RowKit
set_option maxRecDepth 100000
def notTen (c : UInt8) : Bool := decide (c ≠ 10)
theorem indexByte_ten : ∀ l : List UInt8, Lib.indexByte l 10 = if spanN notTen l < l.length then (spanN notTen l : Int) else -1
 | [] => rfl
 | c :: r => by
  have ih := indexByte_ten r
  have hle := spanN_le notTen r
  rw [Lib.indexByte, spanN_cons, List.length_cons, ih]
  by_cases h : c = 10
  ·subst h
   rfl
  ·have h1 : (c == 10) = false := beq_eq_false_iff_ne.2 h
   have h3 : notTen c = true := by simpa [notTen] using h
   rw [h1, h3]
   simp only [Bool.false_eq_true, if_false, if_true]
   generalize spanN notTen r = n at *
   generalize r.length = m at *
   by_cases h2 : n < m
   ·rw [if_pos h2, if_pos (show n + 1 < m + 1 by omega), if_neg (by rw [beq_iff_eq]; omega)]
    omega
   ·rw [if_neg h2, if_neg (show ¬ n + 1 < m + 1 by omega)]
    rfl
theorem prefix_end (c : UInt8) (r : List UInt8) : List.isPrefixOf [42, 47] (c :: r) = decide (c = 42 ∧ r.head? = some 47) := by
 cases r with
 | nil =>
  rw [decide_eq_false (by simp)]
  simp [List.isPrefixOf]
 | cons d r =>
  by_cases h : c = 42
  ·subst h
   by_cases h2 : d = 47
   ·subst h2
    rfl
   ·have h3 : ¬ (47 : UInt8) = d := fun e => h2 e.symm
    rw [decide_eq_false (by simp [h2])]
    simp [List.isPrefixOf, h3]
  ·have h3 : ¬ (42 : UInt8) = c := fun e => h e.symm
   rw [decide_eq_false (by simp [h])]
   simp [List.isPrefixOf, h3]
def endI : Option Nat → Int
 | some n => (n : Int)
 | none => -1
theorem index_end : ∀ l : List UInt8, Lib.index l [42, 47] = endI (endOf l)
 | [] => rfl
 | c :: r => by
  have ih := index_end r
  rw [Lib.index, endOf, ih, prefix_end]
  by_cases h : c = 42 ∧ r.head? = some 47
  ·rw [if_pos h, decide_eq_true h]
   rfl
  ·rw [if_neg h, decide_eq_false h]
   cases endOf r with
   | none => rfl
   | some n =>
    have h1 : ((n : Int) == -1) = false := by rw [beq_eq_false_iff_ne]; omega
    show (if false = true then (0 : Int) else if ((n : Int) == -1) = true then -1 else (n : Int) + 1) = ((n + 1 : Nat) : Int)
    rw [h1]
    rfl
theorem prefix_begin (c : UInt8) (r : List UInt8) : Lib.hasPrefix (c :: r) [47, 42] = decide (c = 47 ∧ r.head? = some 42) := by
 unfold Lib.hasPrefix
 cases r with
 | nil =>
  rw [decide_eq_false (by simp)]
  simp [List.isPrefixOf]
 | cons d r =>
  by_cases h : c = 47
  ·subst h
   by_cases h2 : d = 42
   ·subst h2
    rfl
   ·have h3 : ¬ (42 : UInt8) = d := fun e => h2 e.symm
    rw [decide_eq_false (by simp [h2])]
    simp [List.isPrefixOf, h3]
  ·have h3 : ¬ (47 : UInt8) = c := fun e => h e.symm
   rw [decide_eq_false (by simp [h])]
   simp [List.isPrefixOf, h3]
structure SkipInv (w : World) (bx : Nat) (T : List UInt8) (a ln en : Nat) (v : Value) (R : List UInt8 × Bool) (k : Nat) (wr : World) : Prop where
 lex : LexAt wr bx T k (ln + lines ((T.drop a).take (k - a))) en v
 fr : Fr (· = bx) w wr
 ge : a ≤ k
 le : k ≤ T.length
 ans : skipB (T.drop k) = R
 max : ∃ m : Int, wr.cell? ⟨3, 0, none⟩ = some (.int .i64 m)
theorem lines_take_add (T : List UInt8) (a k m : Nat) (h : a ≤ k) : lines ((T.drop a).take (k - a)) + lines ((T.drop k).take m) = lines ((T.drop a).take (k + m - a)) := by
 rw [show k + m - a = (k - a) + m by omega, List.take_add, lines_app, List.drop_drop, show a + (k - a) = k by omega]
theorem SkipInv.step {w wr w' : World} {bx a ln en k m : Nat} {T : List UInt8} {v : Value} {R : List UInt8 × Bool} (h : SkipInv w bx T a ln en v R k wr) (hg : 3 ≠ bx)
    (hl : LexAt w' bx T (k + m) (ln + lines ((T.drop a).take (k - a)) + lines ((T.drop k).take m)) en v) (hF : Fr (· = bx) wr w') (hm : k + m ≤ T.length) (ha : skipB (T.drop (k + m)) = R) : SkipInv w bx T a ln en v R (k + m) w' := by
 refine ⟨?_, h.fr.trans hF, by have := h.ge; omega, hm, ha, ?_⟩
 ·rw [Nat.add_assoc, lines_take_add T a k m h.ge] at hl
  exact hl
 ·obtain ⟨x, hx⟩ := h.max
  exact ⟨x, (hF.cell (p := ⟨3, 0, none⟩) (World.block_lt_of_cell? wr _ hx) hg).trans hx⟩
theorem skipB_cons (c : UInt8) (r : List UInt8) : skipB (c :: r) = if bsort c = 1 then skipB r
    else if c = 37 then skipB (r.drop (spanN notTen r))
    else if c = 47 ∧ r.head? = some 42 then
     match endOf r.tail with
     | none => (c :: r, false)
     | some n => skipB (r.tail.drop (n + 2))
    else (c :: r, true) := by
 unfold skipB
 rw [List.length_cons, skipF_cons, show (fun c : UInt8 => decide (c ≠ 10)) = notTen from rfl]
 have h1 : skipF r.length (r.drop (spanN notTen r)) = skipF (r.drop (spanN notTen r)).length (r.drop (spanN notTen r)) := skipF_fuel _ _ _ (by rw [List.length_drop]; omega) (Nat.le_refl _)
 rw [h1]
 cases endOf r.tail with
 | none => rfl
 | some n =>
  have h2 : skipF r.length (r.tail.drop (n + 2)) = skipF (r.tail.drop (n + 2)).length (r.tail.drop (n + 2)) := skipF_fuel _ _ _ (by rw [List.length_drop, List.length_tail]; omega) (Nat.le_refl _)
  simp only
  rw [h2]
theorem SkipInv.drewN {w wr : World} {bx a ln en k : Nat} {T : List UInt8} {v : Value} {R : List UInt8 × Bool} (h : SkipInv w bx T a ln en v R k wr) (n : Nat) : SkipInv w bx T a ln en v R k (wr.drewN n) :=
 ⟨h.lex.drewN n, h.fr.drewN n, h.ge, h.le, h.ans, h.max⟩
def SkipDone (w : World) (bx : Nat) (T : List UInt8) (a ln en : Nat) (v : Value) (R : List UInt8 × Bool) (e : Ending) (w' : World) : Prop :=
 e = .returned (.bool R.2) ∧ ∃ k, LexAt w' bx T k (ln + lines ((T.drop a).take (k - a))) en v ∧ Fr (· = bx) w w' ∧ a ≤ k ∧ k ≤ T.length ∧ R.1 = T.drop k
theorem SkipInv.done {w wr : World} {bx a ln en k : Nat} {T : List UInt8} {v : Value} {R : List UInt8 × Bool} (h : SkipInv w bx T a ln en v R k wr) {b : Bool} (hR : R = (T.drop k, b)) : SkipDone w bx T a ln en v R (.returned (.bool b)) wr :=
 ⟨by rw [hR], k, h.lex, h.fr, h.ge, h.le, by rw [hR]⟩
set_option maxHeartbeats 4000000 in
theorem skip_any (w : World) (bx : Nat) (T : List UInt8) (a ln en : Nat) (v : Value) (h : LexAt w bx T a ln en v) (ha : a ≤ T.length) (hT : (T.length : Int) ≤ 400000) (hln : (ln : Int) ≤ 400000) (hg : 3 ≠ bx)
    (hmax : ∃ m : Int, w.cell? ⟨3, 0, none⟩ = some (.int .i64 m)) :
    Calls Tryz.prog 46 #[.pointer (some ⟨bx, 0, none⟩)] w (SkipDone w bx T a ln en v (skipB (T.drop a))) := by
 have HI0 : Hid (SkipInv w bx T a ln en v (skipB (T.drop a)) a w) := ⟨by rw [Nat.sub_self]; simpa [lines] using h, Fr.refl _ _, Nat.le_refl _, ha, rfl, hmax⟩
 generalize hR : skipB (T.drop a) = R at *
 clear h hmax hR
 go_enter Tryz.func46, Tryz.ntmps46
 go_wp2_with fail
 go_loopg [] (T.length + 1 - a) (fun n wr => ∃ k, SkipInv w bx T a ln en v R k wr ∧ T.length + 1 ≤ k + n)
 case atStart => exact ⟨a, HI0.out, by omega⟩
 case round =>
  obtain ⟨k, hI, hgk⟩ := hrel
  have HI := Lib.hid hI
  have hk := hI.le
  obtain ⟨c0, c1, c2, c3, c4, hf⟩ := hI.lex.cells
  have HGK := Lib.hid hgk
  clear hI hgk HI0
  by_cases hlt : k < T.length
  ·obtain ⟨c, hd, hx, hgc⟩ := byte_at T k hlt
   have hlt' : (k : Int) < (T.length : Int) := by omega
   have hk' : (k : Int) ≤ (T.length : Int) := by omega
   obtain ⟨S, hS⟩ : ∃ S, S = T.drop k := ⟨_, rfl⟩
   have hs : (⟨T.toArray⟩ : ByteArray).extract k T.length = ⟨S.toArray⟩ := by rw [hS]; exact slice_end T k
   have hD : S = c :: T.drop (k + 1) := by rw [hS]; exact hd
   have hSl : S.length = T.length - k := by rw [hS, List.length_drop]
   have hlen0 : 0 < S.length := by omega
   have hx0 : (⟨S.toArray⟩ : ByteArray)[0]'(by show 0 < S.toArray.size; simpa using hlen0) = c := by subst hD; rfl
   have ha := HI.out.ans
   rw [← hS, hD, skipB_cons] at ha
   have HA := Lib.hid ha
   have HD := Lib.hid hD
   have HS := Lib.hid hS
   have HSL := Lib.hid hSl
   have hS1 : (1 : Int) ≤ (S.length : Int) := by omega
   clear ha hd hgc hx hD hS hSl
   have hlb : lines ((T.drop a).take (k - a)) ≤ T.length := Nat.le_trans (List.count_le_length ..) (by rw [List.length_take, List.length_drop]; omega)
   have hsp := spanN_le notTen S
   go_wp2_with fail
   go_quiet (fail)
   obtain ⟨w1, hw1⟩ : ∃ u, u = wr.drewN nq := ⟨_, rfl⟩
   have HI1 : Hid (SkipInv w bx T a ln en v R k w1) := by rw [hw1]; exact HI.out.drewN _
   rw [← hw1]
   clear hw1 c0 c1 c2 c3 c4 hf
   obtain ⟨c0, c1, c2, c3, c4, hf⟩ := HI1.out.lex.cells
   go_wp2_with fail
   go_quiet (fail)
   obtain ⟨w2, hw2⟩ : ∃ u, u = w1.drewN nq := ⟨_, rfl⟩
   have HI2 : Hid (SkipInv w bx T a ln en v R k w2) := by rw [hw2]; exact HI1.out.drewN _
   rw [← hw2]
   clear hw2 c0 c1 c2 c3 c4 hf
   obtain ⟨c0, c1, c2, c3, c4, hf⟩ := HI2.out.lex.cells
   by_cases h1 : bsort c = 1
   ·have ha := HA.out
    rw [if_pos h1] at ha
    have HA1 := Lib.hid ha
    clear ha HA
    go_wp2_with fail
    refine (sort_byte _ c).mono ?_
    rintro e w' ⟨rfl, rfl⟩
    go_wp2_with fail
    refine (to_any w2 bx T k _ en v HI2.out.lex (1) 1 rfl (by omega) (by omega) (by omega)).mono ?_
    rintro e w3 ⟨rfl, hl3, hF3⟩
    have HI3 := Lib.hid (HI2.out.step hg hl3 hF3 (by omega) HA1.out)
    clear hl3 hF3
    go_wp2_with fail
    go_roundg (T.length + 1 - (k + (1)))
    case measure => have := HGK.out; omega
    case rel => exact ⟨k + (1), HI3.out, by omega⟩
   have t1 : (bsort c == 1) = false := beq_eq_false_iff_ne.2 h1
   have ha := HA.out
   rw [if_neg h1] at ha
   have HA1 := Lib.hid ha
   clear ha HA h1
   by_cases h37 : c = 37
   ·have t37 : ((c.toNat : Int) == 37) = true := byte_eq h37
    have ha := HA1.out
    rw [if_pos h37, List.drop_drop] at ha
    have hsS : spanN notTen S = spanN notTen (T.drop (k + 1)) + 1 := by
     rw [HD.out, spanN_cons, if_pos (by rw [h37]; decide)]
    rw [show k + 1 + spanN notTen (T.drop (k + 1)) = k + spanN notTen S by omega] at ha
    have HA2 := Lib.hid ha
    have hN1 : 1 ≤ spanN notTen S := by omega
    have hib : Lib.indexByte S 10 = if spanN notTen S < S.length then (spanN notTen S : Int) else -1 := indexByte_ten S
    have HIB := Lib.hid hib
    clear ha HA1 h37 hib hsS
    have hidx : ∀ W, Calls Tryz.prog 87 #[.string ⟨S.toArray⟩, .int .u8 10] W fun e w' => e = .returned (.int .i64 (Lib.indexByte S 10)) ∧ W = w' := fun W => (Tryz.strings_IndexByte _ 10 W).mono fun _ _ ⟨h1, h2⟩ => ⟨h1, h2.symm⟩
    have HX := Lib.hid hidx
    clear hidx
    generalize spanN notTen S = N at *
    by_cases hN : N < S.length
    ·have hib := HIB.out
     rw [if_pos hN] at hib
     have HIB2 := Lib.hid hib
     have hSk := HSL.out
     have HNk : k + N ≤ T.length := by omega
     clear hib HIB hSk
     go_wp2_with fail
     refine (sort_byte _ c).mono ?_
     rintro e w' ⟨rfl, rfl⟩
     go_wp2_with fail
     refine (HX.out _).mono ?_
     rintro e w' ⟨rfl, rfl⟩
     rw [HIB2.out]
     go_wp2_with fail
     refine (to_any w2 bx T k _ en v HI2.out.lex (N) (N : Int) rfl (by omega) (by omega) (by omega)).mono ?_
     rintro e w3 ⟨rfl, hl3, hF3⟩
     have HI3 := Lib.hid (HI2.out.step hg hl3 hF3 (by omega) HA2.out)
     clear hl3 hF3
     go_wp2_with fail
     go_roundg (T.length + 1 - (k + (N)))
     case measure => have := HGK.out; omega
     case rel => exact ⟨k + (N), HI3.out, by omega⟩
    ·have hNe : N = S.length := by omega
     have hib := HIB.out
     rw [if_neg hN] at hib
     have HIB2 := Lib.hid hib
     have hSk := HSL.out
     have HNk : k + S.length ≤ T.length := by omega
     have ha := HA2.out
     rw [hNe] at ha
     have HA3 := Lib.hid ha
     clear hib HIB hSk ha HA2 hNe hN hsp
     go_wp2_with fail
     refine (sort_byte _ c).mono ?_
     rintro e w' ⟨rfl, rfl⟩
     go_wp2_with fail
     refine (HX.out _).mono ?_
     rintro e w' ⟨rfl, rfl⟩
     rw [HIB2.out]
     go_wp2_with fail
     refine (to_any w2 bx T k _ en v HI2.out.lex (S.length) (S.length : Int) rfl (by omega) (by omega) (by omega)).mono ?_
     rintro e w3 ⟨rfl, hl3, hF3⟩
     have HI3 := Lib.hid (HI2.out.step hg hl3 hF3 (by omega) HA3.out)
     clear hl3 hF3
     go_wp2_with fail
     go_roundg (T.length + 1 - (k + (S.length)))
     case measure => have := HGK.out; omega
     case rel => exact ⟨k + (S.length), HI3.out, by omega⟩
   have t37 : ((c.toNat : Int) == 37) = false := byte_ne h37
   have ha := HA1.out
   rw [if_neg h37] at ha
   have HA2 := Lib.hid ha
   have hpre : ∀ W, Calls Tryz.prog 30 #[.string ⟨S.toArray⟩, .string ⟨#[47, 42]⟩] W fun e w' => e = .returned (.bool (decide (c = 47 ∧ (T.drop (k + 1)).head? = some 42))) ∧ W = w' := fun W => by
    have := Tryz.strings_HasPrefix ⟨S.toArray⟩ ⟨#[47, 42]⟩ W
    simp only [HD.out] at this
    rw [← prefix_begin]
    rw [HD.out]
    exact this.mono fun _ _ ⟨h1, h2⟩ => ⟨h1, h2.symm⟩
   have HP := Lib.hid hpre
   clear ha HA1 h37 hpre
   by_cases hc : c = 47 ∧ (T.drop (k + 1)).head? = some 42
   ·have ha := HA2.out
    rw [if_pos hc, List.tail_drop] at ha
    have hp := HP.out
    rw [decide_eq_true hc] at hp
    have HP2 := Lib.hid hp
    have hS2 : (2 : Int) ≤ (S.length : Int) := by
     have h2 := hc.2
     have h3 := HSL.out
     rcases Nat.lt_or_ge (k + 1) T.length with h4 | h4
     ·omega
     ·rw [List.drop_eq_nil_of_le h4] at h2
      cases h2
    have hs2 : (⟨S.toArray⟩ : ByteArray).extract 2 S.length = ⟨(T.drop (k + 1 + 1)).toArray⟩ := by rw [slice_end, HS.out, List.drop_drop]
    obtain ⟨mx, hmx⟩ := HI2.out.max
    have hsz : (⟨(T.drop (k + 1 + 1)).toArray⟩ : ByteArray).size < 4294967281 := by
     show (T.drop (k + 1 + 1)).toArray.size < 4294967281
     rw [List.size_toArray, List.length_drop]
     omega
    have hidx : Calls Tryz.prog 88 #[.string ⟨(T.drop (k + 1 + 1)).toArray⟩, .string ⟨#[42, 47]⟩] w2 fun e w' => e = .returned (.int .i64 (endI (endOf (T.drop (k + 1 + 1))))) ∧ w2 = w' := by
     rw [← index_end]
     exact (Tryz.strings_Index _ ⟨#[42, 47]⟩ mx w2 hsz hmx).mono fun _ _ ⟨h1, h2⟩ => ⟨h1, h2.symm⟩
    have HX := Lib.hid hidx
    have hbd : ∀ n, endOf (T.drop (k + 1 + 1)) = some n → k + (n + 4) ≤ T.length := fun n h => by
     have := endOf_le _ _ h
     rw [List.length_drop] at this
     omega
    have HBD := Lib.hid hbd
    clear hc hp HP HA2 hidx hmx hsz hbd
    cases he : endOf (T.drop (k + 1 + 1)) with
    | none =>
     rw [he] at ha
     simp only at ha
     rw [← HD.out, HS.out] at ha
     have HA3 := Lib.hid ha.symm
     have hx := HX.out
     rw [he] at hx
     have HX2 := Lib.hid hx
     clear hx HX he ha HBD
     go_wp2_with fail
     refine (sort_byte _ c).mono ?_
     rintro e w' ⟨rfl, rfl⟩
     go_wp2_with fail
     refine (HP2.out _).mono ?_
     rintro e w' ⟨rfl, rfl⟩
     go_wp2_with fail
     refine (HX2.out).mono ?_
     rintro e w' ⟨rfl, rfl⟩
     simp only [endI]
     go_wp2_with fail
     go_ret
     exact HI2.out.done HA3.out
    | some n =>
     rw [he] at ha
     simp only at ha
     rw [List.drop_drop, show k + 1 + 1 + (n + 2) = k + (n + 4) by omega] at ha
     have HA3 := Lib.hid ha
     have hx := HX.out
     rw [he] at hx
     have HX2 := Lib.hid hx
     have hn4 := HBD.out n he
     clear hx HX he ha HBD
     go_wp2_with fail
     refine (sort_byte _ c).mono ?_
     rintro e w' ⟨rfl, rfl⟩
     go_wp2_with fail
     refine (HP2.out _).mono ?_
     rintro e w' ⟨rfl, rfl⟩
     go_wp2_with fail
     refine (HX2.out).mono ?_
     rintro e w' ⟨rfl, rfl⟩
     simp only [endI]
     go_wp2_with fail
     refine (to_any w2 bx T k _ en v HI2.out.lex (n + 4) ((n : Int) + 4) rfl (by omega) (by omega) (by omega)).mono ?_
     rintro e w3 ⟨rfl, hl3, hF3⟩
     have HI3 := Lib.hid (HI2.out.step hg hl3 hF3 (by omega) HA3.out)
     clear hl3 hF3
     go_wp2_with fail
     go_roundg (T.length + 1 - (k + (n + 4)))
     case measure => have := HGK.out; omega
     case rel => exact ⟨k + (n + 4), HI3.out, by omega⟩
   ·have ha := HA2.out
    rw [if_neg hc, ← HD.out, HS.out] at ha
    have HA3 := Lib.hid ha.symm
    have hp := HP.out
    rw [decide_eq_false hc] at hp
    have HP2 := Lib.hid hp
    clear ha HA2 hc hp HP
    go_wp2_with fail
    refine (sort_byte _ c).mono ?_
    rintro e w' ⟨rfl, rfl⟩
    go_wp2_with fail
    refine (HP2.out _).mono ?_
    rintro e w' ⟨rfl, rfl⟩
    go_wp2_with fail
    go_ret
    exact HI2.out.done HA3.out
  ·have hkT : k = T.length := by omega
   have ha := HI.out.ans
   rw [List.drop_eq_nil_of_le (by omega)] at ha
   have hR : R = (T.drop k, true) := by rw [← ha, List.drop_eq_nil_of_le (by omega)]; rfl
   have HRR := Lib.hid hR
   clear ha hR hkT
   go_wp2_with fail
   go_quiet (fail)
   go_wp2_with fail
   go_ret
   exact (HI.out.drewN _).done HRR.out
end Go.Proofs.YtcallkljcjimiaaGreatDoor
