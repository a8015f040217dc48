/-
  The lexer in memory, and what its method that goes on by some bytes does. Conditions: the lexer's block holds what is named; the sizes that are named.
-/
import Derived.Test.YtpiekfkkhgighaaTokW4
import Derived.Test.YtpiekfkkhgighaaShelfT
import Derived.Test.YtpiekfkkhgighaaFr
import Derived.StillTailTactics
import Derived.Deep.LoopGhost
import Derived.IntWalk
namespace Go.Proofs.Ytpiekfkkhgighaa
open Go.RowKit
set_option maxRecDepth 100000

def lexCells (bx : Nat) (T : List UInt8) (a ln en : Nat) (v : Value) : Array Value :=
  #[.string ⟨T.toArray⟩, .int .i64 (a : Int), .int .i64 (ln : Int), .int .i64 (en : Int), v,
    .func (.func 17) #[.pointer (some ⟨bx, 0, none⟩)] #[], .func (.func 18) #[.pointer (some ⟨bx, 0, none⟩)] #[],
    .func (.func 19) #[.pointer (some ⟨bx, 0, none⟩)] #[], .func (.func 20) #[.pointer (some ⟨bx, 0, none⟩)] #[],
    .func (.func 21) #[.pointer (some ⟨bx, 0, none⟩)] #[], .func (.func 22) #[.pointer (some ⟨bx, 0, none⟩)] #[]]
/-- The lexer in block bx: its text, where it is, in which line, where the last token ended, and its tokens' slice. -/
structure LexAt (w : World) (bx : Nat) (T : List UInt8) (a ln en : Nat) (v : Value) : Prop where
  blk : w.heap[bx]? = some (.cells (lexCells bx T a ln en v) 51 (0, 0))
section
variable {w w' : World} {bx a ln en : Nat} {T : List UInt8} {v : Value}
theorem LexAt.lt (h : LexAt w bx T a ln en v) : bx < w.heap.size := (Array.getElem?_eq_some_iff.1 h.blk).1
theorem LexAt.keep (h : LexAt w bx T a ln en v) (hb : w'.heap[bx]? = w.heap[bx]?) : LexAt w' bx T a ln en v := ⟨hb.trans h.blk⟩
theorem LexAt.later (h : LexAt w bx T a ln en v) (hb : Below w.heap.size w w') : LexAt w' bx T a ln en v := h.keep (hb.block _ h.lt)
theorem LexAt.cells (h : LexAt w bx T a ln en v) : w.cell? ⟨bx, 0, none⟩ = some (.string ⟨T.toArray⟩) ∧ w.cell? ⟨bx, 1, none⟩ = some (.int .i64 (a : Int)) ∧ w.cell? ⟨bx, 2, none⟩ = some (.int .i64 (ln : Int)) ∧ w.cell? ⟨bx, 3, none⟩ = some (.int .i64 (en : Int)) ∧ w.cell? ⟨bx, 4, none⟩ = some v ∧ (∀ o, w.frozen? ⟨bx, o, none⟩ = false) :=
  ⟨by rw [cell_of_row w bx 0 _ _ (0, 0) h.blk]; rfl, by rw [cell_of_row w bx 1 _ _ (0, 0) h.blk]; rfl, by rw [cell_of_row w bx 2 _ _ (0, 0) h.blk]; rfl, by rw [cell_of_row w bx 3 _ _ (0, 0) h.blk]; rfl, by rw [cell_of_row w bx 4 _ _ (0, 0) h.blk]; rfl, fun o => by simp [World.frozen?, h.blk]⟩
theorem setCell_blk {b i : Nat} {cs : Array Value} {t : TypeId} (h : w.heap[b]? = some (.cells cs t (0, 0))) (u : Value) : (w.setCell ⟨b, i, none⟩ u).heap[b]? = some (.cells (cs.setIfInBounds i u) t (0, 0)) := by
  simp only [World.setCell, Array.getElem?_modify, h, if_true, Option.map_some, Option.isSome_none, Bool.false_eq_true, if_false]
theorem LexAt.setAt (h : LexAt w bx T a ln en v) (a' : Nat) : LexAt (w.setCell ⟨bx, 1, none⟩ (.int .i64 (a' : Int))) bx T a' ln en v := ⟨setCell_blk h.blk _⟩
theorem LexAt.setLn (h : LexAt w bx T a ln en v) (ln' : Nat) : LexAt (w.setCell ⟨bx, 2, none⟩ (.int .i64 (ln' : Int))) bx T a ln' en v := ⟨setCell_blk h.blk _⟩
theorem LexAt.setEn (h : LexAt w bx T a ln en v) (en' : Nat) : LexAt (w.setCell ⟨bx, 3, none⟩ (.int .i64 (en' : Int))) bx T a ln en' v := ⟨setCell_blk h.blk _⟩
theorem LexAt.setL (h : LexAt w bx T a ln en v) (v' : Value) : LexAt (w.setCell ⟨bx, 4, none⟩ v') bx T a ln en v' := ⟨setCell_blk h.blk _⟩
theorem LexAt.drew (h : LexAt w bx T a ln en v) : LexAt w.drew bx T a ln en v := ⟨h.blk⟩
theorem LexAt.drewN (h : LexAt w bx T a ln en v) (n : Nat) : LexAt (w.drewN n) bx T a ln en v := ⟨h.blk⟩
end

set_option maxHeartbeats 2000000 in
theorem to_any (w : World) (bx : Nat) (T : List UInt8) (a ln en : Nat) (v : Value) (h : LexAt w bx T a ln en v) (m : Nat) (mi : Int) (hmi : mi = (m : Int)) (ham : a + m ≤ T.length) (hT : (T.length : Int) ≤ 1000000) (hln : (ln : Int) ≤ 1000000) :
    Calls Try.prog 45 #[.pointer (some ⟨bx, 0, none⟩), .int .i64 mi] w fun e w' => e = .returned (.tuple #[]) ∧ LexAt w' bx T (a + m) (ln + lines ((T.drop a).take m)) en v ∧ Fr (· = bx) w w' := by
  subst hmi
  obtain ⟨c0, c1, c2, c3, c4, hf⟩ := h.cells
  have hs : (⟨T.toArray⟩ : ByteArray).extract a (a + m) = ⟨((T.drop a).take m).toArray⟩ := by rw [slice_mid, show a + m - a = m by omega]
  have hcnt : ∀ W, Calls Try.prog 69 #[.string ⟨((T.drop a).take m).toArray⟩, .string ⟨#[10]⟩] W fun e w' => e = .returned (.int .i64 (lines ((T.drop a).take m) : Int)) ∧ w' = W := fun W => Try.strings_Count_one _ 10 W
  have hlm : lines ((T.drop a).take m) ≤ T.length := Nat.le_trans (List.count_le_length ..) (by rw [List.length_take, List.length_drop]; omega)
  generalize lines ((T.drop a).take m) = L at *
  have HL := Lib.hid h
  have hw1 : IntKind.i64.wrap ((a : Int) + (m : Int)) = (a : Int) + (m : Int) := IntWalk.i64_in _ (by omega)
  have hw2 : IntKind.i64.wrap ((ln : Int) + (L : Int)) = (ln : Int) + (L : Int) := IntWalk.i64_in _ (by omega)
  have hw3 : ((a : Int) + (m : Int)).toNat = a + m := by omega
  have hw4 : (0 : Int) ≤ (a : Int) + (m : Int) := by omega
  have hw5 : (a : Int) ≤ (a : Int) + (m : Int) := by omega
  have hw6 : (a : Int) + (m : Int) ≤ (T.length : Int) := by omega
  clear h
  go_enter Try.func45, Try.ntmps45
  go_wp2_with fail
  go_still_tail 23, (by kernel_rfl)
  still_call (hcnt _)
  repeat still_step
  refine wpStill_nil ?_
  go_wp2_with fail
  go_end0
  refine ⟨rfl, ((HL.out.setLn (ln + L)).setAt (a + m)).drew, ?_⟩
  exact (((Fr.refl (· = bx) w).setCell (p := ⟨bx, 2, none⟩) (.inl rfl) _).setCell (p := ⟨bx, 1, none⟩) (.inl rfl) _).drew
end Go.Proofs.Ytpiekfkkhgighaa
