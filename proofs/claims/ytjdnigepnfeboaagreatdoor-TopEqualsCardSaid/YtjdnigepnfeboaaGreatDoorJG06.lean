import Derived.Test.YtjdnigepnfeboaaGreatDoorJG05
import Derived.Shelf.Small.Strs
import Derived.Shelf.Strings.Shaped
import Derived.Shelf.Strings.Prefix
import Derived.StillTailTactics
import Derived.Deep.RegionHeld3
namespace Go.Proofs.YtjdnigepnfeboaaGreatDoor
open Go.RowKit
set_option maxRecDepth 100000
theorem six_cells {w1 : World} {b : Nat} {a0 a1 a2 a3 a4 a5 : Value} {t : TypeId} (h : w1.heap[b]? = some (.cells #[a0, a1, a2, a3, a4, a5] t (0, 0))) :
    (w1.cell? ⟨b, 0, none⟩ = some a0 ∧ w1.cell? ⟨b, 1, none⟩ = some a1 ∧ w1.cell? ⟨b, 2, none⟩ = some a2 ∧ w1.cell? ⟨b, 3, none⟩ = some a3 ∧ w1.cell? ⟨b, 4, none⟩ = some a4 ∧ w1.cell? ⟨b, 5, none⟩ = some a5) ∧ (∀ o, w1.frozen? ⟨b, o, none⟩ = false) := by
 have hf : ∀ o, w1.frozen? ⟨b, o, none⟩ = false := fun o => by simp [World.frozen?, h]
 exact ⟨⟨by rw [cell_of_row w1 b 0 _ t (0, 0) h]; rfl, by rw [cell_of_row w1 b 1 _ t (0, 0) h]; rfl, by rw [cell_of_row w1 b 2 _ t (0, 0) h]; rfl, by rw [cell_of_row w1 b 3 _ t (0, 0) h]; rfl, by rw [cell_of_row w1 b 4 _ t (0, 0) h]; rfl, by rw [cell_of_row w1 b 5 _ t (0, 0) h]; rfl⟩, hf⟩
def behind (b : List UInt8) (k : List UInt8 × Bool) : List UInt8 × Bool := if k.1 = [] then skipF b.length b else (k.1 ++ b, true)
end Go.Proofs.YtjdnigepnfeboaaGreatDoor
namespace Go.Proofs
open Go.Shelf
open Go.RowKit in
open Go.RowKit Go.Lib in
def Tryz.lays138_ren : Go.Shelf.Ren := ⟨fun | 138 => 203 | 195 => 280 | 218 => 281 | 143 => 111 | 219 => 206 | 217 => 204 | 225 => 283 | 224 => 284 | 267 => 285 | 266 => 282 | 314 => 337 | n => n, fun | 9 => 9 | 3 => 3 | 4 => 4 | 5 => 5 | 0 => 0 | 46 => 178 | 146 => 466 | 51 => 202 | n => n, fun | 1 => 3 | n => n⟩
theorem Tryz.lays138 : Go.Proofs.Lays.n138 Tryz.prog Tryz.lays138_ren := {
 mixed := by kernel_rfl
 f138 := Tryz.func203.trans (congrArg some (by kernel_rfl))
 f143 := Tryz.func111.trans (congrArg some (by kernel_rfl))
 f195 := Tryz.func280.trans (congrArg some (by kernel_rfl))
 f217 := Tryz.func204.trans (congrArg some (by kernel_rfl))
 f218 := Tryz.func281.trans (congrArg some (by kernel_rfl))
 f219 := Tryz.func206.trans (congrArg some (by kernel_rfl))
 f224 := Tryz.func284.trans (congrArg some (by kernel_rfl))
 f225 := Tryz.func283.trans (congrArg some (by kernel_rfl))
 f266 := Tryz.func282.trans (congrArg some (by kernel_rfl))
 f267 := Tryz.func285.trans (congrArg some (by kernel_rfl))
 f314 := Tryz.func337.trans (congrArg some (by kernel_rfl))
 t0 := Tryz.underlying0
 a0 := Tryz.isAgg0
 z0 := Tryz.sizeOf0
 v0 := Tryz.zeroValue0
 t3 := Tryz.underlying3
 a3 := Tryz.isAgg3
 z3 := Tryz.sizeOf3
 v3 := Tryz.zeroValue3
 t4 := Tryz.underlying4
 a4 := Tryz.isAgg4
 z4 := Tryz.sizeOf4
 v4 := Tryz.zeroValue4
 t5 := Tryz.underlying5
 a5 := Tryz.isAgg5
 z5 := Tryz.sizeOf5
 v5 := Tryz.zeroValue5
 t9 := Tryz.underlying9
 a9 := Tryz.isAgg9
 z9 := Tryz.sizeOf9
 v9 := Tryz.zeroValue9
 t46 := Tryz.underlying178
 a46 := Tryz.isAgg178
 z46 := Tryz.sizeOf178
 v46 := Tryz.zeroValue178
 t51 := Tryz.underlying202
 a51 := Tryz.isAgg202
 z51 := Tryz.sizeOf202
 v51 := Tryz.zeroValue202
 t146 := Tryz.underlying466
 a146 := Tryz.isAgg466
 z146 := Tryz.sizeOf466
 v146 := Tryz.zeroValue466
 g1 := by kernel_rfl }
open Go.RowKit Go.Lib in
theorem Tryz.strings_Count_one (s : ByteArray) (c : UInt8) (w : World) :
    Calls Tryz.prog 203 #[.string s, .string ⟨#[c]⟩] w fun e w' => e = .returned (.int .i64 (Lib.countByte s.data.toList c)) ∧ w' = w := Any.strings_Count_one Tryz.lays138 s c w
end Go.Proofs
namespace Go.Proofs.YtjdnigepnfeboaaGreatDoor
open Go.RowKit
set_option maxRecDepth 100000
def lexCells (bx : Nat) (T : List UInt8) (a ln en : Nat) (v : Value) : Array Value :=
 #[.string ⟨T.toArray⟩, .int .i64 (a : Int), .int .i64 (ln : Int), .int .i64 (en : Int), v,
  .func (.func 40) #[.pointer (some ⟨bx, 0, none⟩)] #[], .func (.func 41) #[.pointer (some ⟨bx, 0, none⟩)] #[],
  .func (.func 42) #[.pointer (some ⟨bx, 0, none⟩)] #[], .func (.func 43) #[.pointer (some ⟨bx, 0, none⟩)] #[],
  .func (.func 44) #[.pointer (some ⟨bx, 0, none⟩)] #[], .func (.func 45) #[.pointer (some ⟨bx, 0, none⟩)] #[]]
structure LexAt (w : World) (bx : Nat) (T : List UInt8) (a ln en : Nat) (v : Value) : Prop where
 blk : w.heap[bx]? = some (.cells (lexCells bx T a ln en v) 125 (0, 0))
section
variable {w w' : World} {bx a ln en : Nat} {T : List UInt8} {v : Value}
theorem LexAt.lt (h : LexAt w bx T a ln en v) : bx < w.heap.size := (Array.getElem?_eq_some_iff.1 h.blk).1
theorem LexAt.keep (h : LexAt w bx T a ln en v) (hb : w'.heap[bx]? = w.heap[bx]?) : LexAt w' bx T a ln en v := ⟨hb.trans h.blk⟩
theorem LexAt.later (h : LexAt w bx T a ln en v) (hb : Below w.heap.size w w') : LexAt w' bx T a ln en v := h.keep (hb.block _ h.lt)
theorem LexAt.cells (h : LexAt w bx T a ln en v) : w.cell? ⟨bx, 0, none⟩ = some (.string ⟨T.toArray⟩) ∧ w.cell? ⟨bx, 1, none⟩ = some (.int .i64 (a : Int)) ∧ w.cell? ⟨bx, 2, none⟩ = some (.int .i64 (ln : Int)) ∧ w.cell? ⟨bx, 3, none⟩ = some (.int .i64 (en : Int)) ∧ w.cell? ⟨bx, 4, none⟩ = some v ∧ (∀ o, w.frozen? ⟨bx, o, none⟩ = false) :=
 ⟨by rw [cell_of_row w bx 0 _ _ (0, 0) h.blk]; rfl, by rw [cell_of_row w bx 1 _ _ (0, 0) h.blk]; rfl, by rw [cell_of_row w bx 2 _ _ (0, 0) h.blk]; rfl, by rw [cell_of_row w bx 3 _ _ (0, 0) h.blk]; rfl, by rw [cell_of_row w bx 4 _ _ (0, 0) h.blk]; rfl, fun o => by simp [World.frozen?, h.blk]⟩
theorem setCell_blk {b i : Nat} {cs : Array Value} {t : TypeId} (h : w.heap[b]? = some (.cells cs t (0, 0))) (u : Value) : (w.setCell ⟨b, i, none⟩ u).heap[b]? = some (.cells (cs.setIfInBounds i u) t (0, 0)) := by
 simp only [World.setCell, Array.getElem?_modify, h, if_true, Option.map_some, Option.isSome_none, Bool.false_eq_true, if_false]
theorem LexAt.setAt (h : LexAt w bx T a ln en v) (a' : Nat) : LexAt (w.setCell ⟨bx, 1, none⟩ (.int .i64 (a' : Int))) bx T a' ln en v := ⟨setCell_blk h.blk _⟩
theorem LexAt.setLn (h : LexAt w bx T a ln en v) (ln' : Nat) : LexAt (w.setCell ⟨bx, 2, none⟩ (.int .i64 (ln' : Int))) bx T a ln' en v := ⟨setCell_blk h.blk _⟩
theorem LexAt.setEn (h : LexAt w bx T a ln en v) (en' : Nat) : LexAt (w.setCell ⟨bx, 3, none⟩ (.int .i64 (en' : Int))) bx T a ln en' v := ⟨setCell_blk h.blk _⟩
theorem LexAt.setL (h : LexAt w bx T a ln en v) (v' : Value) : LexAt (w.setCell ⟨bx, 4, none⟩ v') bx T a ln en v' := ⟨setCell_blk h.blk _⟩
theorem LexAt.drew (h : LexAt w bx T a ln en v) : LexAt w.drew bx T a ln en v := ⟨h.blk⟩
theorem LexAt.drewN (h : LexAt w bx T a ln en v) (n : Nat) : LexAt (w.drewN n) bx T a ln en v := ⟨h.blk⟩
end
set_option maxHeartbeats 2000000 in
theorem to_any (w : World) (bx : Nat) (T : List UInt8) (a ln en : Nat) (v : Value) (h : LexAt w bx T a ln en v) (m : Nat) (mi : Int) (hmi : mi = (m : Int)) (ham : a + m ≤ T.length) (hT : (T.length : Int) ≤ 1000000) (hln : (ln : Int) ≤ 1000000) :
    Calls Tryz.prog 108 #[.pointer (some ⟨bx, 0, none⟩), .int .i64 mi] w fun e w' => e = .returned (.tuple #[]) ∧ LexAt w' bx T (a + m) (ln + lines ((T.drop a).take m)) en v ∧ Fr (· = bx) w w' := by
 subst hmi
 obtain ⟨c0, c1, c2, c3, c4, hf⟩ := h.cells
 have hs : (⟨T.toArray⟩ : ByteArray).extract a (a + m) = ⟨((T.drop a).take m).toArray⟩ := by rw [slice_mid, show a + m - a = m by omega]
 have hcnt : ∀ W, Calls Tryz.prog 203 #[.string ⟨((T.drop a).take m).toArray⟩, .string ⟨#[10]⟩] W fun e w' => e = .returned (.int .i64 (lines ((T.drop a).take m) : Int)) ∧ w' = W := fun W => Tryz.strings_Count_one _ 10 W
 have hlm : lines ((T.drop a).take m) ≤ T.length := Nat.le_trans (List.count_le_length ..) (by rw [List.length_take, List.length_drop]; omega)
 generalize lines ((T.drop a).take m) = L at *
 have HL := Lib.hid h
 have hw1 : IntKind.i64.wrap ((a : Int) + (m : Int)) = (a : Int) + (m : Int) := IntWalk.i64_in _ (by omega)
 have hw2 : IntKind.i64.wrap ((ln : Int) + (L : Int)) = (ln : Int) + (L : Int) := IntWalk.i64_in _ (by omega)
 have hw3 : ((a : Int) + (m : Int)).toNat = a + m := by omega
 have hw4 : (0 : Int) ≤ (a : Int) + (m : Int) := by omega
 have hw5 : (a : Int) ≤ (a : Int) + (m : Int) := by omega
 have hw6 : (a : Int) + (m : Int) ≤ (T.length : Int) := by omega
 clear h
 go_enter Tryz.func108, Tryz.ntmps108
 go_wp2_with fail
 go_still_tail 23, (by kernel_rfl)
 still_call (hcnt _)
 repeat still_step
 refine wpStill_nil ?_
 go_wp2_with fail
 go_end0
 refine ⟨rfl, ((HL.out.setLn (ln + L)).setAt (a + m)).drew, ?_⟩
 exact (((Fr.refl (· = bx) w).setCell (p := ⟨bx, 2, none⟩) (.inl rfl) _).setCell (p := ⟨bx, 1, none⟩) (.inl rfl) _).drew
end Go.Proofs.YtjdnigepnfeboaaGreatDoor
namespace Go.Proofs.YtjdnigepnfeboaaGreatDoor
open Go.RowKit
set_option maxRecDepth 100000
def encTok (t : Tok) : List Value := [.int .i64 t.kind, .int .i64 t.line, .int .i64 t.n, .string ⟨t.s.toArray⟩, .bool t.opn, .bool t.tight]
theorem encTok_len (t : Tok) : (encTok t).length = 6 := rfl
theorem encTok_one (t : Tok) : ∀ u ∈ encTok t, u.oneCell' = true := by
 intro u hu
 simp only [encTok, List.mem_cons, List.mem_nil_iff, or_false] at hu
 rcases hu with rfl | rfl | rfl | rfl | rfl | rfl <;> rfl
theorem tok_info : ∃ i z, Tryz.prog.info? 127 = some i ∧ i.zero = some z ∧ i.size = 6 ∧ i.bytes = 48 ∧ z.cells.size = 6 := by
 refine ⟨_, _, rfl, rfl, ?_, ?_, ?_⟩ <;> kernel_rfl
structure AddSt (w : World) (B bx tb : Nat) (T : List UInt8) (a ln en : Nat) (v : Value) (ts : List Tok) (t : TokIs) (tl : Int) (o q : Bool) (u : World) : Prop where
 lex : LexAt u bx T a ln en v
 tok : u.heap[tb]? = some (.cells #[.int .i64 t.kind, .int .i64 tl, .int .i64 t.n, .string ⟨t.s.toArray⟩, .bool o, .bool q] 127 (0, 0))
 row : Row u B 127 6 encTok v ts
 fr : Fr (fun k => k = bx ∨ B ≤ k) w u
 bx_lt : bx < B
 base : B ≤ tb
 ne : v.ownBlock ≠ some tb
section
variable {w u u' : World} {B bx tb a ln en : Nat} {T : List UInt8} {v : Value} {ts : List Tok} {t : TokIs} {tl : Int} {o q : Bool}
theorem AddSt.row_ne (h : AddSt w B bx tb T a ln en v ts t tl o q u) : v.ownBlock ≠ some bx := fun e => by have := (h.row.lt bx e).1; have := h.bx_lt; omega
theorem Row.setCell_ne {e : TypeId} {sz : Nat} {α : Type} {enc : α → List Value} {l : List α} (h : Row u B e sz enc v l) {p : Addr} (hp : v.ownBlock ≠ some p.block) (x : Value) : Row (u.setCell p x) B e sz enc v l :=
 h.keep fun k hk => Below.heap_setCell u p x k (fun e => hp (by rw [hk, e]))
theorem AddSt.drew (h : AddSt w B bx tb T a ln en v ts t tl o q u) : AddSt w B bx tb T a ln en v ts t tl o q u.drew :=
 ⟨h.lex.drew, h.tok, h.row.keep fun _ _ => rfl, h.fr.drew, h.bx_lt, h.base, h.ne⟩
theorem AddSt.setTight (h : AddSt w B bx tb T a ln en v ts t tl o q u) (q' : Bool) : AddSt w B bx tb T a ln en v ts t tl o q' (u.setCell ⟨tb, 5, none⟩ (.bool q')) :=
 ⟨h.lex.keep (Below.heap_setCell _ _ _ _ (by have := h.base; have := h.bx_lt; simp only; omega)), setCell_blk h.tok _, h.row.setCell_ne h.ne _, h.fr.setCell (.inl (.inr h.base)) _, h.bx_lt, h.base, h.ne⟩
theorem AddSt.setOpen (h : AddSt w B bx tb T a ln en v ts t tl o q u) (o' : Bool) : AddSt w B bx tb T a ln en v ts t tl o' q (u.setCell ⟨tb, 4, none⟩ (.bool o')) :=
 ⟨h.lex.keep (Below.heap_setCell _ _ _ _ (by have := h.base; have := h.bx_lt; simp only; omega)), setCell_blk h.tok _, h.row.setCell_ne h.ne _, h.fr.setCell (.inl (.inr h.base)) _, h.bx_lt, h.base, h.ne⟩
theorem AddSt.setEn (h : AddSt w B bx tb T a ln en v ts t tl o q u) (en' : Nat) : AddSt w B bx tb T a ln en' v ts t tl o q (u.setCell ⟨bx, 3, none⟩ (.int .i64 (en' : Int))) :=
 ⟨h.lex.setEn en', (Below.heap_setCell _ _ _ _ (by have := h.base; have := h.bx_lt; simp only; omega)).trans h.tok, h.row.setCell_ne h.row_ne _, h.fr.setCell (.inl (.inl rfl)) _, h.bx_lt, h.base, h.ne⟩
theorem AddSt.to {a' ln' : Nat} (h : AddSt w B bx tb T a ln en v ts t tl o q u) (hl : LexAt u' bx T a' ln' en v) (hF : Fr (· = bx) u u') : AddSt w B bx tb T a' ln' en v ts t tl o q u' := by
 have hb := h.base
 have hx := h.bx_lt
 have htb := (Array.getElem?_eq_some_iff.1 h.tok).1
 exact ⟨hl, (hF.block tb htb (by omega)).trans h.tok, h.row.keep fun k hk => hF.block k (h.row.lt k hk).2 (by have := (h.row.lt k hk).1; omega), h.fr.trans (hF.weak fun k hk => .inl hk), hx, hb, h.ne⟩
theorem AddSt.facts (h : AddSt w B bx tb T a ln en v ts t tl o q u) : (u.cell? ⟨tb, 0, none⟩ = some (.int .i64 t.kind) ∧ u.cell? ⟨tb, 1, none⟩ = some (.int .i64 tl) ∧ u.cell? ⟨tb, 2, none⟩ = some (.int .i64 t.n) ∧ u.cell? ⟨tb, 3, none⟩ = some (.string ⟨t.s.toArray⟩) ∧ u.cell? ⟨tb, 4, none⟩ = some (.bool o) ∧ u.cell? ⟨tb, 5, none⟩ = some (.bool q)) ∧ (∀ o, u.frozen? ⟨tb, o, none⟩ = false) := six_cells h.tok
end
def tight (ts : List Tok) (a en : Nat) : Bool := decide (ts ≠ []) && ((a : Int) == (en : Int))
def openB (T : List UInt8) (k : Nat) : Bool := decide (T[k]? = some 40)
theorem open_byte (d : UInt8) : decide (some d = some (40 : UInt8)) = ((d.toNat : Int) == 40) := by
 by_cases h : d = 40
 ·subst h; rfl
 ·rw [decide_eq_false (by simpa using h)]
  exact (byte_ne h).symm
theorem AddSt.last {w W W' w9 : World} {B bx tb a ln en : Nat} {T : List UInt8} {A : Option Addr} {cap gg cap2 : Nat} {ts : List Tok} {t : TokIs} {tl : Int} {o q : Bool}
    (h : AddSt w B bx tb T a ln en (.slice A ts.length cap) ts t tl o q W)
    (hown : w9.ownsRow B 127 6 (.slice (some ⟨gg, 0, none⟩) (ts.length + 1) cap2) (ts.length + 1) (ts.flatMap encTok ++ encTok ⟨t.kind, tl, t.n, t.s, o, q⟩))
    (hb : Below W.heap.size W W') (hg : W'.grownBy w9 (Value.slice A ts.length cap).ownBlock) :
    ∃ v', LexAt (w9.setCell ⟨bx, 4, none⟩ (.slice (some ⟨gg, 0, none⟩) (ts.length + 1) cap2)) bx T a ln en v' ∧ Row (w9.setCell ⟨bx, 4, none⟩ (.slice (some ⟨gg, 0, none⟩) (ts.length + 1) cap2)) B 127 6 encTok v' (ts ++ [⟨t.kind, tl, t.n, t.s, o, q⟩]) ∧
     Fr (fun k => k = bx ∨ B ≤ k) w (w9.setCell ⟨bx, 4, none⟩ (.slice (some ⟨gg, 0, none⟩) (ts.length + 1) cap2)) := by
 have hbx := h.lex.lt
 have hne := h.row_ne
 have h9 : LexAt w9 bx T a ln en (.slice A ts.length cap) := (h.lex.later hb).keep (hg.block bx (Nat.lt_of_lt_of_le hbx hb.size) (fun e => hne e.symm))
 have hr : Row w9 B 127 6 encTok (.slice (some ⟨gg, 0, none⟩) (ts.length + 1) cap2) (ts ++ [⟨t.kind, tl, t.n, t.s, o, q⟩]) := ⟨by rw [List.length_append, List.flatMap_append]; simpa using hown⟩
 have hbB := h.bx_lt
 refine ⟨_, h9.setL _, hr.setCell_ne (p := ⟨bx, 4, none⟩) (fun e => by have := (hr.lt bx e).1; omega) _, ?_⟩
 exact ((h.fr.step hb).grown hg (fun g hg' => .inl (.inr (h.row.lt g hg').1))).setCell (.inl (.inl rfl)) _
theorem AddSt.behind {w W W' w9 : World} {B bx tb a ln en : Nat} {T : List UInt8} {v : Value} {ts : List Tok} {t : TokIs} {tl : Int} {o q : Bool}
    (h : AddSt w B bx tb T a ln en v ts t tl o q W) (hb : Below W.heap.size W W') (hg : W'.grownBy w9 v.ownBlock) : w9.cell? ⟨bx, 4, none⟩ = some v ∧ w9.frozen? ⟨bx, 4, none⟩ = false := by
 have h9 := (h.lex.later hb).keep (hg.block bx (Nat.lt_of_lt_of_le h.lex.lt hb.size) (fun e => h.row_ne e.symm))
 exact ⟨h9.cells.2.2.2.2.1, h9.cells.2.2.2.2.2 4⟩
set_option maxHeartbeats 8000000 in
theorem add_any (w : World) (B bx : Nat) (T : List UInt8) (a ln en : Nat) (v : Value) (ts : List Tok) (h : LexAt w bx T a ln en v) (hrow : Row w B 127 6 encTok v ts) (hbx : bx < B) (hB : B ≤ w.heap.size) (hts : ts.length ≤ 100000)
    (t : TokIs) (ni : Int) (hni : ni = (t.len : Int)) (han : a + t.len ≤ T.length) (hT : (T.length : Int) ≤ 400000) (hln : (ln : Int) ≤ 1000000) :
    Calls Tryz.prog 48 #[.pointer (some ⟨bx, 0, none⟩), tokV t, .int .i64 ni] w fun e w' => e = .returned (.tuple #[]) ∧ ∃ v', LexAt w' bx T (a + t.len) (ln + lines ((T.drop a).take t.len)) (a + t.len) v' ∧
     Row w' B 127 6 encTok v' (ts ++ [⟨t.kind, (ln : Int), t.n, t.s, openB T (a + t.len), tight ts a en⟩]) ∧ Fr (fun k => k = bx ∨ B ≤ k) w w' := by
 obtain ⟨A, cap, rfl⟩ := hrow.shape
 obtain ⟨c0, c1, c2, c3, c4, hf⟩ := h.cells
 have hblt := h.lt
 obtain ⟨W1, hW1⟩ : ∃ W1, W1 = w.alloc (.cells #[.int .i64 t.kind, .int .i64 (ln : Int), .int .i64 t.n, .string ⟨t.s.toArray⟩, .bool false, .bool false] 127) := ⟨_, rfl⟩
 have HS1 : Hid (AddSt w B bx w.heap.size T a ln en (.slice A ts.length cap) ts t (ln : Int) false false W1) := by
  rw [hW1]
  exact ⟨h.later ((Below.refl _ _).alloc (Nat.le_refl _) _), heap_alloc_new w _, hrow.alloc _, (Fr.refl _ _).alloc _, hbx, hB, fun e => by have := (hrow.lt _ e).2; omega⟩
 clear h hrow
 unfold tokV
 subst hni
 have hto : ∀ u, LexAt u bx T a ln en (.slice A ts.length cap) → Calls Tryz.prog 108 #[.pointer (some ⟨bx, 0, none⟩), .int .i64 (t.len : Int)] u fun e w' => e = .returned (.tuple #[]) ∧ LexAt w' bx T (a + t.len) (ln + lines ((T.drop a).take t.len)) en (.slice A ts.length cap) ∧ Fr (· = bx) u w' :=
  fun u hu => to_any u bx T a ln en _ hu t.len _ rfl han (by omega) (by omega)
 obtain ⟨z, hz⟩ : ∃ z, a + t.len = z := ⟨_, rfl⟩
 rw [hz] at hto han ⊢
 have HTO := Lib.hid hto
 clear hto
 obtain ⟨tb, htb⟩ : ∃ tb, tb = w.heap.size := ⟨_, rfl⟩
 rw [← htb] at HS1
 obtain ⟨q, hq⟩ : ∃ q, tight ts a en = q := ⟨_, rfl⟩
 rw [hq]
 obtain ⟨ob, hob⟩ : ∃ ob, openB T z = ob := ⟨_, rfl⟩
 rw [hob]
 go_enter Tryz.func48, Tryz.ntmps48
 go_wp2_with fail
 rw [← hW1, ← htb]
 clear hW1 htb c0 c1 c2 c3 c4 hf hblt
 obtain ⟨c0, c1, c2, c3, c4, hf⟩ := HS1.out.lex.cells
 obtain ⟨⟨b0, b1, b2, b3, b4, b5⟩, hfb⟩ := HS1.out.facts
 rcases Classical.em (ts = []) with hts0 | hts0
 case' inl =>
  obtain rfl : false = q := by rw [← hq]; unfold tight; rw [decide_eq_false (by simpa using hts0)]; rfl
  have hdec : decide (0 < ts.length) = false := by rw [hts0]; rfl
  clear hts0
  (refine wp_region_still_tail 18 (by kernel_rfl) (by kernel_rfl) ?_; simp only [List.take_succ_cons, List.take_zero, List.drop_succ_cons, List.drop_zero]; repeat (with_reducible refine wpStill_step ?_; intro KK hKK; go_simp; with_reducible refine hKK _ ?_; clear hKK KK)); try (with_reducible refine wpStill_nil ?_)
  have HS2 := Lib.hid (HS1.out.setTight false).drew
 case' inr =>
  have hpos : (0 : Int) < (ts.length : Int) := by have := List.length_pos_iff.2 hts0; omega
  have hdec : decide (0 < ts.length) = true := decide_eq_true (List.length_pos_iff.2 hts0)
  have htight : ((a : Int) == (en : Int)) = q := by rw [← hq]; unfold tight; rw [decide_eq_true hts0]; simp
  clear hts0
  (refine wp_region_still_tail 18 (by kernel_rfl) (by kernel_rfl) ?_; simp only [List.take_succ_cons, List.take_zero, List.drop_succ_cons, List.drop_zero]; repeat (with_reducible refine wpStill_step ?_; intro KK hKK; go_simp; with_reducible refine hKK _ ?_; clear hKK KK)); try (with_reducible refine wpStill_nil ?_)
  have HS2 := Lib.hid (HS1.out.setTight q).drew
 all_goals
  go_wp2_with fail
  refine (HTO.out _ HS2.out.lex).mono ?_
  rintro e w3 ⟨rfl, hl3, hF3⟩
  have HS3 := Lib.hid (HS2.out.to hl3 hF3)
  clear HS2 hl3 hF3 HS1 c0 c1 c2 c3 c4 hf b0 b1 b2 b3 b4 b5 hfb hdec
  obtain ⟨c0, c1, c2, c3, c4, hf⟩ := HS3.out.lex.cells
  go_wp2_with fail
  obtain ⟨W4, hW4⟩ : ∃ W4, W4 = w3.setCell ⟨bx, 3, none⟩ (.int .i64 (z : Int)) := ⟨_, rfl⟩
  have HS4 := Lib.hid (HS3.out.setEn z)
  rw [← hW4] at HS4 ⊢
  clear hW4 c0 c1 c2 c3 c4 hf HS3
  obtain ⟨c0, c1, c2, c3, c4, hf⟩ := HS4.out.lex.cells
  obtain ⟨⟨b0, b1, b2, b3, b4, b5⟩, hfb⟩ := HS4.out.facts
  rcases Nat.lt_or_ge z T.length with hlt | hge
  case' inl =>
   obtain ⟨d, -, hx, hgd⟩ := byte_at T z hlt
   have hlt' : (z : Int) < (T.length : Int) := by omega
   have hdec2 : decide ((z : Int) < (T.length : Int)) = true := decide_eq_true hlt'
   have hdec3 : decide (z < T.length) = true := decide_eq_true hlt
   have hq2 : ((d.toNat : Int) == 40) = ob := by rw [← hob]; unfold openB; rw [hgd]; exact (open_byte d).symm
   (refine wp_region_still_tail 23 (by kernel_rfl) (by kernel_rfl) ?_; simp only [List.take_succ_cons, List.take_zero, List.drop_succ_cons, List.drop_zero]; repeat (with_reducible refine wpStill_step ?_; intro KK hKK; go_simp; with_reducible refine hKK _ ?_; clear hKK KK)); try (with_reducible refine wpStill_nil ?_)
   go_wp2_with fail
   obtain ⟨W5, hW5⟩ : ∃ W5, W5 = (W4.setCell ⟨tb, 4, none⟩ (.bool ob)).drew := ⟨_, rfl⟩
   have HS5 := Lib.hid (HS4.out.setOpen ob).drew
   rw [← hW5] at HS5 ⊢
   clear hq2 hlt' hdec2 hdec3 hx hgd hlt hW5
  case' inr =>
   obtain rfl : false = ob := by rw [← hob]; unfold openB; rw [List.getElem?_eq_none hge]; rfl
   have hdec2 : decide ((z : Int) < (T.length : Int)) = false := decide_eq_false (by omega)
   have hdec3 : decide (z < T.length) = false := decide_eq_false (by omega)
   clear hge
   (refine wp_region_still_tail 23 (by kernel_rfl) (by kernel_rfl) ?_; simp only [List.take_succ_cons, List.take_zero, List.drop_succ_cons, List.drop_zero]; repeat (with_reducible refine wpStill_step ?_; intro KK hKK; go_simp; with_reducible refine hKK _ ?_; clear hKK KK)); try (with_reducible refine wpStill_nil ?_)
   go_wp2_with fail
   obtain ⟨W5, hW5⟩ : ∃ W5, W5 = (W4.setCell ⟨tb, 4, none⟩ (.bool false)).drew := ⟨_, rfl⟩
   have HS5 := Lib.hid (HS4.out.setOpen false).drew
   rw [← hW5] at HS5 ⊢
   clear hdec2 hdec3 hW5
 ·clear c0 c1 c2 c3 c4 hf hfb b0 b1 b2 b3 b4 b5 HS4 HTO
  obtain ⟨c0, c1, c2, c3, c4, hf⟩ := HS5.out.lex.cells
  obtain ⟨⟨b0, b1, b2, b3, b4, b5⟩, hfb⟩ := HS5.out.facts
  have htbl := (Array.getElem?_eq_some_iff.1 HS5.out.tok).1
  have hbxl := HS5.out.lex.lt
  obtain ⟨i0, z0, hi0, hz0, hz1, hz2, hz3⟩ := tok_info
  have hBB : B ≤ W5.heap.size := Nat.le_trans HS5.out.base (Nat.le_of_lt htbl)
  go_region_law
   ((refine step_append_lies _ (by rfl) _ _ _ (by rfl) B 127 i0 _ 6 48 Tryz.underlying65 hi0 hz0 hz1 hz2 hz3 (by omega) (.slice A ts.length cap) ts.length (ts.flatMap encTok) (by rfl) (HS5.out.row.later (by (repeat (first | exact Below.refl _ _ | refine Below.drew ?_ | refine Below.alloc ?_ (Nat.le_refl _) _)))).own
       ⟨W5.heap.size, 0, none⟩ 1 1 (encTok ⟨t.kind, (ln : Int), t.n, t.s, false, q⟩) (by rfl) (by rfl) (World.news_of_block (cs := (encTok ⟨t.kind, (ln : Int), t.n, t.s, false, q⟩).toArray) (t := 127) (fr := (0, 0)) (by exact heap_alloc_new W5 _)) (encTok_one _)
       (by omega) (by unfold maxLen; omega) (by omega) (by simp; omega) (W5.heap.size + 1) (by simp) ?_; intro gg cap2 w9 hown9 hgrow hat9 hlt9; obtain ⟨hc9, hf9⟩ := HS5.out.behind (by (repeat (first | exact Below.refl _ _ | refine Below.drew ?_ | refine Below.alloc ?_ (Nat.le_refl _) _))) hgrow))
  all_goals
   go_wp2_with fail
   go_end0
   exact ⟨rfl, HS5.out.last hown9 (by (repeat (first | exact Below.refl _ _ | refine Below.drew ?_ | refine Below.alloc ?_ (Nat.le_refl _) _))) hgrow⟩
 ·clear c0 c1 c2 c3 c4 hf hfb b0 b1 b2 b3 b4 b5 HS4 HTO
  obtain ⟨c0, c1, c2, c3, c4, hf⟩ := HS5.out.lex.cells
  obtain ⟨⟨b0, b1, b2, b3, b4, b5⟩, hfb⟩ := HS5.out.facts
  have htbl := (Array.getElem?_eq_some_iff.1 HS5.out.tok).1
  have hbxl := HS5.out.lex.lt
  obtain ⟨i0, z0, hi0, hz0, hz1, hz2, hz3⟩ := tok_info
  have hBB : B ≤ W5.heap.size := Nat.le_trans HS5.out.base (Nat.le_of_lt htbl)
  go_region_law
   ((refine step_append_lies _ (by rfl) _ _ _ (by rfl) B 127 i0 _ 6 48 Tryz.underlying65 hi0 hz0 hz1 hz2 hz3 (by omega) (.slice A ts.length cap) ts.length (ts.flatMap encTok) (by rfl) (HS5.out.row.later (by (repeat (first | exact Below.refl _ _ | refine Below.drew ?_ | refine Below.alloc ?_ (Nat.le_refl _) _)))).own
       ⟨W5.heap.size, 0, none⟩ 1 1 (encTok ⟨t.kind, (ln : Int), t.n, t.s, ob, q⟩) (by rfl) (by rfl) (World.news_of_block (cs := (encTok ⟨t.kind, (ln : Int), t.n, t.s, ob, q⟩).toArray) (t := 127) (fr := (0, 0)) (by exact heap_alloc_new W5 _)) (encTok_one _)
       (by omega) (by unfold maxLen; omega) (by omega) (by simp; omega) (W5.heap.size + 1) (by simp) ?_; intro gg cap2 w9 hown9 hgrow hat9 hlt9; obtain ⟨hc9, hf9⟩ := HS5.out.behind (by (repeat (first | exact Below.refl _ _ | refine Below.drew ?_ | refine Below.alloc ?_ (Nat.le_refl _) _))) hgrow))
  all_goals
   go_wp2_with fail
   go_end0
   exact ⟨rfl, HS5.out.last hown9 (by (repeat (first | exact Below.refl _ _ | refine Below.drew ?_ | refine Below.alloc ?_ (Nat.le_refl _) _))) hgrow⟩
 ·clear c0 c1 c2 c3 c4 hf hfb b0 b1 b2 b3 b4 b5 HS4 HTO
  obtain ⟨c0, c1, c2, c3, c4, hf⟩ := HS5.out.lex.cells
  obtain ⟨⟨b0, b1, b2, b3, b4, b5⟩, hfb⟩ := HS5.out.facts
  have htbl := (Array.getElem?_eq_some_iff.1 HS5.out.tok).1
  have hbxl := HS5.out.lex.lt
  obtain ⟨i0, z0, hi0, hz0, hz1, hz2, hz3⟩ := tok_info
  have hBB : B ≤ W5.heap.size := Nat.le_trans HS5.out.base (Nat.le_of_lt htbl)
  go_region_law
   ((refine step_append_lies _ (by rfl) _ _ _ (by rfl) B 127 i0 _ 6 48 Tryz.underlying65 hi0 hz0 hz1 hz2 hz3 (by omega) (.slice A ts.length cap) ts.length (ts.flatMap encTok) (by rfl) (HS5.out.row.later (by (repeat (first | exact Below.refl _ _ | refine Below.drew ?_ | refine Below.alloc ?_ (Nat.le_refl _) _)))).own
       ⟨W5.heap.size, 0, none⟩ 1 1 (encTok ⟨t.kind, (ln : Int), t.n, t.s, false, false⟩) (by rfl) (by rfl) (World.news_of_block (cs := (encTok ⟨t.kind, (ln : Int), t.n, t.s, false, false⟩).toArray) (t := 127) (fr := (0, 0)) (by exact heap_alloc_new W5 _)) (encTok_one _)
       (by omega) (by unfold maxLen; omega) (by omega) (by simp; omega) (W5.heap.size + 1) (by simp) ?_; intro gg cap2 w9 hown9 hgrow hat9 hlt9; obtain ⟨hc9, hf9⟩ := HS5.out.behind (by (repeat (first | exact Below.refl _ _ | refine Below.drew ?_ | refine Below.alloc ?_ (Nat.le_refl _) _))) hgrow))
  all_goals
   go_wp2_with fail
   go_end0
   exact ⟨rfl, HS5.out.last hown9 (by (repeat (first | exact Below.refl _ _ | refine Below.drew ?_ | refine Below.alloc ?_ (Nat.le_refl _) _))) hgrow⟩
 ·clear c0 c1 c2 c3 c4 hf hfb b0 b1 b2 b3 b4 b5 HS4 HTO
  obtain ⟨c0, c1, c2, c3, c4, hf⟩ := HS5.out.lex.cells
  obtain ⟨⟨b0, b1, b2, b3, b4, b5⟩, hfb⟩ := HS5.out.facts
  have htbl := (Array.getElem?_eq_some_iff.1 HS5.out.tok).1
  have hbxl := HS5.out.lex.lt
  obtain ⟨i0, z0, hi0, hz0, hz1, hz2, hz3⟩ := tok_info
  have hBB : B ≤ W5.heap.size := Nat.le_trans HS5.out.base (Nat.le_of_lt htbl)
  go_region_law
   ((refine step_append_lies _ (by rfl) _ _ _ (by rfl) B 127 i0 _ 6 48 Tryz.underlying65 hi0 hz0 hz1 hz2 hz3 (by omega) (.slice A ts.length cap) ts.length (ts.flatMap encTok) (by rfl) (HS5.out.row.later (by (repeat (first | exact Below.refl _ _ | refine Below.drew ?_ | refine Below.alloc ?_ (Nat.le_refl _) _)))).own
       ⟨W5.heap.size, 0, none⟩ 1 1 (encTok ⟨t.kind, (ln : Int), t.n, t.s, ob, false⟩) (by rfl) (by rfl) (World.news_of_block (cs := (encTok ⟨t.kind, (ln : Int), t.n, t.s, ob, false⟩).toArray) (t := 127) (fr := (0, 0)) (by exact heap_alloc_new W5 _)) (encTok_one _)
       (by omega) (by unfold maxLen; omega) (by omega) (by simp; omega) (W5.heap.size + 1) (by simp) ?_; intro gg cap2 w9 hown9 hgrow hat9 hlt9; obtain ⟨hc9, hf9⟩ := HS5.out.behind (by (repeat (first | exact Below.refl _ _ | refine Below.drew ?_ | refine Below.alloc ?_ (Nat.le_refl _) _))) hgrow))
  all_goals
   go_wp2_with fail
   go_end0
   exact ⟨rfl, HS5.out.last hown9 (by (repeat (first | exact Below.refl _ _ | refine Below.drew ?_ | refine Below.alloc ?_ (Nat.le_refl _) _))) hgrow⟩
end Go.Proofs.YtjdnigepnfeboaaGreatDoor
