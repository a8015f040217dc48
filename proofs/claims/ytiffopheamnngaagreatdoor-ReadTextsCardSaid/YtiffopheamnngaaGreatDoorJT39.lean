import Derived.Test.YtiffopheamnngaaGreatDoorJT38
import Derived.Deep.DeepCutAuto
namespace Go.Proofs.YtiffopheamnngaaGreatDoor
open Go.RowKit
set_option maxRecDepth 100000
def stopT (c : UInt8) (r : List UInt8) : Option (Option TokIs) := if c = 46 ∧ (r = [] ∨ r.headD 0 = 37 ∨ bsort (r.headD 0) = 1) then some (some ⟨7, 0, [], 1⟩) else none
def nameT (c : UInt8) (l : List UInt8) : Option (Option TokIs) := if bsort c = 2 then some (some ⟨1, 0, l.take (spanN isWord l), spanN isWord l⟩) else if bsort c = 5 then some (some ⟨1, 0, l.take (spanN isSign l), spanN isSign l⟩) else if bsort c = 6 then some (some ⟨1, 0, [c], 1⟩) else none
def namedT (c : UInt8) (l : List UInt8) : Option (Option TokIs) := if bsort c = 3 then some (some ⟨4, 0, l.take (spanN isWord l), spanN isWord l⟩) else none
def numberT (c : UInt8) (l : List UInt8) : Option (Option TokIs) := if bsort c = 4 then some ((numberF l).map digT) else none
def quotedT (c : UInt8) (r : List UInt8) : Option (Option TokIs) := if c = 39 then some ((getQ 39 r).map fun x => ⟨2, 0, x.1, x.2 + 1⟩) else if c = 34 then some ((getQ 34 r).map fun x => ⟨5, 0, x.1, x.2 + 1⟩) else none
def punctT (c : UInt8) : Option (Option TokIs) := if bsort c = 7 then some (some ⟨6, 0, [c], 1⟩) else none
def firstT : List (Option (Option TokIs)) → Option TokIs
 | [] => none
 | some t :: _ => t
 | none :: r => firstT r
theorem tokF_first (c : UInt8) (r : List UInt8) : tokF (c :: r) = firstT [stopT c r, nameT c (c :: r), namedT c (c :: r), numberT c (c :: r), quotedT c r, punctT c] := by
 unfold tokF stopT nameT namedT numberT quotedT punctT
 simp only
 by_cases h1 : c = 46 ∧ (r = [] ∨ r.headD 0 = 37 ∨ bsort (r.headD 0) = 1)
 ·rw [if_pos h1, if_pos h1]; rfl
 rw [if_neg h1, if_neg h1]
 by_cases h2 : bsort c = 2
 ·rw [if_pos h2, if_pos h2]; rfl
 rw [if_neg h2, if_neg h2]
 by_cases h3 : bsort c = 5
 ·rw [if_pos h3, if_pos h3]; rfl
 rw [if_neg h3, if_neg h3]
 by_cases h4 : bsort c = 6
 ·rw [if_pos h4, if_pos h4]; rfl
 rw [if_neg h4, if_neg h4]
 by_cases h5 : bsort c = 3
 ·rw [if_pos h5, if_pos h5]; rfl
 rw [if_neg h5, if_neg h5]
 by_cases h6 : bsort c = 4
 ·rw [if_pos h6, if_pos h6]; rfl
 rw [if_neg h6, if_neg h6]
 by_cases h7 : c = 39
 ·rw [if_pos h7, if_pos h7]; rfl
 rw [if_neg h7, if_neg h7]
 by_cases h8 : c = 34
 ·rw [if_pos h8, if_pos h8]; rfl
 rw [if_neg h8, if_neg h8]
 by_cases h9 : bsort c = 7
 ·rw [if_pos h9, if_pos h9]; rfl
 rw [if_neg h9, if_neg h9]
 rfl
theorem stopT_any (w : World) (xv : Value) (l : List UInt8) (c : UInt8) (r : List UInt8) (hlc : l = c :: r) (hl : (l.length : Int) ≤ 1000000) :
    Calls Tryz.prog 18 #[xv, .string ⟨l.toArray⟩] w fun e w' => e = .returned (tryV (stopT c r)) ∧ Below w.heap.size w w' := stop_any w xv l c r hlc hl
theorem nameT_any (w : World) (xv : Value) (l : List UInt8) (c : UInt8) (r : List UInt8) (hlc : l = c :: r) (hl : (l.length : Int) ≤ 1000000) :
    Calls Tryz.prog 19 #[xv, .string ⟨l.toArray⟩] w fun e w' => e = .returned (tryV (nameT c l)) ∧ Below w.heap.size w w' := name_any w xv l c r hlc hl
theorem namedT_any (w : World) (xv : Value) (l : List UInt8) (c : UInt8) (r : List UInt8) (hlc : l = c :: r) (hl : (l.length : Int) ≤ 1000000) :
    Calls Tryz.prog 20 #[xv, .string ⟨l.toArray⟩] w fun e w' => e = .returned (tryV (namedT c l)) ∧ Below w.heap.size w w' := named_any w xv l c r hlc hl
theorem numberT_any (w : World) (xv : Value) (l : List UInt8) (c : UInt8) (r : List UInt8) (hlc : l = c :: r) (hl : (l.length : Int) ≤ 1000000) :
    Calls Tryz.prog 21 #[xv, .string ⟨l.toArray⟩] w fun e w' => e = .returned (tryV (numberT c l)) ∧ Below w.heap.size w w' := toknumber_any w xv l c r hlc hl
theorem quotedT_any (w : World) (xv : Value) (l : List UInt8) (c : UInt8) (r : List UInt8) (hlc : l = c :: r) (hl : (l.length : Int) ≤ 1000000) :
    Calls Tryz.prog 22 #[xv, .string ⟨l.toArray⟩] w fun e w' => e = .returned (tryV (quotedT c r)) ∧ Below w.heap.size w w' := quoted_any w xv l c r hlc hl
theorem punctT_any (w : World) (xv : Value) (l : List UInt8) (c : UInt8) (r : List UInt8) (hlc : l = c :: r) (hl : (l.length : Int) ≤ 1000000) :
    Calls Tryz.prog 23 #[xv, .string ⟨l.toArray⟩] w fun e w' => e = .returned (tryV (punctT c)) ∧ Below w.heap.size w w' := tokpunct_any w xv l c r hlc hl
theorem LexAt.funs {w : World} {bx a ln en : Nat} {T : List UInt8} {v : Value} (h : LexAt w bx T a ln en v) : w.cell? ⟨bx, 5, none⟩ = some (.func (.func 18) #[.pointer (some ⟨bx, 0, none⟩)] #[]) ∧ w.cell? ⟨bx, 6, none⟩ = some (.func (.func 19) #[.pointer (some ⟨bx, 0, none⟩)] #[]) ∧
    w.cell? ⟨bx, 7, none⟩ = some (.func (.func 20) #[.pointer (some ⟨bx, 0, none⟩)] #[]) ∧ w.cell? ⟨bx, 8, none⟩ = some (.func (.func 21) #[.pointer (some ⟨bx, 0, none⟩)] #[]) ∧
    w.cell? ⟨bx, 9, none⟩ = some (.func (.func 22) #[.pointer (some ⟨bx, 0, none⟩)] #[]) ∧ w.cell? ⟨bx, 10, none⟩ = some (.func (.func 23) #[.pointer (some ⟨bx, 0, none⟩)] #[]) :=
 ⟨by rw [cell_of_row w bx 5 _ _ (0, 0) h.blk]; rfl, by rw [cell_of_row w bx 6 _ _ (0, 0) h.blk]; rfl, by rw [cell_of_row w bx 7 _ _ (0, 0) h.blk]; rfl, by rw [cell_of_row w bx 8 _ _ (0, 0) h.blk]; rfl, by rw [cell_of_row w bx 9 _ _ (0, 0) h.blk]; rfl, by rw [cell_of_row w bx 10 _ _ (0, 0) h.blk]; rfl⟩
structure NextInv (w : World) (bx : Nat) (T : List UInt8) (a ln en : Nat) (v : Value) (u : World) : Prop where
 lex : LexAt u bx T a ln en v
 res : u.heap[w.heap.size]? = some (.cells #[.int .i64 0, .int .i64 0, .int .i64 0, .string ⟨#[]⟩, .bool false, .bool false] 48 (0, 0))
 below : Below w.heap.size w u
theorem NextInv.later {w u u1 : World} {bx a ln en : Nat} {T : List UInt8} {v : Value} (h : NextInv w bx T a ln en v u) (hb : Below u.heap.size u u1) : NextInv w bx T a ln en v u1 := by
 have hlt : w.heap.size < u.heap.size := (Array.getElem?_eq_some_iff.1 h.res).1
 exact ⟨h.lex.later hb, (hb.block _ hlt).trans h.res, h.below.trans (hb.mono h.below.size)⟩
theorem NextInv.drew {w u : World} {bx a ln en : Nat} {T : List UInt8} {v : Value} (h : NextInv w bx T a ln en v u) : NextInv w bx T a ln en v u.drew := h.later ⟨rfl, rfl, rfl, Nat.le_refl _, fun _ _ => rfl⟩
theorem NextInv.alloc {w u : World} {bx a ln en : Nat} {T : List UInt8} {v : Value} (h : NextInv w bx T a ln en v u) (o : Obj) : NextInv w bx T a ln en v (u.alloc o) := h.later ((Below.refl _ _).alloc (Nat.le_refl _) _)
theorem NextInv.s {w u : World} {bx a ln en : Nat} {T : List UInt8} {v : Value} (h : NextInv w bx T a ln en v u) : u.cell? ⟨bx, 0, none⟩ = some (.string ⟨T.toArray⟩) ∧ u.cell? ⟨bx, 1, none⟩ = some (.int .i64 (a : Int)) ∧ NextInv w bx T a ln en v u :=
 ⟨h.lex.cells.1, h.lex.cells.2.1, h⟩
def NextCut (w : World) (bx : Nat) (T : List UInt8) (a ln en : Nat) (v : Value) (t : TokIs) (n e : Int) (p nv ev : Value) (u : World) : Prop :=
 ∃ g, p = .pointer (some ⟨g, 0, none⟩) ∧ nv = .int .i64 n ∧ ev = .int .i64 e ∧ NextInv w bx T a ln en v u ∧
  u.cell? ⟨g, 0, none⟩ = some (.int .i64 t.kind) ∧ u.cell? ⟨g, 1, none⟩ = some (.int .i64 0) ∧ u.cell? ⟨g, 2, none⟩ = some (.int .i64 t.n) ∧ u.cell? ⟨g, 3, none⟩ = some (.string ⟨t.s.toArray⟩) ∧ u.cell? ⟨g, 4, none⟩ = some (.bool false) ∧ u.cell? ⟨g, 5, none⟩ = some (.bool false)
set_option maxHeartbeats 8000000 in
theorem next_any (w : World) (bx : Nat) (T : List UInt8) (a ln en : Nat) (v : Value) (h : LexAt w bx T a ln en v) (hlt : a < T.length) (hT : (T.length : Int) ≤ 400000) :
    Calls Tryz.prog 25 #[.pointer (some ⟨bx, 0, none⟩)] w fun e w' => e = .returned (tryV (some (tokF (T.drop a)))) ∧ Below w.heap.size w w' := by
 obtain ⟨c, hd, hx, hgc⟩ := byte_at T a hlt
 obtain ⟨l, hS⟩ : ∃ l, l = T.drop a := ⟨_, rfl⟩
 obtain ⟨r, hr⟩ : ∃ r, r = T.drop (a + 1) := ⟨_, rfl⟩
 have hlc : l = c :: r := by rw [hS, hr]; exact hd
 have hs : (⟨T.toArray⟩ : ByteArray).extract a T.length = ⟨l.toArray⟩ := by rw [hS]; exact slice_end T a
 have hll : (l.length : Int) ≤ 1000000 := by rw [hS, List.length_drop]; omega
 have ha' : (a : Int) ≤ (T.length : Int) := by omega
 have htok : tokF (T.drop a) = firstT [stopT c r, nameT c l, namedT c l, numberT c l, quotedT c r, punctT c] := by rw [← hS, hlc]; exact tokF_first c r
 have hpos : ∀ t, tokF (T.drop a) = some t → 0 < t.len := fun t ht => tokF_pos ht
 rw [htok] at hpos
 have HPOS := Lib.hid hpos
 generalize hR : tryV (some (tokF (T.drop a))) = R
 rw [htok] at hR
 have HR := Lib.hid hR
 have HLC := Lib.hid hlc
 clear hR htok hd hgc hx hS hr hlc hpos
 have HI0 : Hid (NextInv w bx T a ln en v (w.alloc (.cells #[.int .i64 0, .int .i64 0, .int .i64 0, .string ⟨#[]⟩, .bool false, .bool false] 48))) :=
  ⟨h.later ((Below.refl _ _).alloc (Nat.le_refl _) _), heap_alloc_new w _, (Below.refl _ _).alloc (Nat.le_refl _) _⟩
 have hbx := h.lt
 obtain ⟨c0, c1, c2, c3, c4, hf⟩ := h.cells
 obtain ⟨f5, f6, f7, f8, f9, f10⟩ := h.funs
 clear h
 have i0 : ∀ W, (Instr.index 61 (.agg #[.func (.func 18) #[.pointer (some ⟨bx, 0, none⟩)] #[], .func (.func 19) #[.pointer (some ⟨bx, 0, none⟩)] #[], .func (.func 20) #[.pointer (some ⟨bx, 0, none⟩)] #[], .func (.func 21) #[.pointer (some ⟨bx, 0, none⟩)] #[], .func (.func 22) #[.pointer (some ⟨bx, 0, none⟩)] #[], .func (.func 23) #[.pointer (some ⟨bx, 0, none⟩)] #[]]) (.int .i64 0)).run Tryz.prog W = .ok (.func (.func 18) #[.pointer (some ⟨bx, 0, none⟩)] #[]) W := fun _ => rfl
 have i1 : ∀ W, (Instr.index 61 (.agg #[.func (.func 18) #[.pointer (some ⟨bx, 0, none⟩)] #[], .func (.func 19) #[.pointer (some ⟨bx, 0, none⟩)] #[], .func (.func 20) #[.pointer (some ⟨bx, 0, none⟩)] #[], .func (.func 21) #[.pointer (some ⟨bx, 0, none⟩)] #[], .func (.func 22) #[.pointer (some ⟨bx, 0, none⟩)] #[], .func (.func 23) #[.pointer (some ⟨bx, 0, none⟩)] #[]]) (.int .i64 1)).run Tryz.prog W = .ok (.func (.func 19) #[.pointer (some ⟨bx, 0, none⟩)] #[]) W := fun _ => rfl
 have i2 : ∀ W, (Instr.index 61 (.agg #[.func (.func 18) #[.pointer (some ⟨bx, 0, none⟩)] #[], .func (.func 19) #[.pointer (some ⟨bx, 0, none⟩)] #[], .func (.func 20) #[.pointer (some ⟨bx, 0, none⟩)] #[], .func (.func 21) #[.pointer (some ⟨bx, 0, none⟩)] #[], .func (.func 22) #[.pointer (some ⟨bx, 0, none⟩)] #[], .func (.func 23) #[.pointer (some ⟨bx, 0, none⟩)] #[]]) (.int .i64 2)).run Tryz.prog W = .ok (.func (.func 20) #[.pointer (some ⟨bx, 0, none⟩)] #[]) W := fun _ => rfl
 have i3 : ∀ W, (Instr.index 61 (.agg #[.func (.func 18) #[.pointer (some ⟨bx, 0, none⟩)] #[], .func (.func 19) #[.pointer (some ⟨bx, 0, none⟩)] #[], .func (.func 20) #[.pointer (some ⟨bx, 0, none⟩)] #[], .func (.func 21) #[.pointer (some ⟨bx, 0, none⟩)] #[], .func (.func 22) #[.pointer (some ⟨bx, 0, none⟩)] #[], .func (.func 23) #[.pointer (some ⟨bx, 0, none⟩)] #[]]) (.int .i64 3)).run Tryz.prog W = .ok (.func (.func 21) #[.pointer (some ⟨bx, 0, none⟩)] #[]) W := fun _ => rfl
 have i4 : ∀ W, (Instr.index 61 (.agg #[.func (.func 18) #[.pointer (some ⟨bx, 0, none⟩)] #[], .func (.func 19) #[.pointer (some ⟨bx, 0, none⟩)] #[], .func (.func 20) #[.pointer (some ⟨bx, 0, none⟩)] #[], .func (.func 21) #[.pointer (some ⟨bx, 0, none⟩)] #[], .func (.func 22) #[.pointer (some ⟨bx, 0, none⟩)] #[], .func (.func 23) #[.pointer (some ⟨bx, 0, none⟩)] #[]]) (.int .i64 4)).run Tryz.prog W = .ok (.func (.func 22) #[.pointer (some ⟨bx, 0, none⟩)] #[]) W := fun _ => rfl
 have i5 : ∀ W, (Instr.index 61 (.agg #[.func (.func 18) #[.pointer (some ⟨bx, 0, none⟩)] #[], .func (.func 19) #[.pointer (some ⟨bx, 0, none⟩)] #[], .func (.func 20) #[.pointer (some ⟨bx, 0, none⟩)] #[], .func (.func 21) #[.pointer (some ⟨bx, 0, none⟩)] #[], .func (.func 22) #[.pointer (some ⟨bx, 0, none⟩)] #[], .func (.func 23) #[.pointer (some ⟨bx, 0, none⟩)] #[]]) (.int .i64 5)).run Tryz.prog W = .ok (.func (.func 23) #[.pointer (some ⟨bx, 0, none⟩)] #[]) W := fun _ => rfl
 go_enter Tryz.func25, Tryz.ntmps25
 go_wp2_with fail
 clear c2 c3 c4 f5 f6 f7 f8 f9 f10 c0 c1 hf
 generalize hw0 : w.alloc (.cells #[.int .i64 0, .int .i64 0, .int .i64 0, .string ⟨#[]⟩, .bool false, .bool false] 48) = u0
 rw [hw0] at HI0
 clear hw0
 refine wp_loop_rounds 7 ?_
 obtain ⟨c0, c1, -, -, -, hf⟩ := HI0.out.lex.cells
 rw [rounds_succ]
 cases hT0 : stopT c r with
 | some o =>
  have hr := HR.out
  have hp := HPOS.out
  rw [hT0] at hr hp
  have HT0 := Lib.hid hT0
  have HR2 := Lib.hid hr
  clear hT0 hr
  cases o with
  | none =>
   clear hp
   go_upto_region 4 with (fail)
   go_cut [7, 8, 9] (fun p nv ev u => NextCut w bx T a ln en v ⟨0, 0, [], 0⟩ 0 5 p nv ev u)
   case first =>
    go_region_held3 (fun u => u.cell? ⟨bx, 0, none⟩ = some (.string ⟨T.toArray⟩) ∧ u.cell? ⟨bx, 1, none⟩ = some (.int .i64 (a : Int)) ∧ NextInv w bx T a ln en v u) (first | (with_reducible exact HI0.out.s) | (with_reducible exact (NextInv.later HI0.out.drew hb).s) | (with_reducible exact (NextInv.alloc (NextInv.later HI0.out.drew hb) _).s) | (with_reducible exact (NextInv.later (HI0.out.alloc _).drew hb).s) | (with_reducible exact HI0.out.drew.s) | (with_reducible exact (HI0.out.alloc _).drew.s) | (with_reducible exact (NextInv.later (And.right (And.right (by assumption))) hb).s) | (with_reducible exact (NextInv.alloc (NextInv.later (And.right (And.right (by assumption))) hb) _).s) | (with_reducible exact (NextInv.alloc (And.right (And.right (by assumption))) _).s) | (with_reducible assumption) | ((with_reducible refine NextInv.s ?_); (refine NextInv.later HI0.out ?_); (repeat (refine Below.setCell ?_ (by simp) _)); exact (((Below.refl _ _).alloc (Nat.le_refl _) _).drew.trans (hb.mono (by simp))))) (first | (go_at_call 18; refine (stopT_any _ _ l c r HLC.out hll).mono ?_; rintro e u1 ⟨rfl, hb⟩; (try (obtain ⟨⟨z0, z1, z2, z3, z4, z5⟩, hzf⟩ := six_cells (below_one' (w := u0) hb rfl))); rw [HT0.out]; simp only [tryV, tokV]))
    all_goals
     go_wp2_with fail
     go_meet
     refine ⟨_, rfl, rfl, rfl, And.right (And.right (by assumption)), ?_, ?_, ?_, ?_, ?_, ?_⟩
     all_goals first | (simp [go_sem]; done) | (simp [go_sem, z0, z1, z2, z3, z4, z5]; done)
   case rest =>
    obtain ⟨g, rfl, rfl, rfl, hN, t0, t1, t2, t3, t4, t5⟩ := hcut
    obtain ⟨⟨a0, a1, a2, a3, a4, a5⟩, hfa⟩ := six_cells hN.res
    have HN := Lib.hid hN
    clear hN
    go_wp2_with fail
    rw [← HR2.out]
    refine bodyPost_ret (v := tryV (some none)) (by simp [results, Tryz.results25, go_sem, tryV, tokV, a0, a1, a2, a3, a4, a5]) rfl ⟨rfl, ?_⟩
    repeat (refine Below.setCell ?_ (by simp) _)
    exact HN.out.below
  | some t =>
   have htp : 0 < t.len := hp t rfl
   have htp' : (0 : Int) < (t.len : Int) := by omega
   clear hp
   go_upto_region 4 with (fail)
   go_cut [7, 8, 9] (fun p nv ev u => NextCut w bx T a ln en v t (t.len : Int) 0 p nv ev u)
   case first =>
    go_region_held3 (fun u => u.cell? ⟨bx, 0, none⟩ = some (.string ⟨T.toArray⟩) ∧ u.cell? ⟨bx, 1, none⟩ = some (.int .i64 (a : Int)) ∧ NextInv w bx T a ln en v u) (first | (with_reducible exact HI0.out.s) | (with_reducible exact (NextInv.later HI0.out.drew hb).s) | (with_reducible exact (NextInv.alloc (NextInv.later HI0.out.drew hb) _).s) | (with_reducible exact (NextInv.later (HI0.out.alloc _).drew hb).s) | (with_reducible exact HI0.out.drew.s) | (with_reducible exact (HI0.out.alloc _).drew.s) | (with_reducible exact (NextInv.later (And.right (And.right (by assumption))) hb).s) | (with_reducible exact (NextInv.alloc (NextInv.later (And.right (And.right (by assumption))) hb) _).s) | (with_reducible exact (NextInv.alloc (And.right (And.right (by assumption))) _).s) | (with_reducible assumption) | ((with_reducible refine NextInv.s ?_); (refine NextInv.later HI0.out ?_); (repeat (refine Below.setCell ?_ (by simp) _)); exact (((Below.refl _ _).alloc (Nat.le_refl _) _).drew.trans (hb.mono (by simp))))) (first | (go_at_call 18; refine (stopT_any _ _ l c r HLC.out hll).mono ?_; rintro e u1 ⟨rfl, hb⟩; (try (obtain ⟨⟨z0, z1, z2, z3, z4, z5⟩, hzf⟩ := six_cells (below_one' (w := u0) hb rfl))); rw [HT0.out]; simp only [tryV, tokV]))
    all_goals
     go_wp2_with fail
     go_meet
     refine ⟨_, rfl, rfl, rfl, And.right (And.right (by assumption)), ?_, ?_, ?_, ?_, ?_, ?_⟩
     all_goals first | (simp [go_sem]; done) | (simp [go_sem, z0, z1, z2, z3, z4, z5]; done)
   case rest =>
    obtain ⟨g, rfl, rfl, rfl, hN, t0, t1, t2, t3, t4, t5⟩ := hcut
    obtain ⟨⟨a0, a1, a2, a3, a4, a5⟩, hfa⟩ := six_cells hN.res
    have HN := Lib.hid hN
    clear hN
    go_wp2_with fail
    rw [← HR2.out]
    refine bodyPost_ret (v := tryV (some (some t))) (by simp [results, Tryz.results25, go_sem, tryV, tokV, a0, a1, a2, a3, a4, a5]) rfl ⟨rfl, ?_⟩
    repeat (refine Below.setCell ?_ (by simp) _)
    exact HN.out.below
 | none =>
  have HT0 := Lib.hid hT0
  clear hT0
  go_upto_region 4 with (fail)
  go_cut [7, 8, 9] (fun p nv ev u => NextCut w bx T a ln en v ⟨0, 0, [], 0⟩ 0 0 p nv ev u)
  case first =>
   go_region_held3 (fun u => u.cell? ⟨bx, 0, none⟩ = some (.string ⟨T.toArray⟩) ∧ u.cell? ⟨bx, 1, none⟩ = some (.int .i64 (a : Int)) ∧ NextInv w bx T a ln en v u) (first | (with_reducible exact HI0.out.s) | (with_reducible exact (NextInv.later HI0.out.drew hb).s) | (with_reducible exact (NextInv.alloc (NextInv.later HI0.out.drew hb) _).s) | (with_reducible exact (NextInv.later (HI0.out.alloc _).drew hb).s) | (with_reducible exact HI0.out.drew.s) | (with_reducible exact (HI0.out.alloc _).drew.s) | (with_reducible exact (NextInv.later (And.right (And.right (by assumption))) hb).s) | (with_reducible exact (NextInv.alloc (NextInv.later (And.right (And.right (by assumption))) hb) _).s) | (with_reducible exact (NextInv.alloc (And.right (And.right (by assumption))) _).s) | (with_reducible assumption) | ((with_reducible refine NextInv.s ?_); (refine NextInv.later HI0.out ?_); (repeat (refine Below.setCell ?_ (by simp) _)); exact (((Below.refl _ _).alloc (Nat.le_refl _) _).drew.trans (hb.mono (by simp))))) (first | (go_at_call 18; refine (stopT_any _ _ l c r HLC.out hll).mono ?_; rintro e u1 ⟨rfl, hb⟩; (try (obtain ⟨⟨z0, z1, z2, z3, z4, z5⟩, hzf⟩ := six_cells (below_one' (w := u0) hb rfl))); rw [HT0.out]; simp only [tryV, tokV]))
   all_goals
    go_wp2_with fail
    go_meet
    refine ⟨_, rfl, rfl, rfl, And.right (And.right (by assumption)), ?_, ?_, ?_, ?_, ?_, ?_⟩
    all_goals first | (simp [go_sem]; done) | (simp [go_sem, z0, z1, z2, z3, z4, z5]; done)
  case rest =>
   obtain ⟨g, rfl, rfl, rfl, hN, t0, t1, t2, t3, t4, t5⟩ := hcut
   obtain ⟨y1, rfl⟩ : ∃ y : World, y = wc := ⟨_, rfl⟩
   have HI1 := Lib.hid hN
   clear hN c0 c1 hf HI0
   go_wp2_with fail
   clear t0 t1 t2 t3 t4 t5
   obtain ⟨c0, c1, -, -, -, hf⟩ := HI1.out.lex.cells
   rw [rounds_succ]
   cases hT1 : nameT c l with
   | some o =>
    have hr := HR.out
    have hp := HPOS.out
    rw [HT0.out, hT1] at hr hp
    have HT1 := Lib.hid hT1
    have HR2 := Lib.hid hr
    clear hT1 hr
    cases o with
    | none =>
     clear hp
     go_upto_region 4 with (fail)
     go_cut [7, 8, 9] (fun p nv ev u => NextCut w bx T a ln en v ⟨0, 0, [], 0⟩ 0 5 p nv ev u)
     case first =>
      go_region_held3 (fun u => u.cell? ⟨bx, 0, none⟩ = some (.string ⟨T.toArray⟩) ∧ u.cell? ⟨bx, 1, none⟩ = some (.int .i64 (a : Int)) ∧ NextInv w bx T a ln en v u) (first | (with_reducible exact HI1.out.s) | (with_reducible exact (NextInv.later HI1.out.drew hb).s) | (with_reducible exact (NextInv.alloc (NextInv.later HI1.out.drew hb) _).s) | (with_reducible exact (NextInv.later (HI1.out.alloc _).drew hb).s) | (with_reducible exact HI1.out.drew.s) | (with_reducible exact (HI1.out.alloc _).drew.s) | (with_reducible exact (NextInv.later (And.right (And.right (by assumption))) hb).s) | (with_reducible exact (NextInv.alloc (NextInv.later (And.right (And.right (by assumption))) hb) _).s) | (with_reducible exact (NextInv.alloc (And.right (And.right (by assumption))) _).s) | (with_reducible assumption) | ((with_reducible refine NextInv.s ?_); (refine NextInv.later HI1.out ?_); (repeat (refine Below.setCell ?_ (by simp) _)); exact (((Below.refl _ _).alloc (Nat.le_refl _) _).drew.trans (hb.mono (by simp))))) (first | (go_at_call 19; refine (nameT_any _ _ l c r HLC.out hll).mono ?_; rintro e u1 ⟨rfl, hb⟩; (try (obtain ⟨⟨z0, z1, z2, z3, z4, z5⟩, hzf⟩ := six_cells (below_one' (w := y1) hb rfl))); rw [HT1.out]; simp only [tryV, tokV]))
      all_goals
       go_wp2_with fail
       go_meet
       refine ⟨_, rfl, rfl, rfl, And.right (And.right (by assumption)), ?_, ?_, ?_, ?_, ?_, ?_⟩
       all_goals first | (simp [go_sem]; done) | (simp [go_sem, z0, z1, z2, z3, z4, z5]; done)
     case rest =>
      obtain ⟨g, rfl, rfl, rfl, hN, t0, t1, t2, t3, t4, t5⟩ := hcut
      obtain ⟨⟨a0, a1, a2, a3, a4, a5⟩, hfa⟩ := six_cells hN.res
      have HN := Lib.hid hN
      clear hN
      go_wp2_with fail
      rw [← HR2.out]
      refine bodyPost_ret (v := tryV (some none)) (by simp [results, Tryz.results25, go_sem, tryV, tokV, a0, a1, a2, a3, a4, a5]) rfl ⟨rfl, ?_⟩
      repeat (refine Below.setCell ?_ (by simp) _)
      exact HN.out.below
    | some t =>
     have htp : 0 < t.len := hp t rfl
     have htp' : (0 : Int) < (t.len : Int) := by omega
     clear hp
     go_upto_region 4 with (fail)
     go_cut [7, 8, 9] (fun p nv ev u => NextCut w bx T a ln en v t (t.len : Int) 0 p nv ev u)
     case first =>
      go_region_held3 (fun u => u.cell? ⟨bx, 0, none⟩ = some (.string ⟨T.toArray⟩) ∧ u.cell? ⟨bx, 1, none⟩ = some (.int .i64 (a : Int)) ∧ NextInv w bx T a ln en v u) (first | (with_reducible exact HI1.out.s) | (with_reducible exact (NextInv.later HI1.out.drew hb).s) | (with_reducible exact (NextInv.alloc (NextInv.later HI1.out.drew hb) _).s) | (with_reducible exact (NextInv.later (HI1.out.alloc _).drew hb).s) | (with_reducible exact HI1.out.drew.s) | (with_reducible exact (HI1.out.alloc _).drew.s) | (with_reducible exact (NextInv.later (And.right (And.right (by assumption))) hb).s) | (with_reducible exact (NextInv.alloc (NextInv.later (And.right (And.right (by assumption))) hb) _).s) | (with_reducible exact (NextInv.alloc (And.right (And.right (by assumption))) _).s) | (with_reducible assumption) | ((with_reducible refine NextInv.s ?_); (refine NextInv.later HI1.out ?_); (repeat (refine Below.setCell ?_ (by simp) _)); exact (((Below.refl _ _).alloc (Nat.le_refl _) _).drew.trans (hb.mono (by simp))))) (first | (go_at_call 19; refine (nameT_any _ _ l c r HLC.out hll).mono ?_; rintro e u1 ⟨rfl, hb⟩; (try (obtain ⟨⟨z0, z1, z2, z3, z4, z5⟩, hzf⟩ := six_cells (below_one' (w := y1) hb rfl))); rw [HT1.out]; simp only [tryV, tokV]))
      all_goals
       go_wp2_with fail
       go_meet
       refine ⟨_, rfl, rfl, rfl, And.right (And.right (by assumption)), ?_, ?_, ?_, ?_, ?_, ?_⟩
       all_goals first | (simp [go_sem]; done) | (simp [go_sem, z0, z1, z2, z3, z4, z5]; done)
     case rest =>
      obtain ⟨g, rfl, rfl, rfl, hN, t0, t1, t2, t3, t4, t5⟩ := hcut
      obtain ⟨⟨a0, a1, a2, a3, a4, a5⟩, hfa⟩ := six_cells hN.res
      have HN := Lib.hid hN
      clear hN
      go_wp2_with fail
      rw [← HR2.out]
      refine bodyPost_ret (v := tryV (some (some t))) (by simp [results, Tryz.results25, go_sem, tryV, tokV, a0, a1, a2, a3, a4, a5]) rfl ⟨rfl, ?_⟩
      repeat (refine Below.setCell ?_ (by simp) _)
      exact HN.out.below
   | none =>
    have HT1 := Lib.hid hT1
    clear hT1
    go_upto_region 4 with (fail)
    go_cut [7, 8, 9] (fun p nv ev u => NextCut w bx T a ln en v ⟨0, 0, [], 0⟩ 0 0 p nv ev u)
    case first =>
     go_region_held3 (fun u => u.cell? ⟨bx, 0, none⟩ = some (.string ⟨T.toArray⟩) ∧ u.cell? ⟨bx, 1, none⟩ = some (.int .i64 (a : Int)) ∧ NextInv w bx T a ln en v u) (first | (with_reducible exact HI1.out.s) | (with_reducible exact (NextInv.later HI1.out.drew hb).s) | (with_reducible exact (NextInv.alloc (NextInv.later HI1.out.drew hb) _).s) | (with_reducible exact (NextInv.later (HI1.out.alloc _).drew hb).s) | (with_reducible exact HI1.out.drew.s) | (with_reducible exact (HI1.out.alloc _).drew.s) | (with_reducible exact (NextInv.later (And.right (And.right (by assumption))) hb).s) | (with_reducible exact (NextInv.alloc (NextInv.later (And.right (And.right (by assumption))) hb) _).s) | (with_reducible exact (NextInv.alloc (And.right (And.right (by assumption))) _).s) | (with_reducible assumption) | ((with_reducible refine NextInv.s ?_); (refine NextInv.later HI1.out ?_); (repeat (refine Below.setCell ?_ (by simp) _)); exact (((Below.refl _ _).alloc (Nat.le_refl _) _).drew.trans (hb.mono (by simp))))) (first | (go_at_call 19; refine (nameT_any _ _ l c r HLC.out hll).mono ?_; rintro e u1 ⟨rfl, hb⟩; (try (obtain ⟨⟨z0, z1, z2, z3, z4, z5⟩, hzf⟩ := six_cells (below_one' (w := y1) hb rfl))); rw [HT1.out]; simp only [tryV, tokV]))
     all_goals
      go_wp2_with fail
      go_meet
      refine ⟨_, rfl, rfl, rfl, And.right (And.right (by assumption)), ?_, ?_, ?_, ?_, ?_, ?_⟩
      all_goals first | (simp [go_sem]; done) | (simp [go_sem, z0, z1, z2, z3, z4, z5]; done)
    case rest =>
     obtain ⟨g, rfl, rfl, rfl, hN, t0, t1, t2, t3, t4, t5⟩ := hcut
     obtain ⟨y2, rfl⟩ : ∃ y : World, y = wc := ⟨_, rfl⟩
     have HI2 := Lib.hid hN
     clear hN c0 c1 hf HI1
     go_wp2_with fail
     clear t0 t1 t2 t3 t4 t5
     obtain ⟨c0, c1, -, -, -, hf⟩ := HI2.out.lex.cells
     rw [rounds_succ]
     cases hT2 : namedT c l with
     | some o =>
      have hr := HR.out
      have hp := HPOS.out
      rw [HT0.out, HT1.out, hT2] at hr hp
      have HT2 := Lib.hid hT2
      have HR2 := Lib.hid hr
      clear hT2 hr
      cases o with
      | none =>
       clear hp
       go_upto_region 4 with (fail)
       go_cut [7, 8, 9] (fun p nv ev u => NextCut w bx T a ln en v ⟨0, 0, [], 0⟩ 0 5 p nv ev u)
       case first =>
        go_region_held3 (fun u => u.cell? ⟨bx, 0, none⟩ = some (.string ⟨T.toArray⟩) ∧ u.cell? ⟨bx, 1, none⟩ = some (.int .i64 (a : Int)) ∧ NextInv w bx T a ln en v u) (first | (with_reducible exact HI2.out.s) | (with_reducible exact (NextInv.later HI2.out.drew hb).s) | (with_reducible exact (NextInv.alloc (NextInv.later HI2.out.drew hb) _).s) | (with_reducible exact (NextInv.later (HI2.out.alloc _).drew hb).s) | (with_reducible exact HI2.out.drew.s) | (with_reducible exact (HI2.out.alloc _).drew.s) | (with_reducible exact (NextInv.later (And.right (And.right (by assumption))) hb).s) | (with_reducible exact (NextInv.alloc (NextInv.later (And.right (And.right (by assumption))) hb) _).s) | (with_reducible exact (NextInv.alloc (And.right (And.right (by assumption))) _).s) | (with_reducible assumption) | ((with_reducible refine NextInv.s ?_); (refine NextInv.later HI2.out ?_); (repeat (refine Below.setCell ?_ (by simp) _)); exact (((Below.refl _ _).alloc (Nat.le_refl _) _).drew.trans (hb.mono (by simp))))) (first | (go_at_call 20; refine (namedT_any _ _ l c r HLC.out hll).mono ?_; rintro e u1 ⟨rfl, hb⟩; (try (obtain ⟨⟨z0, z1, z2, z3, z4, z5⟩, hzf⟩ := six_cells (below_one' (w := y2) hb rfl))); rw [HT2.out]; simp only [tryV, tokV]))
        all_goals
         go_wp2_with fail
         go_meet
         refine ⟨_, rfl, rfl, rfl, And.right (And.right (by assumption)), ?_, ?_, ?_, ?_, ?_, ?_⟩
         all_goals first | (simp [go_sem]; done) | (simp [go_sem, z0, z1, z2, z3, z4, z5]; done)
       case rest =>
        obtain ⟨g, rfl, rfl, rfl, hN, t0, t1, t2, t3, t4, t5⟩ := hcut
        obtain ⟨⟨a0, a1, a2, a3, a4, a5⟩, hfa⟩ := six_cells hN.res
        have HN := Lib.hid hN
        clear hN
        go_wp2_with fail
        rw [← HR2.out]
        refine bodyPost_ret (v := tryV (some none)) (by simp [results, Tryz.results25, go_sem, tryV, tokV, a0, a1, a2, a3, a4, a5]) rfl ⟨rfl, ?_⟩
        repeat (refine Below.setCell ?_ (by simp) _)
        exact HN.out.below
      | some t =>
       have htp : 0 < t.len := hp t rfl
       have htp' : (0 : Int) < (t.len : Int) := by omega
       clear hp
       go_upto_region 4 with (fail)
       go_cut [7, 8, 9] (fun p nv ev u => NextCut w bx T a ln en v t (t.len : Int) 0 p nv ev u)
       case first =>
        go_region_held3 (fun u => u.cell? ⟨bx, 0, none⟩ = some (.string ⟨T.toArray⟩) ∧ u.cell? ⟨bx, 1, none⟩ = some (.int .i64 (a : Int)) ∧ NextInv w bx T a ln en v u) (first | (with_reducible exact HI2.out.s) | (with_reducible exact (NextInv.later HI2.out.drew hb).s) | (with_reducible exact (NextInv.alloc (NextInv.later HI2.out.drew hb) _).s) | (with_reducible exact (NextInv.later (HI2.out.alloc _).drew hb).s) | (with_reducible exact HI2.out.drew.s) | (with_reducible exact (HI2.out.alloc _).drew.s) | (with_reducible exact (NextInv.later (And.right (And.right (by assumption))) hb).s) | (with_reducible exact (NextInv.alloc (NextInv.later (And.right (And.right (by assumption))) hb) _).s) | (with_reducible exact (NextInv.alloc (And.right (And.right (by assumption))) _).s) | (with_reducible assumption) | ((with_reducible refine NextInv.s ?_); (refine NextInv.later HI2.out ?_); (repeat (refine Below.setCell ?_ (by simp) _)); exact (((Below.refl _ _).alloc (Nat.le_refl _) _).drew.trans (hb.mono (by simp))))) (first | (go_at_call 20; refine (namedT_any _ _ l c r HLC.out hll).mono ?_; rintro e u1 ⟨rfl, hb⟩; (try (obtain ⟨⟨z0, z1, z2, z3, z4, z5⟩, hzf⟩ := six_cells (below_one' (w := y2) hb rfl))); rw [HT2.out]; simp only [tryV, tokV]))
        all_goals
         go_wp2_with fail
         go_meet
         refine ⟨_, rfl, rfl, rfl, And.right (And.right (by assumption)), ?_, ?_, ?_, ?_, ?_, ?_⟩
         all_goals first | (simp [go_sem]; done) | (simp [go_sem, z0, z1, z2, z3, z4, z5]; done)
       case rest =>
        obtain ⟨g, rfl, rfl, rfl, hN, t0, t1, t2, t3, t4, t5⟩ := hcut
        obtain ⟨⟨a0, a1, a2, a3, a4, a5⟩, hfa⟩ := six_cells hN.res
        have HN := Lib.hid hN
        clear hN
        go_wp2_with fail
        rw [← HR2.out]
        refine bodyPost_ret (v := tryV (some (some t))) (by simp [results, Tryz.results25, go_sem, tryV, tokV, a0, a1, a2, a3, a4, a5]) rfl ⟨rfl, ?_⟩
        repeat (refine Below.setCell ?_ (by simp) _)
        exact HN.out.below
     | none =>
      have HT2 := Lib.hid hT2
      clear hT2
      go_upto_region 4 with (fail)
      go_cut [7, 8, 9] (fun p nv ev u => NextCut w bx T a ln en v ⟨0, 0, [], 0⟩ 0 0 p nv ev u)
      case first =>
       go_region_held3 (fun u => u.cell? ⟨bx, 0, none⟩ = some (.string ⟨T.toArray⟩) ∧ u.cell? ⟨bx, 1, none⟩ = some (.int .i64 (a : Int)) ∧ NextInv w bx T a ln en v u) (first | (with_reducible exact HI2.out.s) | (with_reducible exact (NextInv.later HI2.out.drew hb).s) | (with_reducible exact (NextInv.alloc (NextInv.later HI2.out.drew hb) _).s) | (with_reducible exact (NextInv.later (HI2.out.alloc _).drew hb).s) | (with_reducible exact HI2.out.drew.s) | (with_reducible exact (HI2.out.alloc _).drew.s) | (with_reducible exact (NextInv.later (And.right (And.right (by assumption))) hb).s) | (with_reducible exact (NextInv.alloc (NextInv.later (And.right (And.right (by assumption))) hb) _).s) | (with_reducible exact (NextInv.alloc (And.right (And.right (by assumption))) _).s) | (with_reducible assumption) | ((with_reducible refine NextInv.s ?_); (refine NextInv.later HI2.out ?_); (repeat (refine Below.setCell ?_ (by simp) _)); exact (((Below.refl _ _).alloc (Nat.le_refl _) _).drew.trans (hb.mono (by simp))))) (first | (go_at_call 20; refine (namedT_any _ _ l c r HLC.out hll).mono ?_; rintro e u1 ⟨rfl, hb⟩; (try (obtain ⟨⟨z0, z1, z2, z3, z4, z5⟩, hzf⟩ := six_cells (below_one' (w := y2) hb rfl))); rw [HT2.out]; simp only [tryV, tokV]))
       all_goals
        go_wp2_with fail
        go_meet
        refine ⟨_, rfl, rfl, rfl, And.right (And.right (by assumption)), ?_, ?_, ?_, ?_, ?_, ?_⟩
        all_goals first | (simp [go_sem]; done) | (simp [go_sem, z0, z1, z2, z3, z4, z5]; done)
      case rest =>
       obtain ⟨g, rfl, rfl, rfl, hN, t0, t1, t2, t3, t4, t5⟩ := hcut
       obtain ⟨y3, rfl⟩ : ∃ y : World, y = wc := ⟨_, rfl⟩
       have HI3 := Lib.hid hN
       clear hN c0 c1 hf HI2
       go_wp2_with fail
       clear t0 t1 t2 t3 t4 t5
       obtain ⟨c0, c1, -, -, -, hf⟩ := HI3.out.lex.cells
       rw [rounds_succ]
       cases hT3 : numberT c l with
       | some o =>
        have hr := HR.out
        have hp := HPOS.out
        rw [HT0.out, HT1.out, HT2.out, hT3] at hr hp
        have HT3 := Lib.hid hT3
        have HR2 := Lib.hid hr
        clear hT3 hr
        cases o with
        | none =>
         clear hp
         go_upto_region 4 with (fail)
         go_cut [7, 8, 9] (fun p nv ev u => NextCut w bx T a ln en v ⟨0, 0, [], 0⟩ 0 5 p nv ev u)
         case first =>
          go_region_held3 (fun u => u.cell? ⟨bx, 0, none⟩ = some (.string ⟨T.toArray⟩) ∧ u.cell? ⟨bx, 1, none⟩ = some (.int .i64 (a : Int)) ∧ NextInv w bx T a ln en v u) (first | (with_reducible exact HI3.out.s) | (with_reducible exact (NextInv.later HI3.out.drew hb).s) | (with_reducible exact (NextInv.alloc (NextInv.later HI3.out.drew hb) _).s) | (with_reducible exact (NextInv.later (HI3.out.alloc _).drew hb).s) | (with_reducible exact HI3.out.drew.s) | (with_reducible exact (HI3.out.alloc _).drew.s) | (with_reducible exact (NextInv.later (And.right (And.right (by assumption))) hb).s) | (with_reducible exact (NextInv.alloc (NextInv.later (And.right (And.right (by assumption))) hb) _).s) | (with_reducible exact (NextInv.alloc (And.right (And.right (by assumption))) _).s) | (with_reducible assumption) | ((with_reducible refine NextInv.s ?_); (refine NextInv.later HI3.out ?_); (repeat (refine Below.setCell ?_ (by simp) _)); exact (((Below.refl _ _).alloc (Nat.le_refl _) _).drew.trans (hb.mono (by simp))))) (first | (go_at_call 21; refine (numberT_any _ _ l c r HLC.out hll).mono ?_; rintro e u1 ⟨rfl, hb⟩; (try (obtain ⟨⟨z0, z1, z2, z3, z4, z5⟩, hzf⟩ := six_cells (below_one' (w := y3) hb rfl))); rw [HT3.out]; simp only [tryV, tokV]))
          all_goals
           go_wp2_with fail
           go_meet
           refine ⟨_, rfl, rfl, rfl, And.right (And.right (by assumption)), ?_, ?_, ?_, ?_, ?_, ?_⟩
           all_goals first | (simp [go_sem]; done) | (simp [go_sem, z0, z1, z2, z3, z4, z5]; done)
         case rest =>
          obtain ⟨g, rfl, rfl, rfl, hN, t0, t1, t2, t3, t4, t5⟩ := hcut
          obtain ⟨⟨a0, a1, a2, a3, a4, a5⟩, hfa⟩ := six_cells hN.res
          have HN := Lib.hid hN
          clear hN
          go_wp2_with fail
          rw [← HR2.out]
          refine bodyPost_ret (v := tryV (some none)) (by simp [results, Tryz.results25, go_sem, tryV, tokV, a0, a1, a2, a3, a4, a5]) rfl ⟨rfl, ?_⟩
          repeat (refine Below.setCell ?_ (by simp) _)
          exact HN.out.below
        | some t =>
         have htp : 0 < t.len := hp t rfl
         have htp' : (0 : Int) < (t.len : Int) := by omega
         clear hp
         go_upto_region 4 with (fail)
         go_cut [7, 8, 9] (fun p nv ev u => NextCut w bx T a ln en v t (t.len : Int) 0 p nv ev u)
         case first =>
          go_region_held3 (fun u => u.cell? ⟨bx, 0, none⟩ = some (.string ⟨T.toArray⟩) ∧ u.cell? ⟨bx, 1, none⟩ = some (.int .i64 (a : Int)) ∧ NextInv w bx T a ln en v u) (first | (with_reducible exact HI3.out.s) | (with_reducible exact (NextInv.later HI3.out.drew hb).s) | (with_reducible exact (NextInv.alloc (NextInv.later HI3.out.drew hb) _).s) | (with_reducible exact (NextInv.later (HI3.out.alloc _).drew hb).s) | (with_reducible exact HI3.out.drew.s) | (with_reducible exact (HI3.out.alloc _).drew.s) | (with_reducible exact (NextInv.later (And.right (And.right (by assumption))) hb).s) | (with_reducible exact (NextInv.alloc (NextInv.later (And.right (And.right (by assumption))) hb) _).s) | (with_reducible exact (NextInv.alloc (And.right (And.right (by assumption))) _).s) | (with_reducible assumption) | ((with_reducible refine NextInv.s ?_); (refine NextInv.later HI3.out ?_); (repeat (refine Below.setCell ?_ (by simp) _)); exact (((Below.refl _ _).alloc (Nat.le_refl _) _).drew.trans (hb.mono (by simp))))) (first | (go_at_call 21; refine (numberT_any _ _ l c r HLC.out hll).mono ?_; rintro e u1 ⟨rfl, hb⟩; (try (obtain ⟨⟨z0, z1, z2, z3, z4, z5⟩, hzf⟩ := six_cells (below_one' (w := y3) hb rfl))); rw [HT3.out]; simp only [tryV, tokV]))
          all_goals
           go_wp2_with fail
           go_meet
           refine ⟨_, rfl, rfl, rfl, And.right (And.right (by assumption)), ?_, ?_, ?_, ?_, ?_, ?_⟩
           all_goals first | (simp [go_sem]; done) | (simp [go_sem, z0, z1, z2, z3, z4, z5]; done)
         case rest =>
          obtain ⟨g, rfl, rfl, rfl, hN, t0, t1, t2, t3, t4, t5⟩ := hcut
          obtain ⟨⟨a0, a1, a2, a3, a4, a5⟩, hfa⟩ := six_cells hN.res
          have HN := Lib.hid hN
          clear hN
          go_wp2_with fail
          rw [← HR2.out]
          refine bodyPost_ret (v := tryV (some (some t))) (by simp [results, Tryz.results25, go_sem, tryV, tokV, a0, a1, a2, a3, a4, a5]) rfl ⟨rfl, ?_⟩
          repeat (refine Below.setCell ?_ (by simp) _)
          exact HN.out.below
       | none =>
        have HT3 := Lib.hid hT3
        clear hT3
        go_upto_region 4 with (fail)
        go_cut [7, 8, 9] (fun p nv ev u => NextCut w bx T a ln en v ⟨0, 0, [], 0⟩ 0 0 p nv ev u)
        case first =>
         go_region_held3 (fun u => u.cell? ⟨bx, 0, none⟩ = some (.string ⟨T.toArray⟩) ∧ u.cell? ⟨bx, 1, none⟩ = some (.int .i64 (a : Int)) ∧ NextInv w bx T a ln en v u) (first | (with_reducible exact HI3.out.s) | (with_reducible exact (NextInv.later HI3.out.drew hb).s) | (with_reducible exact (NextInv.alloc (NextInv.later HI3.out.drew hb) _).s) | (with_reducible exact (NextInv.later (HI3.out.alloc _).drew hb).s) | (with_reducible exact HI3.out.drew.s) | (with_reducible exact (HI3.out.alloc _).drew.s) | (with_reducible exact (NextInv.later (And.right (And.right (by assumption))) hb).s) | (with_reducible exact (NextInv.alloc (NextInv.later (And.right (And.right (by assumption))) hb) _).s) | (with_reducible exact (NextInv.alloc (And.right (And.right (by assumption))) _).s) | (with_reducible assumption) | ((with_reducible refine NextInv.s ?_); (refine NextInv.later HI3.out ?_); (repeat (refine Below.setCell ?_ (by simp) _)); exact (((Below.refl _ _).alloc (Nat.le_refl _) _).drew.trans (hb.mono (by simp))))) (first | (go_at_call 21; refine (numberT_any _ _ l c r HLC.out hll).mono ?_; rintro e u1 ⟨rfl, hb⟩; (try (obtain ⟨⟨z0, z1, z2, z3, z4, z5⟩, hzf⟩ := six_cells (below_one' (w := y3) hb rfl))); rw [HT3.out]; simp only [tryV, tokV]))
         all_goals
          go_wp2_with fail
          go_meet
          refine ⟨_, rfl, rfl, rfl, And.right (And.right (by assumption)), ?_, ?_, ?_, ?_, ?_, ?_⟩
          all_goals first | (simp [go_sem]; done) | (simp [go_sem, z0, z1, z2, z3, z4, z5]; done)
        case rest =>
         obtain ⟨g, rfl, rfl, rfl, hN, t0, t1, t2, t3, t4, t5⟩ := hcut
         obtain ⟨y4, rfl⟩ : ∃ y : World, y = wc := ⟨_, rfl⟩
         have HI4 := Lib.hid hN
         clear hN c0 c1 hf HI3
         go_wp2_with fail
         clear t0 t1 t2 t3 t4 t5
         obtain ⟨c0, c1, -, -, -, hf⟩ := HI4.out.lex.cells
         rw [rounds_succ]
         cases hT4 : quotedT c r with
         | some o =>
          have hr := HR.out
          have hp := HPOS.out
          rw [HT0.out, HT1.out, HT2.out, HT3.out, hT4] at hr hp
          have HT4 := Lib.hid hT4
          have HR2 := Lib.hid hr
          clear hT4 hr
          cases o with
          | none =>
           clear hp
           go_upto_region 4 with (fail)
           go_cut [7, 8, 9] (fun p nv ev u => NextCut w bx T a ln en v ⟨0, 0, [], 0⟩ 0 5 p nv ev u)
           case first =>
            go_region_held3 (fun u => u.cell? ⟨bx, 0, none⟩ = some (.string ⟨T.toArray⟩) ∧ u.cell? ⟨bx, 1, none⟩ = some (.int .i64 (a : Int)) ∧ NextInv w bx T a ln en v u) (first | (with_reducible exact HI4.out.s) | (with_reducible exact (NextInv.later HI4.out.drew hb).s) | (with_reducible exact (NextInv.alloc (NextInv.later HI4.out.drew hb) _).s) | (with_reducible exact (NextInv.later (HI4.out.alloc _).drew hb).s) | (with_reducible exact HI4.out.drew.s) | (with_reducible exact (HI4.out.alloc _).drew.s) | (with_reducible exact (NextInv.later (And.right (And.right (by assumption))) hb).s) | (with_reducible exact (NextInv.alloc (NextInv.later (And.right (And.right (by assumption))) hb) _).s) | (with_reducible exact (NextInv.alloc (And.right (And.right (by assumption))) _).s) | (with_reducible assumption) | ((with_reducible refine NextInv.s ?_); (refine NextInv.later HI4.out ?_); (repeat (refine Below.setCell ?_ (by simp) _)); exact (((Below.refl _ _).alloc (Nat.le_refl _) _).drew.trans (hb.mono (by simp))))) (first | (go_at_call 22; refine (quotedT_any _ _ l c r HLC.out hll).mono ?_; rintro e u1 ⟨rfl, hb⟩; (try (obtain ⟨⟨z0, z1, z2, z3, z4, z5⟩, hzf⟩ := six_cells (below_one' (w := y4) hb rfl))); rw [HT4.out]; simp only [tryV, tokV]))
            all_goals
             go_wp2_with fail
             go_meet
             refine ⟨_, rfl, rfl, rfl, And.right (And.right (by assumption)), ?_, ?_, ?_, ?_, ?_, ?_⟩
             all_goals first | (simp [go_sem]; done) | (simp [go_sem, z0, z1, z2, z3, z4, z5]; done)
           case rest =>
            obtain ⟨g, rfl, rfl, rfl, hN, t0, t1, t2, t3, t4, t5⟩ := hcut
            obtain ⟨⟨a0, a1, a2, a3, a4, a5⟩, hfa⟩ := six_cells hN.res
            have HN := Lib.hid hN
            clear hN
            go_wp2_with fail
            rw [← HR2.out]
            refine bodyPost_ret (v := tryV (some none)) (by simp [results, Tryz.results25, go_sem, tryV, tokV, a0, a1, a2, a3, a4, a5]) rfl ⟨rfl, ?_⟩
            repeat (refine Below.setCell ?_ (by simp) _)
            exact HN.out.below
          | some t =>
           have htp : 0 < t.len := hp t rfl
           have htp' : (0 : Int) < (t.len : Int) := by omega
           clear hp
           go_upto_region 4 with (fail)
           go_cut [7, 8, 9] (fun p nv ev u => NextCut w bx T a ln en v t (t.len : Int) 0 p nv ev u)
           case first =>
            go_region_held3 (fun u => u.cell? ⟨bx, 0, none⟩ = some (.string ⟨T.toArray⟩) ∧ u.cell? ⟨bx, 1, none⟩ = some (.int .i64 (a : Int)) ∧ NextInv w bx T a ln en v u) (first | (with_reducible exact HI4.out.s) | (with_reducible exact (NextInv.later HI4.out.drew hb).s) | (with_reducible exact (NextInv.alloc (NextInv.later HI4.out.drew hb) _).s) | (with_reducible exact (NextInv.later (HI4.out.alloc _).drew hb).s) | (with_reducible exact HI4.out.drew.s) | (with_reducible exact (HI4.out.alloc _).drew.s) | (with_reducible exact (NextInv.later (And.right (And.right (by assumption))) hb).s) | (with_reducible exact (NextInv.alloc (NextInv.later (And.right (And.right (by assumption))) hb) _).s) | (with_reducible exact (NextInv.alloc (And.right (And.right (by assumption))) _).s) | (with_reducible assumption) | ((with_reducible refine NextInv.s ?_); (refine NextInv.later HI4.out ?_); (repeat (refine Below.setCell ?_ (by simp) _)); exact (((Below.refl _ _).alloc (Nat.le_refl _) _).drew.trans (hb.mono (by simp))))) (first | (go_at_call 22; refine (quotedT_any _ _ l c r HLC.out hll).mono ?_; rintro e u1 ⟨rfl, hb⟩; (try (obtain ⟨⟨z0, z1, z2, z3, z4, z5⟩, hzf⟩ := six_cells (below_one' (w := y4) hb rfl))); rw [HT4.out]; simp only [tryV, tokV]))
            all_goals
             go_wp2_with fail
             go_meet
             refine ⟨_, rfl, rfl, rfl, And.right (And.right (by assumption)), ?_, ?_, ?_, ?_, ?_, ?_⟩
             all_goals first | (simp [go_sem]; done) | (simp [go_sem, z0, z1, z2, z3, z4, z5]; done)
           case rest =>
            obtain ⟨g, rfl, rfl, rfl, hN, t0, t1, t2, t3, t4, t5⟩ := hcut
            obtain ⟨⟨a0, a1, a2, a3, a4, a5⟩, hfa⟩ := six_cells hN.res
            have HN := Lib.hid hN
            clear hN
            go_wp2_with fail
            rw [← HR2.out]
            refine bodyPost_ret (v := tryV (some (some t))) (by simp [results, Tryz.results25, go_sem, tryV, tokV, a0, a1, a2, a3, a4, a5]) rfl ⟨rfl, ?_⟩
            repeat (refine Below.setCell ?_ (by simp) _)
            exact HN.out.below
         | none =>
          have HT4 := Lib.hid hT4
          clear hT4
          go_upto_region 4 with (fail)
          go_cut [7, 8, 9] (fun p nv ev u => NextCut w bx T a ln en v ⟨0, 0, [], 0⟩ 0 0 p nv ev u)
          case first =>
           go_region_held3 (fun u => u.cell? ⟨bx, 0, none⟩ = some (.string ⟨T.toArray⟩) ∧ u.cell? ⟨bx, 1, none⟩ = some (.int .i64 (a : Int)) ∧ NextInv w bx T a ln en v u) (first | (with_reducible exact HI4.out.s) | (with_reducible exact (NextInv.later HI4.out.drew hb).s) | (with_reducible exact (NextInv.alloc (NextInv.later HI4.out.drew hb) _).s) | (with_reducible exact (NextInv.later (HI4.out.alloc _).drew hb).s) | (with_reducible exact HI4.out.drew.s) | (with_reducible exact (HI4.out.alloc _).drew.s) | (with_reducible exact (NextInv.later (And.right (And.right (by assumption))) hb).s) | (with_reducible exact (NextInv.alloc (NextInv.later (And.right (And.right (by assumption))) hb) _).s) | (with_reducible exact (NextInv.alloc (And.right (And.right (by assumption))) _).s) | (with_reducible assumption) | ((with_reducible refine NextInv.s ?_); (refine NextInv.later HI4.out ?_); (repeat (refine Below.setCell ?_ (by simp) _)); exact (((Below.refl _ _).alloc (Nat.le_refl _) _).drew.trans (hb.mono (by simp))))) (first | (go_at_call 22; refine (quotedT_any _ _ l c r HLC.out hll).mono ?_; rintro e u1 ⟨rfl, hb⟩; (try (obtain ⟨⟨z0, z1, z2, z3, z4, z5⟩, hzf⟩ := six_cells (below_one' (w := y4) hb rfl))); rw [HT4.out]; simp only [tryV, tokV]))
           all_goals
            go_wp2_with fail
            go_meet
            refine ⟨_, rfl, rfl, rfl, And.right (And.right (by assumption)), ?_, ?_, ?_, ?_, ?_, ?_⟩
            all_goals first | (simp [go_sem]; done) | (simp [go_sem, z0, z1, z2, z3, z4, z5]; done)
          case rest =>
           obtain ⟨g, rfl, rfl, rfl, hN, t0, t1, t2, t3, t4, t5⟩ := hcut
           obtain ⟨y5, rfl⟩ : ∃ y : World, y = wc := ⟨_, rfl⟩
           have HI5 := Lib.hid hN
           clear hN c0 c1 hf HI4
           go_wp2_with fail
           clear t0 t1 t2 t3 t4 t5
           obtain ⟨c0, c1, -, -, -, hf⟩ := HI5.out.lex.cells
           rw [rounds_succ]
           cases hT5 : punctT c with
           | some o =>
            have hr := HR.out
            have hp := HPOS.out
            rw [HT0.out, HT1.out, HT2.out, HT3.out, HT4.out, hT5] at hr hp
            have HT5 := Lib.hid hT5
            have HR2 := Lib.hid hr
            clear hT5 hr
            cases o with
            | none =>
             clear hp
             go_upto_region 4 with (fail)
             go_cut [7, 8, 9] (fun p nv ev u => NextCut w bx T a ln en v ⟨0, 0, [], 0⟩ 0 5 p nv ev u)
             case first =>
              go_region_held3 (fun u => u.cell? ⟨bx, 0, none⟩ = some (.string ⟨T.toArray⟩) ∧ u.cell? ⟨bx, 1, none⟩ = some (.int .i64 (a : Int)) ∧ NextInv w bx T a ln en v u) (first | (with_reducible exact HI5.out.s) | (with_reducible exact (NextInv.later HI5.out.drew hb).s) | (with_reducible exact (NextInv.alloc (NextInv.later HI5.out.drew hb) _).s) | (with_reducible exact (NextInv.later (HI5.out.alloc _).drew hb).s) | (with_reducible exact HI5.out.drew.s) | (with_reducible exact (HI5.out.alloc _).drew.s) | (with_reducible exact (NextInv.later (And.right (And.right (by assumption))) hb).s) | (with_reducible exact (NextInv.alloc (NextInv.later (And.right (And.right (by assumption))) hb) _).s) | (with_reducible exact (NextInv.alloc (And.right (And.right (by assumption))) _).s) | (with_reducible assumption) | ((with_reducible refine NextInv.s ?_); (refine NextInv.later HI5.out ?_); (repeat (refine Below.setCell ?_ (by simp) _)); exact (((Below.refl _ _).alloc (Nat.le_refl _) _).drew.trans (hb.mono (by simp))))) (first | (go_at_call 23; refine (punctT_any _ _ l c r HLC.out hll).mono ?_; rintro e u1 ⟨rfl, hb⟩; (try (obtain ⟨⟨z0, z1, z2, z3, z4, z5⟩, hzf⟩ := six_cells (below_one' (w := y5) hb rfl))); rw [HT5.out]; simp only [tryV, tokV]))
              all_goals
               go_wp2_with fail
               go_meet
               refine ⟨_, rfl, rfl, rfl, And.right (And.right (by assumption)), ?_, ?_, ?_, ?_, ?_, ?_⟩
               all_goals first | (simp [go_sem]; done) | (simp [go_sem, z0, z1, z2, z3, z4, z5]; done)
             case rest =>
              obtain ⟨g, rfl, rfl, rfl, hN, t0, t1, t2, t3, t4, t5⟩ := hcut
              obtain ⟨⟨a0, a1, a2, a3, a4, a5⟩, hfa⟩ := six_cells hN.res
              have HN := Lib.hid hN
              clear hN
              go_wp2_with fail
              rw [← HR2.out]
              refine bodyPost_ret (v := tryV (some none)) (by simp [results, Tryz.results25, go_sem, tryV, tokV, a0, a1, a2, a3, a4, a5]) rfl ⟨rfl, ?_⟩
              repeat (refine Below.setCell ?_ (by simp) _)
              exact HN.out.below
            | some t =>
             have htp : 0 < t.len := hp t rfl
             have htp' : (0 : Int) < (t.len : Int) := by omega
             clear hp
             go_upto_region 4 with (fail)
             go_cut [7, 8, 9] (fun p nv ev u => NextCut w bx T a ln en v t (t.len : Int) 0 p nv ev u)
             case first =>
              go_region_held3 (fun u => u.cell? ⟨bx, 0, none⟩ = some (.string ⟨T.toArray⟩) ∧ u.cell? ⟨bx, 1, none⟩ = some (.int .i64 (a : Int)) ∧ NextInv w bx T a ln en v u) (first | (with_reducible exact HI5.out.s) | (with_reducible exact (NextInv.later HI5.out.drew hb).s) | (with_reducible exact (NextInv.alloc (NextInv.later HI5.out.drew hb) _).s) | (with_reducible exact (NextInv.later (HI5.out.alloc _).drew hb).s) | (with_reducible exact HI5.out.drew.s) | (with_reducible exact (HI5.out.alloc _).drew.s) | (with_reducible exact (NextInv.later (And.right (And.right (by assumption))) hb).s) | (with_reducible exact (NextInv.alloc (NextInv.later (And.right (And.right (by assumption))) hb) _).s) | (with_reducible exact (NextInv.alloc (And.right (And.right (by assumption))) _).s) | (with_reducible assumption) | ((with_reducible refine NextInv.s ?_); (refine NextInv.later HI5.out ?_); (repeat (refine Below.setCell ?_ (by simp) _)); exact (((Below.refl _ _).alloc (Nat.le_refl _) _).drew.trans (hb.mono (by simp))))) (first | (go_at_call 23; refine (punctT_any _ _ l c r HLC.out hll).mono ?_; rintro e u1 ⟨rfl, hb⟩; (try (obtain ⟨⟨z0, z1, z2, z3, z4, z5⟩, hzf⟩ := six_cells (below_one' (w := y5) hb rfl))); rw [HT5.out]; simp only [tryV, tokV]))
              all_goals
               go_wp2_with fail
               go_meet
               refine ⟨_, rfl, rfl, rfl, And.right (And.right (by assumption)), ?_, ?_, ?_, ?_, ?_, ?_⟩
               all_goals first | (simp [go_sem]; done) | (simp [go_sem, z0, z1, z2, z3, z4, z5]; done)
             case rest =>
              obtain ⟨g, rfl, rfl, rfl, hN, t0, t1, t2, t3, t4, t5⟩ := hcut
              obtain ⟨⟨a0, a1, a2, a3, a4, a5⟩, hfa⟩ := six_cells hN.res
              have HN := Lib.hid hN
              clear hN
              go_wp2_with fail
              rw [← HR2.out]
              refine bodyPost_ret (v := tryV (some (some t))) (by simp [results, Tryz.results25, go_sem, tryV, tokV, a0, a1, a2, a3, a4, a5]) rfl ⟨rfl, ?_⟩
              repeat (refine Below.setCell ?_ (by simp) _)
              exact HN.out.below
           | none =>
            have HT5 := Lib.hid hT5
            clear hT5
            go_upto_region 4 with (fail)
            go_cut [7, 8, 9] (fun p nv ev u => NextCut w bx T a ln en v ⟨0, 0, [], 0⟩ 0 0 p nv ev u)
            case first =>
             go_region_held3 (fun u => u.cell? ⟨bx, 0, none⟩ = some (.string ⟨T.toArray⟩) ∧ u.cell? ⟨bx, 1, none⟩ = some (.int .i64 (a : Int)) ∧ NextInv w bx T a ln en v u) (first | (with_reducible exact HI5.out.s) | (with_reducible exact (NextInv.later HI5.out.drew hb).s) | (with_reducible exact (NextInv.alloc (NextInv.later HI5.out.drew hb) _).s) | (with_reducible exact (NextInv.later (HI5.out.alloc _).drew hb).s) | (with_reducible exact HI5.out.drew.s) | (with_reducible exact (HI5.out.alloc _).drew.s) | (with_reducible exact (NextInv.later (And.right (And.right (by assumption))) hb).s) | (with_reducible exact (NextInv.alloc (NextInv.later (And.right (And.right (by assumption))) hb) _).s) | (with_reducible exact (NextInv.alloc (And.right (And.right (by assumption))) _).s) | (with_reducible assumption) | ((with_reducible refine NextInv.s ?_); (refine NextInv.later HI5.out ?_); (repeat (refine Below.setCell ?_ (by simp) _)); exact (((Below.refl _ _).alloc (Nat.le_refl _) _).drew.trans (hb.mono (by simp))))) (first | (go_at_call 23; refine (punctT_any _ _ l c r HLC.out hll).mono ?_; rintro e u1 ⟨rfl, hb⟩; (try (obtain ⟨⟨z0, z1, z2, z3, z4, z5⟩, hzf⟩ := six_cells (below_one' (w := y5) hb rfl))); rw [HT5.out]; simp only [tryV, tokV]))
             all_goals
              go_wp2_with fail
              go_meet
              refine ⟨_, rfl, rfl, rfl, And.right (And.right (by assumption)), ?_, ?_, ?_, ?_, ?_, ?_⟩
              all_goals first | (simp [go_sem]; done) | (simp [go_sem, z0, z1, z2, z3, z4, z5]; done)
            case rest =>
             obtain ⟨g, rfl, rfl, rfl, hN, t0, t1, t2, t3, t4, t5⟩ := hcut
             obtain ⟨y6, rfl⟩ : ∃ y : World, y = wc := ⟨_, rfl⟩
             have HI6 := Lib.hid hN
             clear hN c0 c1 hf HI5
             go_wp2_with fail
             clear t0 t1 t2 t3 t4 t5
             have hr := HR.out
             rw [HT0.out, HT1.out, HT2.out, HT3.out, HT4.out, HT5.out] at hr
             have HR2 := Lib.hid hr
             clear hr
             obtain ⟨⟨a0, a1, a2, a3, a4, a5⟩, hfa⟩ := six_cells HI6.out.res
             rw [rounds_succ]
             go_wp2_with fail
             rw [← HR2.out]
             refine bodyPost_ret (v := tryV (some none)) (by simp [results, Tryz.results25, go_sem, tryV, tokV, a0, a1, a2, a3, a4, a5]) rfl ⟨rfl, ?_⟩
             repeat (refine Below.setCell ?_ (by simp) _)
             exact HI6.out.below
end Go.Proofs.YtiffopheamnngaaGreatDoor
