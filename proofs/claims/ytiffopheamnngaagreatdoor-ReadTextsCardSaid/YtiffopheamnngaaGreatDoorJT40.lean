import Derived.Test.YtiffopheamnngaaGreatDoorJT39
import Derived.Laws.EntriesVeiled
namespace Go.Proofs.YtiffopheamnngaaGreatDoor
open Go.RowKit
set_option maxRecDepth 100000
def encTok (t : Tok) : List Value := [.int .i64 t.kind, .int .i64 t.line, .int .i64 t.n, .string ⟨t.s.toArray⟩, .bool t.opn, .bool t.tight]
theorem encTok_len (t : Tok) : (encTok t).length = 6 := rfl
theorem encTok_one (t : Tok) : ∀ u ∈ encTok t, u.oneCell' = true := by
 intro u hu
 simp only [encTok, List.mem_cons, List.mem_nil_iff, or_false] at hu
 rcases hu with rfl | rfl | rfl | rfl | rfl | rfl <;> rfl
theorem tok_info : ∃ i z, Tryz.prog.info? 48 = some i ∧ i.zero = some z ∧ i.size = 6 ∧ i.bytes = 48 ∧ z.cells.size = 6 := by
 refine ⟨_, _, rfl, rfl, ?_, ?_, ?_⟩ <;> kernel_rfl
structure AddSt (w : World) (B bx tb : Nat) (T : List UInt8) (a ln en : Nat) (v : Value) (ts : List Tok) (t : TokIs) (tl : Int) (o q : Bool) (u : World) : Prop where
 lex : LexAt u bx T a ln en v
 tok : u.heap[tb]? = some (.cells #[.int .i64 t.kind, .int .i64 tl, .int .i64 t.n, .string ⟨t.s.toArray⟩, .bool o, .bool q] 48 (0, 0))
 row : Row u B 48 6 encTok v ts
 fr : Fr (fun k => k = bx ∨ B ≤ k) w u
 bx_lt : bx < B
 base : B ≤ tb
 ne : v.ownBlock ≠ some tb
section
variable {w u u' : World} {B bx tb a ln en : Nat} {T : List UInt8} {v : Value} {ts : List Tok} {t : TokIs} {tl : Int} {o q : Bool}
theorem AddSt.row_ne (h : AddSt w B bx tb T a ln en v ts t tl o q u) : v.ownBlock ≠ some bx := fun e => by have := (h.row.lt bx e).1; have := h.bx_lt; omega
theorem Row.setCell_ne {e : TypeId} {sz : Nat} {α : Type} {enc : α → List Value} {l : List α} (h : Row u B e sz enc v l) {p : Addr} (hp : v.ownBlock ≠ some p.block) (x : Value) : Row (u.setCell p x) B e sz enc v l :=
 h.keep fun k hk => Below.heap_setCell u p x k (fun e => hp (by rw [hk, e]))
theorem AddSt.drew (h : AddSt w B bx tb T a ln en v ts t tl o q u) : AddSt w B bx tb T a ln en v ts t tl o q u.drew :=
 ⟨h.lex.drew, h.tok, h.row.keep fun _ _ => rfl, h.fr.drew, h.bx_lt, h.base, h.ne⟩
theorem AddSt.setTight (h : AddSt w B bx tb T a ln en v ts t tl o q u) (q' : Bool) : AddSt w B bx tb T a ln en v ts t tl o q' (u.setCell ⟨tb, 5, none⟩ (.bool q')) :=
 ⟨h.lex.keep (Below.heap_setCell _ _ _ _ (by have := h.base; have := h.bx_lt; simp only; omega)), setCell_blk h.tok _, h.row.setCell_ne h.ne _, h.fr.setCell (.inl (.inr h.base)) _, h.bx_lt, h.base, h.ne⟩
theorem AddSt.setOpen (h : AddSt w B bx tb T a ln en v ts t tl o q u) (o' : Bool) : AddSt w B bx tb T a ln en v ts t tl o' q (u.setCell ⟨tb, 4, none⟩ (.bool o')) :=
 ⟨h.lex.keep (Below.heap_setCell _ _ _ _ (by have := h.base; have := h.bx_lt; simp only; omega)), setCell_blk h.tok _, h.row.setCell_ne h.ne _, h.fr.setCell (.inl (.inr h.base)) _, h.bx_lt, h.base, h.ne⟩
theorem AddSt.setEn (h : AddSt w B bx tb T a ln en v ts t tl o q u) (en' : Nat) : AddSt w B bx tb T a ln en' v ts t tl o q (u.setCell ⟨bx, 3, none⟩ (.int .i64 (en' : Int))) :=
 ⟨h.lex.setEn en', (Below.heap_setCell _ _ _ _ (by have := h.base; have := h.bx_lt; simp only; omega)).trans h.tok, h.row.setCell_ne h.row_ne _, h.fr.setCell (.inl (.inl rfl)) _, h.bx_lt, h.base, h.ne⟩
theorem AddSt.to {a' ln' : Nat} (h : AddSt w B bx tb T a ln en v ts t tl o q u) (hl : LexAt u' bx T a' ln' en v) (hF : Fr (· = bx) u u') : AddSt w B bx tb T a' ln' en v ts t tl o q u' := by
 have hb := h.base
 have hx := h.bx_lt
 have htb := (Array.getElem?_eq_some_iff.1 h.tok).1
 exact ⟨hl, (hF.block tb htb (by omega)).trans h.tok, h.row.keep fun k hk => hF.block k (h.row.lt k hk).2 (by have := (h.row.lt k hk).1; omega), h.fr.trans (hF.weak fun k hk => .inl hk), hx, hb, h.ne⟩
theorem AddSt.facts (h : AddSt w B bx tb T a ln en v ts t tl o q u) : (u.cell? ⟨tb, 0, none⟩ = some (.int .i64 t.kind) ∧ u.cell? ⟨tb, 1, none⟩ = some (.int .i64 tl) ∧ u.cell? ⟨tb, 2, none⟩ = some (.int .i64 t.n) ∧ u.cell? ⟨tb, 3, none⟩ = some (.string ⟨t.s.toArray⟩) ∧ u.cell? ⟨tb, 4, none⟩ = some (.bool o) ∧ u.cell? ⟨tb, 5, none⟩ = some (.bool q)) ∧ (∀ o, u.frozen? ⟨tb, o, none⟩ = false) := six_cells h.tok
end
def tight (ts : List Tok) (a en : Nat) : Bool := decide (ts ≠ []) && ((a : Int) == (en : Int))
def openB (T : List UInt8) (k : Nat) : Bool := decide (T[k]? = some 40)
theorem open_byte (d : UInt8) : decide (some d = some (40 : UInt8)) = ((d.toNat : Int) == 40) := by
 by_cases h : d = 40
 ·subst h; rfl
 ·rw [decide_eq_false (by simpa using h)]
  exact (byte_ne h).symm
theorem AddSt.last {w W W' w9 : World} {B bx tb a ln en : Nat} {T : List UInt8} {A : Option Addr} {cap gg cap2 : Nat} {ts : List Tok} {t : TokIs} {tl : Int} {o q : Bool}
    (h : AddSt w B bx tb T a ln en (.slice A ts.length cap) ts t tl o q W)
    (hown : w9.ownsRow B 48 6 (.slice (some ⟨gg, 0, none⟩) (ts.length + 1) cap2) (ts.length + 1) (ts.flatMap encTok ++ encTok ⟨t.kind, tl, t.n, t.s, o, q⟩))
    (hb : Below W.heap.size W W') (hg : W'.grownBy w9 (Value.slice A ts.length cap).ownBlock) :
    ∃ v', LexAt (w9.setCell ⟨bx, 4, none⟩ (.slice (some ⟨gg, 0, none⟩) (ts.length + 1) cap2)) bx T a ln en v' ∧ Row (w9.setCell ⟨bx, 4, none⟩ (.slice (some ⟨gg, 0, none⟩) (ts.length + 1) cap2)) B 48 6 encTok v' (ts ++ [⟨t.kind, tl, t.n, t.s, o, q⟩]) ∧
     Fr (fun k => k = bx ∨ B ≤ k) w (w9.setCell ⟨bx, 4, none⟩ (.slice (some ⟨gg, 0, none⟩) (ts.length + 1) cap2)) := by
 have hbx := h.lex.lt
 have hne := h.row_ne
 have h9 : LexAt w9 bx T a ln en (.slice A ts.length cap) := (h.lex.later hb).keep (hg.block bx (Nat.lt_of_lt_of_le hbx hb.size) (fun e => hne e.symm))
 have hr : Row w9 B 48 6 encTok (.slice (some ⟨gg, 0, none⟩) (ts.length + 1) cap2) (ts ++ [⟨t.kind, tl, t.n, t.s, o, q⟩]) := ⟨by rw [List.length_append, List.flatMap_append]; simpa using hown⟩
 have hbB := h.bx_lt
 refine ⟨_, h9.setL _, hr.setCell_ne (p := ⟨bx, 4, none⟩) (fun e => by have := (hr.lt bx e).1; omega) _, ?_⟩
 exact ((h.fr.step hb).grown hg (fun g hg' => .inl (.inr (h.row.lt g hg').1))).setCell (.inl (.inl rfl)) _
theorem AddSt.behind {w W W' w9 : World} {B bx tb a ln en : Nat} {T : List UInt8} {v : Value} {ts : List Tok} {t : TokIs} {tl : Int} {o q : Bool}
    (h : AddSt w B bx tb T a ln en v ts t tl o q W) (hb : Below W.heap.size W W') (hg : W'.grownBy w9 v.ownBlock) : w9.cell? ⟨bx, 4, none⟩ = some v ∧ w9.frozen? ⟨bx, 4, none⟩ = false := by
 have h9 := (h.lex.later hb).keep (hg.block bx (Nat.lt_of_lt_of_le h.lex.lt hb.size) (fun e => h.row_ne e.symm))
 exact ⟨h9.cells.2.2.2.2.1, h9.cells.2.2.2.2.2 4⟩
set_option maxHeartbeats 8000000 in
theorem add_any (w : World) (B bx : Nat) (T : List UInt8) (a ln en : Nat) (v : Value) (ts : List Tok) (h : LexAt w bx T a ln en v) (hrow : Row w B 48 6 encTok v ts) (hbx : bx < B) (hB : B ≤ w.heap.size) (hts : ts.length ≤ 100000)
    (t : TokIs) (ni : Int) (hni : ni = (t.len : Int)) (han : a + t.len ≤ T.length) (hT : (T.length : Int) ≤ 400000) (hln : (ln : Int) ≤ 1000000) :
    Calls Tryz.prog 26 #[.pointer (some ⟨bx, 0, none⟩), tokV t, .int .i64 ni] w fun e w' => e = .returned (.tuple #[]) ∧ ∃ v', LexAt w' bx T (a + t.len) (ln + lines ((T.drop a).take t.len)) (a + t.len) v' ∧
     Row w' B 48 6 encTok v' (ts ++ [⟨t.kind, (ln : Int), t.n, t.s, openB T (a + t.len), tight ts a en⟩]) ∧ Fr (fun k => k = bx ∨ B ≤ k) w w' := by
 obtain ⟨A, cap, rfl⟩ := hrow.shape
 obtain ⟨c0, c1, c2, c3, c4, hf⟩ := h.cells
 have hblt := h.lt
 obtain ⟨W1, hW1⟩ : ∃ W1, W1 = w.alloc (.cells #[.int .i64 t.kind, .int .i64 (ln : Int), .int .i64 t.n, .string ⟨t.s.toArray⟩, .bool false, .bool false] 48) := ⟨_, rfl⟩
 have HS1 : Hid (AddSt w B bx w.heap.size T a ln en (.slice A ts.length cap) ts t (ln : Int) false false W1) := by
  rw [hW1]
  exact ⟨h.later ((Below.refl _ _).alloc (Nat.le_refl _) _), heap_alloc_new w _, hrow.alloc _, (Fr.refl _ _).alloc _, hbx, hB, fun e => by have := (hrow.lt _ e).2; omega⟩
 clear h hrow
 unfold tokV
 subst hni
 have hto : ∀ u, LexAt u bx T a ln en (.slice A ts.length cap) → Calls Tryz.prog 48 #[.pointer (some ⟨bx, 0, none⟩), .int .i64 (t.len : Int)] u fun e w' => e = .returned (.tuple #[]) ∧ LexAt w' bx T (a + t.len) (ln + lines ((T.drop a).take t.len)) en (.slice A ts.length cap) ∧ Fr (· = bx) u w' :=
  fun u hu => to_any u bx T a ln en _ hu t.len _ rfl han (by omega) (by omega)
 obtain ⟨z, hz⟩ : ∃ z, a + t.len = z := ⟨_, rfl⟩
 rw [hz] at hto han ⊢
 have HTO := Lib.hid hto
 clear hto
 obtain ⟨tb, htb⟩ : ∃ tb, tb = w.heap.size := ⟨_, rfl⟩
 rw [← htb] at HS1
 obtain ⟨q, hq⟩ : ∃ q, tight ts a en = q := ⟨_, rfl⟩
 rw [hq]
 obtain ⟨ob, hob⟩ : ∃ ob, openB T z = ob := ⟨_, rfl⟩
 rw [hob]
 go_enter Tryz.func26, Tryz.ntmps26
 go_wp2_with fail
 rw [← hW1, ← htb]
 clear hW1 htb c0 c1 c2 c3 c4 hf hblt
 obtain ⟨c0, c1, c2, c3, c4, hf⟩ := HS1.out.lex.cells
 obtain ⟨⟨b0, b1, b2, b3, b4, b5⟩, hfb⟩ := HS1.out.facts
 rcases Classical.em (ts = []) with hts0 | hts0
 case' inl =>
  obtain rfl : false = q := by rw [← hq]; unfold tight; rw [decide_eq_false (by simpa using hts0)]; rfl
  have hdec : decide (0 < ts.length) = false := by rw [hts0]; rfl
  clear hts0
  (refine wp_region_still_tail 18 (by kernel_rfl) (by kernel_rfl) ?_; simp only [List.take_succ_cons, List.take_zero, List.drop_succ_cons, List.drop_zero]; repeat (with_reducible refine wpStill_step ?_; intro KK hKK; go_simp; with_reducible refine hKK _ ?_; clear hKK KK)); try (with_reducible refine wpStill_nil ?_)
  have HS2 := Lib.hid (HS1.out.setTight false).drew
 case' inr =>
  have hpos : (0 : Int) < (ts.length : Int) := by have := List.length_pos_iff.2 hts0; omega
  have hdec : decide (0 < ts.length) = true := decide_eq_true (List.length_pos_iff.2 hts0)
  have htight : ((a : Int) == (en : Int)) = q := by rw [← hq]; unfold tight; rw [decide_eq_true hts0]; simp
  clear hts0
  (refine wp_region_still_tail 18 (by kernel_rfl) (by kernel_rfl) ?_; simp only [List.take_succ_cons, List.take_zero, List.drop_succ_cons, List.drop_zero]; repeat (with_reducible refine wpStill_step ?_; intro KK hKK; go_simp; with_reducible refine hKK _ ?_; clear hKK KK)); try (with_reducible refine wpStill_nil ?_)
  have HS2 := Lib.hid (HS1.out.setTight q).drew
 all_goals
  go_wp2_with fail
  refine (HTO.out _ HS2.out.lex).mono ?_
  rintro e w3 ⟨rfl, hl3, hF3⟩
  have HS3 := Lib.hid (HS2.out.to hl3 hF3)
  clear HS2 hl3 hF3 HS1 c0 c1 c2 c3 c4 hf b0 b1 b2 b3 b4 b5 hfb hdec
  obtain ⟨c0, c1, c2, c3, c4, hf⟩ := HS3.out.lex.cells
  go_wp2_with fail
  obtain ⟨W4, hW4⟩ : ∃ W4, W4 = w3.setCell ⟨bx, 3, none⟩ (.int .i64 (z : Int)) := ⟨_, rfl⟩
  have HS4 := Lib.hid (HS3.out.setEn z)
  rw [← hW4] at HS4 ⊢
  clear hW4 c0 c1 c2 c3 c4 hf HS3
  obtain ⟨c0, c1, c2, c3, c4, hf⟩ := HS4.out.lex.cells
  obtain ⟨⟨b0, b1, b2, b3, b4, b5⟩, hfb⟩ := HS4.out.facts
  rcases Nat.lt_or_ge z T.length with hlt | hge
  case' inl =>
   obtain ⟨d, -, hx, hgd⟩ := byte_at T z hlt
   have hlt' : (z : Int) < (T.length : Int) := by omega
   have hdec2 : decide ((z : Int) < (T.length : Int)) = true := decide_eq_true hlt'
   have hdec3 : decide (z < T.length) = true := decide_eq_true hlt
   have hq2 : ((d.toNat : Int) == 40) = ob := by rw [← hob]; unfold openB; rw [hgd]; exact (open_byte d).symm
   (refine wp_region_still_tail 23 (by kernel_rfl) (by kernel_rfl) ?_; simp only [List.take_succ_cons, List.take_zero, List.drop_succ_cons, List.drop_zero]; repeat (with_reducible refine wpStill_step ?_; intro KK hKK; go_simp; with_reducible refine hKK _ ?_; clear hKK KK)); try (with_reducible refine wpStill_nil ?_)
   go_wp2_with fail
   obtain ⟨W5, hW5⟩ : ∃ W5, W5 = (W4.setCell ⟨tb, 4, none⟩ (.bool ob)).drew := ⟨_, rfl⟩
   have HS5 := Lib.hid (HS4.out.setOpen ob).drew
   rw [← hW5] at HS5 ⊢
   clear hq2 hlt' hdec2 hdec3 hx hgd hlt hW5
  case' inr =>
   obtain rfl : false = ob := by rw [← hob]; unfold openB; rw [List.getElem?_eq_none hge]; rfl
   have hdec2 : decide ((z : Int) < (T.length : Int)) = false := decide_eq_false (by omega)
   have hdec3 : decide (z < T.length) = false := decide_eq_false (by omega)
   clear hge
   (refine wp_region_still_tail 23 (by kernel_rfl) (by kernel_rfl) ?_; simp only [List.take_succ_cons, List.take_zero, List.drop_succ_cons, List.drop_zero]; repeat (with_reducible refine wpStill_step ?_; intro KK hKK; go_simp; with_reducible refine hKK _ ?_; clear hKK KK)); try (with_reducible refine wpStill_nil ?_)
   go_wp2_with fail
   obtain ⟨W5, hW5⟩ : ∃ W5, W5 = (W4.setCell ⟨tb, 4, none⟩ (.bool false)).drew := ⟨_, rfl⟩
   have HS5 := Lib.hid (HS4.out.setOpen false).drew
   rw [← hW5] at HS5 ⊢
   clear hdec2 hdec3 hW5
 ·clear c0 c1 c2 c3 c4 hf hfb b0 b1 b2 b3 b4 b5 HS4 HTO
  obtain ⟨c0, c1, c2, c3, c4, hf⟩ := HS5.out.lex.cells
  obtain ⟨⟨b0, b1, b2, b3, b4, b5⟩, hfb⟩ := HS5.out.facts
  have htbl := (Array.getElem?_eq_some_iff.1 HS5.out.tok).1
  have hbxl := HS5.out.lex.lt
  obtain ⟨i0, z0, hi0, hz0, hz1, hz2, hz3⟩ := tok_info
  have hBB : B ≤ W5.heap.size := Nat.le_trans HS5.out.base (Nat.le_of_lt htbl)
  go_region_law
   ((refine step_append_lies _ (by rfl) _ _ _ (by rfl) B 48 i0 _ 6 48 Tryz.underlying28 hi0 hz0 hz1 hz2 hz3 (by omega) (.slice A ts.length cap) ts.length (ts.flatMap encTok) (by rfl) (HS5.out.row.later (by (repeat (first | exact Below.refl _ _ | refine Below.drew ?_ | refine Below.alloc ?_ (Nat.le_refl _) _)))).own
       ⟨W5.heap.size, 0, none⟩ 1 1 (encTok ⟨t.kind, (ln : Int), t.n, t.s, false, q⟩) (by rfl) (by rfl) (World.news_of_block (cs := (encTok ⟨t.kind, (ln : Int), t.n, t.s, false, q⟩).toArray) (t := 48) (fr := (0, 0)) (by exact heap_alloc_new W5 _)) (encTok_one _)
       (by omega) (by unfold maxLen; omega) (by omega) (by simp; omega) (W5.heap.size + 1) (by simp) ?_; intro gg cap2 w9 hown9 hgrow hat9 hlt9; obtain ⟨hc9, hf9⟩ := HS5.out.behind (by (repeat (first | exact Below.refl _ _ | refine Below.drew ?_ | refine Below.alloc ?_ (Nat.le_refl _) _))) hgrow))
  all_goals
   go_wp2_with fail
   go_end0
   exact ⟨rfl, HS5.out.last hown9 (by (repeat (first | exact Below.refl _ _ | refine Below.drew ?_ | refine Below.alloc ?_ (Nat.le_refl _) _))) hgrow⟩
 ·clear c0 c1 c2 c3 c4 hf hfb b0 b1 b2 b3 b4 b5 HS4 HTO
  obtain ⟨c0, c1, c2, c3, c4, hf⟩ := HS5.out.lex.cells
  obtain ⟨⟨b0, b1, b2, b3, b4, b5⟩, hfb⟩ := HS5.out.facts
  have htbl := (Array.getElem?_eq_some_iff.1 HS5.out.tok).1
  have hbxl := HS5.out.lex.lt
  obtain ⟨i0, z0, hi0, hz0, hz1, hz2, hz3⟩ := tok_info
  have hBB : B ≤ W5.heap.size := Nat.le_trans HS5.out.base (Nat.le_of_lt htbl)
  go_region_law
   ((refine step_append_lies _ (by rfl) _ _ _ (by rfl) B 48 i0 _ 6 48 Tryz.underlying28 hi0 hz0 hz1 hz2 hz3 (by omega) (.slice A ts.length cap) ts.length (ts.flatMap encTok) (by rfl) (HS5.out.row.later (by (repeat (first | exact Below.refl _ _ | refine Below.drew ?_ | refine Below.alloc ?_ (Nat.le_refl _) _)))).own
       ⟨W5.heap.size, 0, none⟩ 1 1 (encTok ⟨t.kind, (ln : Int), t.n, t.s, ob, q⟩) (by rfl) (by rfl) (World.news_of_block (cs := (encTok ⟨t.kind, (ln : Int), t.n, t.s, ob, q⟩).toArray) (t := 48) (fr := (0, 0)) (by exact heap_alloc_new W5 _)) (encTok_one _)
       (by omega) (by unfold maxLen; omega) (by omega) (by simp; omega) (W5.heap.size + 1) (by simp) ?_; intro gg cap2 w9 hown9 hgrow hat9 hlt9; obtain ⟨hc9, hf9⟩ := HS5.out.behind (by (repeat (first | exact Below.refl _ _ | refine Below.drew ?_ | refine Below.alloc ?_ (Nat.le_refl _) _))) hgrow))
  all_goals
   go_wp2_with fail
   go_end0
   exact ⟨rfl, HS5.out.last hown9 (by (repeat (first | exact Below.refl _ _ | refine Below.drew ?_ | refine Below.alloc ?_ (Nat.le_refl _) _))) hgrow⟩
 ·clear c0 c1 c2 c3 c4 hf hfb b0 b1 b2 b3 b4 b5 HS4 HTO
  obtain ⟨c0, c1, c2, c3, c4, hf⟩ := HS5.out.lex.cells
  obtain ⟨⟨b0, b1, b2, b3, b4, b5⟩, hfb⟩ := HS5.out.facts
  have htbl := (Array.getElem?_eq_some_iff.1 HS5.out.tok).1
  have hbxl := HS5.out.lex.lt
  obtain ⟨i0, z0, hi0, hz0, hz1, hz2, hz3⟩ := tok_info
  have hBB : B ≤ W5.heap.size := Nat.le_trans HS5.out.base (Nat.le_of_lt htbl)
  go_region_law
   ((refine step_append_lies _ (by rfl) _ _ _ (by rfl) B 48 i0 _ 6 48 Tryz.underlying28 hi0 hz0 hz1 hz2 hz3 (by omega) (.slice A ts.length cap) ts.length (ts.flatMap encTok) (by rfl) (HS5.out.row.later (by (repeat (first | exact Below.refl _ _ | refine Below.drew ?_ | refine Below.alloc ?_ (Nat.le_refl _) _)))).own
       ⟨W5.heap.size, 0, none⟩ 1 1 (encTok ⟨t.kind, (ln : Int), t.n, t.s, false, false⟩) (by rfl) (by rfl) (World.news_of_block (cs := (encTok ⟨t.kind, (ln : Int), t.n, t.s, false, false⟩).toArray) (t := 48) (fr := (0, 0)) (by exact heap_alloc_new W5 _)) (encTok_one _)
       (by omega) (by unfold maxLen; omega) (by omega) (by simp; omega) (W5.heap.size + 1) (by simp) ?_; intro gg cap2 w9 hown9 hgrow hat9 hlt9; obtain ⟨hc9, hf9⟩ := HS5.out.behind (by (repeat (first | exact Below.refl _ _ | refine Below.drew ?_ | refine Below.alloc ?_ (Nat.le_refl _) _))) hgrow))
  all_goals
   go_wp2_with fail
   go_end0
   exact ⟨rfl, HS5.out.last hown9 (by (repeat (first | exact Below.refl _ _ | refine Below.drew ?_ | refine Below.alloc ?_ (Nat.le_refl _) _))) hgrow⟩
 ·clear c0 c1 c2 c3 c4 hf hfb b0 b1 b2 b3 b4 b5 HS4 HTO
  obtain ⟨c0, c1, c2, c3, c4, hf⟩ := HS5.out.lex.cells
  obtain ⟨⟨b0, b1, b2, b3, b4, b5⟩, hfb⟩ := HS5.out.facts
  have htbl := (Array.getElem?_eq_some_iff.1 HS5.out.tok).1
  have hbxl := HS5.out.lex.lt
  obtain ⟨i0, z0, hi0, hz0, hz1, hz2, hz3⟩ := tok_info
  have hBB : B ≤ W5.heap.size := Nat.le_trans HS5.out.base (Nat.le_of_lt htbl)
  go_region_law
   ((refine step_append_lies _ (by rfl) _ _ _ (by rfl) B 48 i0 _ 6 48 Tryz.underlying28 hi0 hz0 hz1 hz2 hz3 (by omega) (.slice A ts.length cap) ts.length (ts.flatMap encTok) (by rfl) (HS5.out.row.later (by (repeat (first | exact Below.refl _ _ | refine Below.drew ?_ | refine Below.alloc ?_ (Nat.le_refl _) _)))).own
       ⟨W5.heap.size, 0, none⟩ 1 1 (encTok ⟨t.kind, (ln : Int), t.n, t.s, ob, false⟩) (by rfl) (by rfl) (World.news_of_block (cs := (encTok ⟨t.kind, (ln : Int), t.n, t.s, ob, false⟩).toArray) (t := 48) (fr := (0, 0)) (by exact heap_alloc_new W5 _)) (encTok_one _)
       (by omega) (by unfold maxLen; omega) (by omega) (by simp; omega) (W5.heap.size + 1) (by simp) ?_; intro gg cap2 w9 hown9 hgrow hat9 hlt9; obtain ⟨hc9, hf9⟩ := HS5.out.behind (by (repeat (first | exact Below.refl _ _ | refine Below.drew ?_ | refine Below.alloc ?_ (Nat.le_refl _) _))) hgrow))
  all_goals
   go_wp2_with fail
   go_end0
   exact ⟨rfl, HS5.out.last hown9 (by (repeat (first | exact Below.refl _ _ | refine Below.drew ?_ | refine Below.alloc ?_ (Nat.le_refl _) _))) hgrow⟩
end Go.Proofs.YtiffopheamnngaaGreatDoor
namespace Go.Proofs.YtiffopheamnngaaGreatDoor
theorem digitsF_le {base frm : Nat} {l : List UInt8} {x : Int × Nat} (hf : frm ≤ l.length) (h : digitsF base l frm = some x) : x.2 ≤ l.length := by
 unfold digitsF at h
 have hs := spanN_le (fun c => decide (digVal c < base)) (l.drop frm)
 rw [List.length_drop] at hs
 simp only at h
 split at h
 ·cases h
  show frm + spanN (fun c => decide (digVal c < base)) (l.drop frm) ≤ l.length
  omega
 ·cases h
theorem slashRes_snd {y : Option (List UInt8 × Nat)} {x : Int × Nat} (h : slashRes y = some x) : x.2 = 4 := by
 unfold slashRes at h
 split at h
 ·cases h; rfl
 ·cases h
theorem charF_le {l : List UInt8} {x : Int × Nat} (h : charF l = some x) : x.2 ≤ l.length := by
 unfold charF at h
 split at h
 ·rename_i a b c r
  unfold charAt2 at h
  split at h
  ·cases h
  split at h
  ·split at h
   ·rename_i e
    cases h
    cases r with
    | nil => simp at e
    | cons d r' => simp
   ·cases h
  split at h
  ·cases r with
   | nil => cases h
   | cons d r' =>
    have := slashRes_snd (show slashRes (getQ 39 [92, d, 39]) = some x from h)
    simp only [List.length_cons]
    omega
  ·cases h
   simp
 ·cases h
theorem two_le {l : List UInt8} {a b : UInt8} (h : l.head? = some a ∧ l.tail.head? = some b) : 2 ≤ l.length := by
 rcases l with _ | ⟨c, _ | ⟨d, r⟩⟩
 ·simp at h
 ·simp at h
 ·simp
theorem numberF_le {l : List UInt8} {x : Int × Nat} (h : numberF l = some x) : x.2 ≤ l.length := by
 unfold numberF at h
 split at h
 ·rename_i e; exact digitsF_le (two_le e) h
 split at h
 ·rename_i e; exact digitsF_le (two_le e) h
 split at h
 ·rename_i e; exact digitsF_le (two_le e) h
 split at h
 ·exact charF_le h
 ·exact digitsF_le (Nat.zero_le _) h
theorem tokF_le {l : List UInt8} {t : TokIs} (h : tokF l = some t) : t.len ≤ l.length := by
 cases l with
 | nil => cases h
 | cons c r =>
  have hw := spanN_le isWord (c :: r)
  have hs := spanN_le isSign (c :: r)
  unfold tokF at h
  simp only at h
  split at h
  ·cases h; simp
  split at h
  ·cases h; exact hw
  split at h
  ·cases h; exact hs
  split at h
  ·cases h; simp
  split at h
  ·cases h; exact hw
  split at h
  ·obtain ⟨x, hx, rfl⟩ := Option.map_eq_some_iff.1 h
   exact numberF_le hx
  split at h
  ·obtain ⟨x, hx, rfl⟩ := Option.map_eq_some_iff.1 h
   have := getQ_le hx
   simp only [List.length_cons]
   omega
  split at h
  ·obtain ⟨x, hx, rfl⟩ := Option.map_eq_some_iff.1 h
   have := getQ_le hx
   simp only [List.length_cons]
   omega
  split at h
  ·cases h; simp
  ·cases h
open Go.RowKit
set_option maxRecDepth 100000
def LexDone (w : World) (T : List UInt8) (e : Ending) (w' : World) : Prop :=
 ∃ v', e = .returned (.tuple #[v', .int .i64 (lexB T).2.1, .int .i64 (lexB T).2.2]) ∧ Row w' w.heap.size 48 6 encTok v' (lexB T).1 ∧ Below w.heap.size w w'
structure LexInv (w : World) (T : List UInt8) (a ln : Nat) (v : Value) (ts : List Tok) (u : World) : Prop where
 lex : LexAt u w.heap.size T a ln a v
 row : Row u (w.heap.size + 1) 48 6 encTok v ts
 below : Below w.heap.size w u
 le : a ≤ T.length
 len : ts.length ≤ a
 ln_le : ln ≤ a + 1
 eq : lexB T = (ts ++ (lexF (T.length + 1) (T.drop a) ln (decide (ts = []))).1, (lexF (T.length + 1) (T.drop a) ln (decide (ts = []))).2)
theorem maxLen_at {w u : World} (h : ∃ m : Int, w.cell? ⟨3, 0, none⟩ = some (.int .i64 m)) (hb : Below w.heap.size w u) :
    (∃ m : Int, u.cell? ⟨3, 0, none⟩ = some (.int .i64 m)) ∧ 3 ≠ w.heap.size := by
 obtain ⟨m, hm⟩ := h
 have hlt := World.block_lt_of_cell? w _ hm
 exact ⟨⟨m, (World.cell?_of_block (hb.block _ hlt)).trans hm⟩, Nat.ne_of_lt hlt⟩
section
variable {w u : World} {T : List UInt8} {a ln k : Nat} {v : Value} {ts : List Tok}
theorem take_len (T : List UInt8) {a k : Nat} (hak : a ≤ k) (hkT : k ≤ T.length) : (T.drop a).length - (T.drop k).length = k - a := by
 rw [List.length_drop, List.length_drop]; omega
theorem LexInv.step (h : LexInv w T a ln v ts u) (hak : a ≤ k) (hkT : k ≤ T.length) (hR : (skipB (T.drop a)).1 = T.drop k) :
    lexF (T.length + 1) (T.drop a) ln (decide (ts = [])) = if (skipB (T.drop a)).2 = false then ([], ((ln + lines ((T.drop a).take (k - a)) : Nat) : Int), 5)
    else if T.drop k = [] then ([⟨0, ((ln + lines ((T.drop a).take (k - a)) : Nat) : Int), 0, [], false, false⟩], 0, 0)
    else match tokF (T.drop k) with
     | none => ([], ((ln + lines ((T.drop a).take (k - a)) : Nat) : Int), 5)
     | some t =>
      (⟨t.kind, ((ln + lines ((T.drop a).take (k - a)) : Nat) : Int), t.n, t.s, decide (((T.drop k).drop t.len).head? = some 40), !(decide (ts = [])) && (T.drop k).length == (T.drop a).length⟩ :: (lexF (T.length + 1) ((T.drop k).drop t.len) (ln + lines ((T.drop a).take (k - a)) + lines ((T.drop k).take t.len)) false).1,
        (lexF (T.length + 1) ((T.drop k).drop t.len) (ln + lines ((T.drop a).take (k - a)) + lines ((T.drop k).take t.len)) false).2) := by
 have hle := h.le
 rw [lexF_step _ _ _ _ (by rw [List.length_drop]; omega), hR, take_len T hak hkT]
 rfl
theorem LexInv.eq_bad (h : LexInv w T a ln v ts u) (hak : a ≤ k) (hkT : k ≤ T.length) (hR : (skipB (T.drop a)).1 = T.drop k) (h2 : (skipB (T.drop a)).2 = false) :
    lexB T = (ts, ((ln + lines ((T.drop a).take (k - a)) : Nat) : Int), 5) := by
 rw [h.eq, h.step hak hkT hR, if_pos h2]; simp
theorem LexInv.eq_end (h : LexInv w T a ln v ts u) (hak : a ≤ k) (hkT : k = T.length) (hR : (skipB (T.drop a)).1 = T.drop k) (h2 : (skipB (T.drop a)).2 = true) :
    lexB T = (ts ++ [⟨0, ((ln + lines ((T.drop a).take (k - a)) : Nat) : Int), 0, [], false, false⟩], 0, 0) := by
 rw [h.eq, h.step hak (Nat.le_of_eq hkT) hR, if_neg (by rw [h2]; exact Bool.noConfusion), if_pos (by rw [hkT]; simp)]
theorem LexInv.eq_none (h : LexInv w T a ln v ts u) (hak : a ≤ k) (hkT : k < T.length) (hR : (skipB (T.drop a)).1 = T.drop k) (h2 : (skipB (T.drop a)).2 = true) (ht : tokF (T.drop k) = none) :
    lexB T = (ts, ((ln + lines ((T.drop a).take (k - a)) : Nat) : Int), 5) := by
 rw [h.eq, h.step hak (Nat.le_of_lt hkT) hR, if_neg (by rw [h2]; exact Bool.noConfusion), if_neg (by intro e; have := congrArg List.length e; rw [List.length_drop] at this; simp at this; omega), ht]; simp
theorem LexInv.eq_go (h : LexInv w T a ln v ts u) (hak : a ≤ k) (hkT : k < T.length) (hR : (skipB (T.drop a)).1 = T.drop k) (h2 : (skipB (T.drop a)).2 = true) {t : TokIs} (ht : tokF (T.drop k) = some t) :
    ∀ ts', ts' = ts ++ [⟨t.kind, ((ln + lines ((T.drop a).take (k - a)) : Nat) : Int), t.n, t.s, openB T (k + t.len), tight ts k a⟩] →
    lexB T = (ts' ++ (lexF (T.length + 1) (T.drop (k + t.len)) (ln + lines ((T.drop a).take (k - a)) + lines ((T.drop k).take t.len)) (decide (ts' = []))).1, (lexF (T.length + 1) (T.drop (k + t.len)) (ln + lines ((T.drop a).take (k - a)) + lines ((T.drop k).take t.len)) (decide (ts' = []))).2) := by
 rintro ts' rfl
 have ha := h.le
 have e1 : (!(decide (ts = [])) && (T.drop k).length == (T.drop a).length) = tight ts k a := by
  unfold tight
  rw [List.length_drop, List.length_drop]
  congr 1
  ·simp
  ·rw [Bool.eq_iff_iff, beq_iff_eq, beq_iff_eq]; omega
 have e2 : decide ((T.drop (k + t.len)).head? = some 40) = openB T (k + t.len) := by
  unfold openB
  rw [List.head?_drop]
 rw [h.eq, h.step hak (Nat.le_of_lt hkT) hR, if_neg (by rw [h2]; exact Bool.noConfusion), if_neg (by intro e; have := congrArg List.length e; rw [List.length_drop] at this; simp at this; omega), ht]
 simp only [e1, List.drop_drop, e2]
 simp
end
structure LexMid (w : World) (T : List UInt8) (k ln en : Nat) (v : Value) (ts : List Tok) (u : World) : Prop where
 lex : LexAt u w.heap.size T k ln en v
 row : Row u (w.heap.size + 1) 48 6 encTok v ts
 below : Below w.heap.size w u
section
variable {w u u' : World} {T : List UInt8} {a ln k en ln' : Nat} {v : Value} {ts : List Tok}
theorem LexInv.after (h : LexInv w T a ln v ts u) (hl : LexAt u' w.heap.size T k ln' en v) (hF : Fr (· = w.heap.size) u u') : LexMid w T k ln' en v ts u' :=
 ⟨hl, h.row.keep fun b hb => hF.block b (h.row.lt b hb).2 (by have := (h.row.lt b hb).1; omega), h.below.trans (hF.below h.below.size (fun k hk e => by omega))⟩
theorem LexMid.drewN (h : LexMid w T k ln en v ts u) (n : Nat) : LexMid w T k ln en v ts (u.drewN n) := ⟨h.lex.drewN n, h.row.keep fun _ _ => rfl, ⟨h.below.os, h.below.tape, h.below.output, h.below.size, h.below.block⟩⟩
theorem LexMid.later (h : LexMid w T k ln en v ts u) (hb : Below u.heap.size u u') : LexMid w T k ln en v ts u' :=
 ⟨h.lex.later hb, h.row.later hb, h.below.trans (hb.mono h.below.size)⟩
theorem LexMid.ended {w' w9 : World} (h : LexMid w T k ln en v ts u) (hb : Below u.heap.size u w') (hg : w'.grownBy w9 v.ownBlock) : Below w.heap.size w w9 :=
 (h.below.trans (hb.mono h.below.size)).trans ⟨hg.os, hg.tape, hg.output, hg.size, fun i hi => hg.block i (Nat.lt_of_lt_of_le (Nat.lt_of_lt_of_le hi h.below.size) hb.size) (fun e => by have := (h.row.lt i e.symm).1; omega)⟩
theorem LexMid.rowed {w9 : World} {gg cap2 : Nat} {t : Tok} (_ : LexMid w T k ln en v ts u) (hown : w9.ownsRow (w.heap.size + 1) 48 6 (.slice (some ⟨gg, 0, none⟩) (ts.length + 1) cap2) (ts.length + 1) (ts.flatMap encTok ++ encTok t)) :
    Row w9 (w.heap.size + 1) 48 6 encTok (.slice (some ⟨gg, 0, none⟩) (ts.length + 1) cap2) (ts ++ [t]) := ⟨by rw [List.length_append, List.flatMap_append]; simpa using hown⟩
theorem LexMid.again {ts' : List Tok} {v' : Value} (h : LexMid w T k ln en v ts u) (hl : LexAt u' w.heap.size T a ln' a v') (hr : Row u' (w.heap.size + 1) 48 6 encTok v' ts') (hF : Fr (fun b => b = w.heap.size ∨ w.heap.size + 1 ≤ b) u u')
    (h1 : a ≤ T.length) (h2 : ts'.length ≤ a) (h3 : ln' ≤ a + 1) (h4 : lexB T = (ts' ++ (lexF (T.length + 1) (T.drop a) ln' (decide (ts' = []))).1, (lexF (T.length + 1) (T.drop a) ln' (decide (ts' = []))).2)) : LexInv w T a ln' v' ts' u' :=
 ⟨hl, hr, h.below.trans (hF.below h.below.size (fun k hk e => by omega)), h1, h2, h3, h4⟩
theorem ln_bound2 {n : Nat} (h : ln ≤ k + 1) : ln + lines ((T.drop k).take n) ≤ k + n + 1 := by
 have : lines ((T.drop k).take n) ≤ n := Nat.le_trans (List.count_le_length ..) (by rw [List.length_take]; omega)
 omega
theorem ln_bound (h : ln ≤ a + 1) (hak : a ≤ k) : ln + lines ((T.drop a).take (k - a)) ≤ k + 1 := by
 have : lines ((T.drop a).take (k - a)) ≤ k - a := Nat.le_trans (List.count_le_length ..) (by rw [List.length_take]; omega)
 omega
end
set_option maxHeartbeats 4000000 in
theorem lex_any (w : World) (T : List UInt8) (hT : (T.length : Int) ≤ 16000) (hmax : ∃ m : Int, w.cell? ⟨3, 0, none⟩ = some (.int .i64 m)) :
    Calls Tryz.prog 7 #[.string ⟨T.toArray⟩] w (LexDone w T) := by
 have hT2 : decide (65536 < T.length) = false := decide_eq_false (by omega)
 have hblk : (w.alloc (.cells #[.string ⟨T.toArray⟩, .int .i64 0, .int .i64 1, .int .i64 0, .slice none 0 0, .nilFunc, .nilFunc, .nilFunc, .nilFunc, .nilFunc, .nilFunc] 63)).heap[w.heap.size]? = some (.cells #[.string ⟨T.toArray⟩, .int .i64 0, .int .i64 1, .int .i64 0, .slice none 0 0, .nilFunc, .nilFunc, .nilFunc, .nilFunc, .nilFunc, .nilFunc] 63 (0, 0)) := heap_alloc_new w _
 have hlt : w.heap.size < w.heap.size + 1 := Nat.lt_succ_self _
 obtain ⟨W0, hW0⟩ : ∃ W0, w.alloc (.cells #[.string ⟨T.toArray⟩, .int .i64 0, .int .i64 1, .int .i64 0, .slice none 0 0, .nilFunc, .nilFunc, .nilFunc, .nilFunc, .nilFunc, .nilFunc] 63) = W0 := ⟨_, rfl⟩
 rw [hW0] at hblk
 have f0 : ∀ o, W0.frozen? ⟨w.heap.size, o, none⟩ = false := fun o => by simp [World.frozen?, hblk]
 have c5 : W0.cell? ⟨w.heap.size, 5, none⟩ = some .nilFunc := by rw [cell_of_row W0 w.heap.size 5 _ _ (0, 0) hblk]; rfl
 have c6 : W0.cell? ⟨w.heap.size, 6, none⟩ = some .nilFunc := by rw [cell_of_row W0 w.heap.size 6 _ _ (0, 0) hblk]; rfl
 have c7 : W0.cell? ⟨w.heap.size, 7, none⟩ = some .nilFunc := by rw [cell_of_row W0 w.heap.size 7 _ _ (0, 0) hblk]; rfl
 have c8 : W0.cell? ⟨w.heap.size, 8, none⟩ = some .nilFunc := by rw [cell_of_row W0 w.heap.size 8 _ _ (0, 0) hblk]; rfl
 have c9 : W0.cell? ⟨w.heap.size, 9, none⟩ = some .nilFunc := by rw [cell_of_row W0 w.heap.size 9 _ _ (0, 0) hblk]; rfl
 have c10 : W0.cell? ⟨w.heap.size, 10, none⟩ = some .nilFunc := by rw [cell_of_row W0 w.heap.size 10 _ _ (0, 0) hblk]; rfl
 have HB := Lib.hid hblk
 clear hblk
 go_enter Tryz.func7, Tryz.ntmps7
 go_wp2_with fail
 obtain ⟨W1, hW1⟩ : ∃ u, u = ((((((W0.setCell ⟨w.heap.size, 5, none⟩ (.func (.func 18) #[.pointer (some ⟨w.heap.size, 0, none⟩)] #[])).setCell ⟨w.heap.size, 6, none⟩ (.func (.func 19) #[.pointer (some ⟨w.heap.size, 0, none⟩)] #[])).setCell ⟨w.heap.size, 7, none⟩ (.func (.func 20) #[.pointer (some ⟨w.heap.size, 0, none⟩)] #[])).setCell ⟨w.heap.size, 8, none⟩ (.func (.func 21) #[.pointer (some ⟨w.heap.size, 0, none⟩)] #[])).setCell ⟨w.heap.size, 9, none⟩ (.func (.func 22) #[.pointer (some ⟨w.heap.size, 0, none⟩)] #[])).setCell ⟨w.heap.size, 10, none⟩ (.func (.func 23) #[.pointer (some ⟨w.heap.size, 0, none⟩)] #[])) := ⟨_, rfl⟩
 rw [← hW1]
 have HI0 : Hid (LexInv w T 0 1 (.slice none 0 0) [] W1) := by
  rw [hW1]
  refine ⟨⟨setCell_blk (setCell_blk (setCell_blk (setCell_blk (setCell_blk (setCell_blk HB.out _) _) _) _) _) _⟩, Row.nil _ _ _ _ _, ?_, Nat.zero_le _, Nat.zero_le _, Nat.le_refl _, by simp [lexB]⟩
  repeat (refine Below.setCell ?_ (by simp) _)
  rw [← hW0]
  exact (Below.refl _ _).alloc (Nat.le_refl _) _
 clear hW1 hW0 HB f0 c5 c6 c7 c8 c9 c10 hlt W0
 have HM := Lib.hid hmax
 clear hmax
 go_loopg [] (T.length + 1) (fun n wr => ∃ a ln v ts, LexInv w T a ln v ts wr ∧ T.length + 1 ≤ a + n)
 case atStart => exact ⟨0, 1, _, [], HI0.out, by omega⟩
 case round =>
  obtain ⟨a, ln, v, ts, hI, hga⟩ := hrel
  have HI := Lib.hid hI
  have hle := hI.le
  have hlen := hI.len
  have hlnle := hI.ln_le
  obtain ⟨c0, c1, c2, c3, c4, hf⟩ := hI.lex.cells
  clear hI HI0
  obtain ⟨hm, hMb⟩ := maxLen_at HM.out HI.out.below
  have hMB := Lib.hid hMb
  have HM1 := Lib.hid hm
  clear hm hMb
  go_wp2_with fail
  refine (skip_any wr w.heap.size T a ln a v HI.out.lex hle (by omega) (by omega) hMB.out HM1.out).mono ?_
  rintro e w2 ⟨rfl, k, hl2, hF2, hak, hkT, hR1⟩
  have HI2 := Lib.hid (HI.out.after hl2 hF2)
  have hb1 := HI.out.eq_bad hak hkT hR1
  have hln1 : ln + lines ((T.drop a).take (k - a)) ≤ k + 1 := ln_bound hlnle hak
  obtain ⟨L, hL⟩ : ∃ L, ln + lines ((T.drop a).take (k - a)) = L := ⟨_, rfl⟩
  have HR1 := Lib.hid hR1
  have HLX := Lib.hid hL
  rw [hL] at HI2 hb1 hln1
  obtain ⟨ok, hok⟩ : ∃ ok, (skipB (T.drop a)).2 = ok := ⟨_, rfl⟩
  rw [hok] at hb1 ⊢
  have HB1 := Lib.hid hb1
  have HOK := Lib.hid hok
  clear hl2 hF2 hR1 hL hb1 hok c0 c1 c2 c3 c4 hf
  obtain ⟨c0, c1, c2, c3, c4, hf⟩ := HI2.out.lex.cells
  cases ok with
  | false =>
   go_wp2_with fail
   go_quiet (fail)
   obtain ⟨w3, hw3⟩ : ∃ u, u = w2.drewN nq := ⟨_, rfl⟩
   have HI3 := Lib.hid (HI2.out.drewN nq)
   rw [← hw3] at HI3 ⊢
   clear hw3
   go_wp2_with fail
   have e := HB1.out trivial
   refine bodyPost_ret (v := .tuple #[v, .int .i64 (L : Int), .int .i64 5]) (by simp [results, Tryz.results7, go_sem]) rfl ?_
   refine ⟨v, ?_, ?_, HI3.out.below⟩
   ·rw [e]
   ·rw [e]; exact HI3.out.row.down (Nat.le_succ _)
  | true =>
   rcases Nat.eq_or_lt_of_le hkT with hk | hk
   ·subst hk
    have e := HI.out.eq_end hak rfl HR1.out HOK.out
    rw [HLX.out] at e
    have HE := Lib.hid e
    clear e HB1
    go_wp2_with fail
    go_quiet (fail)
    obtain ⟨w3, hw3⟩ : ∃ u, u = w2.drewN nq := ⟨_, rfl⟩
    have HI3 := Lib.hid (HI2.out.drewN nq)
    rw [← hw3] at HI3 ⊢
    clear hw3 c0 c1 c2 c3 c4 hf HI2
    obtain ⟨c0, c1, c2, c3, c4, hf⟩ := HI3.out.lex.cells
    obtain ⟨A, cap, rfl⟩ := HI3.out.row.shape
    obtain ⟨i0, z0, hi0, hz0, hz1, hz2, hz3⟩ := tok_info
    have hlt0 := HI3.out.lex.lt
    have hlt1 : ts.length ≤ 16000 := by omega
    go_wp2_with fail
    go_region_law
     ((refine step_append_lies _ (by rfl) _ _ _ (by rfl) (w.heap.size + 1) 48 i0 _ 6 48 Tryz.underlying28 hi0 hz0 hz1 hz2 hz3 (by omega) (.slice A ts.length cap) ts.length (ts.flatMap encTok) (by rfl) (HI3.out.row.later (by (repeat (first | exact Below.refl _ _ | refine Below.drew ?_ | refine Below.alloc ?_ (Nat.le_refl _) _)))).own
         ⟨w3.heap.size, 0, none⟩ 1 1 (encTok ⟨0, (L : Int), 0, [], false, false⟩) (by rfl) (by rfl) (World.news_of_block (cs := (encTok ⟨0, (L : Int), 0, [], false, false⟩).toArray) (t := 48) (fr := (0, 0)) (by exact heap_alloc_new w3 _)) (encTok_one _)
         (by omega) (by unfold maxLen; omega) (by omega) (by simp; omega) (w3.heap.size + 1) (by simp) ?_; intro gg cap2 w9 hown9 hgrow hat9 hlt9))
    all_goals
     go_wp2_with fail
     refine bodyPost_ret (v := .tuple #[.slice (some ⟨gg, 0, none⟩) (ts.length + 1) cap2, .int .i64 0, .int .i64 0]) (by simp [results, Tryz.results7, go_sem]) rfl ?_
     refine ⟨_, by rw [HE.out], ?_, HI3.out.ended (by (repeat (first | exact Below.refl _ _ | refine Below.drew ?_ | refine Below.alloc ?_ (Nat.le_refl _) _))) hgrow⟩
     rw [HE.out]
     exact (HI3.out.rowed hown9).down (Nat.le_succ _)
   ·have hne : ((k : Int) == (T.length : Int)) = false := by rw [beq_eq_false_iff_ne]; omega
    go_wp2_with fail
    go_quiet (fail)
    obtain ⟨w3, hw3⟩ : ∃ u, u = w2.drewN nq := ⟨_, rfl⟩
    have HI3 := Lib.hid (HI2.out.drewN nq)
    rw [← hw3] at HI3 ⊢
    clear hw3 c0 c1 c2 c3 c4 hf HI2 hne
    go_wp2_with fail
    refine (next_any w3 w.heap.size T k L a v HI3.out.lex hk (by omega)).mono ?_
    rintro e w4 ⟨rfl, hb4⟩
    have HI4 := Lib.hid (HI3.out.later hb4)
    clear hb4 HI3
    cases htk : tokF (T.drop k) with
    | none =>
     have e := HI.out.eq_none hak hk HR1.out HOK.out htk
     rw [HLX.out] at e
     have HE := Lib.hid e
     clear e HB1 htk
     simp only [tryV]
     unfold tokV
     obtain ⟨c0, c1, c2, c3, c4, hf⟩ := HI4.out.lex.cells
     have hb4 := HI4.out.lex.lt
     go_wp2_with fail
     go_quiet (fail)
     go_wp2_with fail
     refine bodyPost_ret (v := .tuple #[v, .int .i64 (L : Int), .int .i64 5]) (by simp [results, Tryz.results7, go_sem]) rfl ?_
     refine ⟨v, by rw [HE.out], ?_, ((HI4.out.later ((Below.refl _ _).alloc (Nat.le_refl _) _)).drewN nq).below⟩
     rw [HE.out]
     exact ((HI4.out.later ((Below.refl _ _).alloc (Nat.le_refl _) _)).drewN nq).row.down (Nat.le_succ _)
    | some t =>
     have hg := HI.out.eq_go hak hk HR1.out HOK.out htk
     rw [HLX.out] at hg
     have HG := Lib.hid hg
     have htp := tokF_pos htk
     have htl := tokF_le htk
     rw [List.length_drop] at htl
     clear hg HB1 htk
     simp only [tryV]
     unfold tokV
     obtain ⟨A, cap, rfl⟩ := HI4.out.row.shape
     obtain ⟨c0, c1, c2, c3, c4, hf⟩ := HI4.out.lex.cells
     have hb4 := HI4.out.lex.lt
     have hmt : ((ts.length : Int) == 16384) = false := by rw [beq_eq_false_iff_ne]; omega
     have hmt2 : (ts.length == 16384) = false := by rw [beq_eq_false_iff_ne]; omega
     go_wp2_with fail
     have HI5 := Lib.hid (HI4.out.later ((Below.refl _ _).alloc (Nat.le_refl _) (.cells #[.int .i64 t.kind, .int .i64 0, .int .i64 t.n, .string ⟨t.s.toArray⟩, .bool false, .bool false] 48)))
     refine (add_any _ (w.heap.size + 1) w.heap.size T k L a _ ts HI5.out.lex HI5.out.row (Nat.lt_succ_self _) HI5.out.lex.lt (by omega) t _ rfl (by omega) (by omega) (by omega)).mono ?_
     rintro e w6 ⟨rfl, v', hl6, hr6, hF6⟩
     have HI6 := Lib.hid (HI5.out.again hl6 hr6 hF6 (by omega) (by simp; omega) (ln_bound2 hln1) (HG.out _ rfl))
     clear hl6 hr6 hF6
     go_wp2_with fail
     go_roundg (T.length + 1 - (k + t.len))
     case measure => have := hga; omega
     case rel => exact ⟨k + t.len, _, _, _, HI6.out, by omega⟩
end Go.Proofs.YtiffopheamnngaaGreatDoor
