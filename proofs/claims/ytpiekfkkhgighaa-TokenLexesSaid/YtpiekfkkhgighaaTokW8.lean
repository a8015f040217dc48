/-
  What the lexer's add does: one token more, and on behind it. Conditions: the lexer's block holds what is named; its tokens' slice is of the call's own; the sizes that are named.
-/
import Derived.Test.YtpiekfkkhgighaaTokW7
import Derived.Deep.AppendLies
import Derived.Deep.RegionLaw
namespace Go.Proofs.Ytpiekfkkhgighaa
open Go.RowKit
set_option maxRecDepth 100000

def encTok (t : Tok) : List Value := [.int .i64 t.kind, .int .i64 t.line, .int .i64 t.n, .string ⟨t.s.toArray⟩, .bool t.opn, .bool t.tight]
theorem encTok_len (t : Tok) : (encTok t).length = 6 := rfl
theorem encTok_one (t : Tok) : ∀ u ∈ encTok t, u.oneCell' = true := by
  intro u hu
  simp only [encTok, List.mem_cons, List.mem_nil_iff, or_false] at hu
  rcases hu with rfl | rfl | rfl | rfl | rfl | rfl <;> rfl
theorem tok_info : ∃ i z, Try.prog.info? 46 = some i ∧ i.zero = some z ∧ i.size = 6 ∧ i.bytes = 48 ∧ z.cells.size = 6 := by
  refine ⟨_, _, rfl, rfl, ?_, ?_, ?_⟩ <;> kernel_rfl
/-- What stands as add goes on. -/
structure AddSt (w : World) (B bx tb : Nat) (T : List UInt8) (a ln en : Nat) (v : Value) (ts : List Tok) (t : TokIs) (tl : Int) (o q : Bool) (u : World) : Prop where
  lex : LexAt u bx T a ln en v
  tok : u.heap[tb]? = some (.cells #[.int .i64 t.kind, .int .i64 tl, .int .i64 t.n, .string ⟨t.s.toArray⟩, .bool o, .bool q] 46 (0, 0))
  row : Row u B 46 6 encTok v ts
  fr : Fr (fun k => k = bx ∨ B ≤ k) w u
  bx_lt : bx < B
  base : B ≤ tb
  ne : v.ownBlock ≠ some tb
section
variable {w u u' : World} {B bx tb a ln en : Nat} {T : List UInt8} {v : Value} {ts : List Tok} {t : TokIs} {tl : Int} {o q : Bool}
theorem AddSt.row_ne (h : AddSt w B bx tb T a ln en v ts t tl o q u) : v.ownBlock ≠ some bx := fun e => by have := (h.row.lt bx e).1; have := h.bx_lt; omega
theorem Row.setCell_ne {e : TypeId} {sz : Nat} {α : Type} {enc : α → List Value} {l : List α} (h : Row u B e sz enc v l) {p : Addr} (hp : v.ownBlock ≠ some p.block) (x : Value) : Row (u.setCell p x) B e sz enc v l :=
  h.keep fun k hk => Below.heap_setCell u p x k (fun e => hp (by rw [hk, e]))
theorem AddSt.drew (h : AddSt w B bx tb T a ln en v ts t tl o q u) : AddSt w B bx tb T a ln en v ts t tl o q u.drew :=
  ⟨h.lex.drew, h.tok, h.row.keep fun _ _ => rfl, h.fr.drew, h.bx_lt, h.base, h.ne⟩
theorem AddSt.setTight (h : AddSt w B bx tb T a ln en v ts t tl o q u) (q' : Bool) : AddSt w B bx tb T a ln en v ts t tl o q' (u.setCell ⟨tb, 5, none⟩ (.bool q')) :=
  ⟨h.lex.keep (Below.heap_setCell _ _ _ _ (by have := h.base; have := h.bx_lt; simp only; omega)), setCell_blk h.tok _, h.row.setCell_ne h.ne _, h.fr.setCell (.inl (.inr h.base)) _, h.bx_lt, h.base, h.ne⟩
theorem AddSt.setOpen (h : AddSt w B bx tb T a ln en v ts t tl o q u) (o' : Bool) : AddSt w B bx tb T a ln en v ts t tl o' q (u.setCell ⟨tb, 4, none⟩ (.bool o')) :=
  ⟨h.lex.keep (Below.heap_setCell _ _ _ _ (by have := h.base; have := h.bx_lt; simp only; omega)), setCell_blk h.tok _, h.row.setCell_ne h.ne _, h.fr.setCell (.inl (.inr h.base)) _, h.bx_lt, h.base, h.ne⟩
theorem AddSt.setEn (h : AddSt w B bx tb T a ln en v ts t tl o q u) (en' : Nat) : AddSt w B bx tb T a ln en' v ts t tl o q (u.setCell ⟨bx, 3, none⟩ (.int .i64 (en' : Int))) :=
  ⟨h.lex.setEn en', (Below.heap_setCell _ _ _ _ (by have := h.base; have := h.bx_lt; simp only; omega)).trans h.tok, h.row.setCell_ne h.row_ne _, h.fr.setCell (.inl (.inl rfl)) _, h.bx_lt, h.base, h.ne⟩
theorem AddSt.to {a' ln' : Nat} (h : AddSt w B bx tb T a ln en v ts t tl o q u) (hl : LexAt u' bx T a' ln' en v) (hF : Fr (· = bx) u u') : AddSt w B bx tb T a' ln' en v ts t tl o q u' := by
  have hb := h.base
  have hx := h.bx_lt
  have htb := (Array.getElem?_eq_some_iff.1 h.tok).1
  exact ⟨hl, (hF.block tb htb (by omega)).trans h.tok, h.row.keep fun k hk => hF.block k (h.row.lt k hk).2 (by have := (h.row.lt k hk).1; omega), h.fr.trans (hF.weak fun k hk => .inl hk), hx, hb, h.ne⟩
theorem AddSt.facts (h : AddSt w B bx tb T a ln en v ts t tl o q u) : (u.cell? ⟨tb, 0, none⟩ = some (.int .i64 t.kind) ∧ u.cell? ⟨tb, 1, none⟩ = some (.int .i64 tl) ∧ u.cell? ⟨tb, 2, none⟩ = some (.int .i64 t.n) ∧ u.cell? ⟨tb, 3, none⟩ = some (.string ⟨t.s.toArray⟩) ∧ u.cell? ⟨tb, 4, none⟩ = some (.bool o) ∧ u.cell? ⟨tb, 5, none⟩ = some (.bool q)) ∧ (∀ o, u.frozen? ⟨tb, o, none⟩ = false) := six_cells h.tok
theorem AddSt.alloc (h : AddSt w B bx tb T a ln en v ts t tl o q u) (ob : Obj) : AddSt w B bx tb T a ln en v ts t tl o q (u.alloc ob) :=
  ⟨h.lex.later ((Below.refl _ _).alloc (Nat.le_refl _) _), (((Below.refl u.heap.size u).alloc (Nat.le_refl _) ob).block tb (Array.getElem?_eq_some_iff.1 h.tok).1).trans h.tok, h.row.alloc _, h.fr.alloc _, h.bx_lt, h.base, h.ne⟩
/-- What the append's region reads. -/
theorem AddSt.eight (h : AddSt w B bx tb T a ln en v ts t tl o q u) : u.frozen? ⟨bx, 4, none⟩ = false ∧ u.cell? ⟨tb, 0, none⟩ = some (.int .i64 t.kind) ∧ u.cell? ⟨tb, 1, none⟩ = some (.int .i64 tl) ∧ u.cell? ⟨tb, 2, none⟩ = some (.int .i64 t.n) ∧ u.cell? ⟨tb, 3, none⟩ = some (.string ⟨t.s.toArray⟩) ∧ u.cell? ⟨tb, 4, none⟩ = some (.bool o) ∧ u.cell? ⟨tb, 5, none⟩ = some (.bool q) :=
  ⟨h.lex.cells.2.2.2.2.2 4, h.facts.1⟩
end

def tight (ts : List Tok) (a en : Nat) : Bool := decide (ts ≠ []) && ((a : Int) == (en : Int))
def openB (T : List UInt8) (k : Nat) : Bool := decide (T[k]? = some 40)

theorem open_byte (d : UInt8) : decide (some d = some (40 : UInt8)) = ((d.toNat : Int) == 40) := by
  by_cases h : d = 40
  · subst h; rfl
  · rw [decide_eq_false (by simpa using h)]
    exact (byte_ne h).symm
theorem AddSt.last {w W W' w9 : World} {B bx tb a ln en : Nat} {T : List UInt8} {A : Option Addr} {cap gg cap2 : Nat} {ts : List Tok} {t : TokIs} {tl : Int} {o q : Bool}
    (h : AddSt w B bx tb T a ln en (.slice A ts.length cap) ts t tl o q W)
    (hown : w9.ownsRow B 46 6 (.slice (some ⟨gg, 0, none⟩) (ts.length + 1) cap2) (ts.length + 1) (ts.flatMap encTok ++ encTok ⟨t.kind, tl, t.n, t.s, o, q⟩))
    (hb : Below W.heap.size W W') (hg : W'.grownBy w9 (Value.slice A ts.length cap).ownBlock) :
    ∃ v', LexAt (w9.setCell ⟨bx, 4, none⟩ (.slice (some ⟨gg, 0, none⟩) (ts.length + 1) cap2)) bx T a ln en v' ∧ Row (w9.setCell ⟨bx, 4, none⟩ (.slice (some ⟨gg, 0, none⟩) (ts.length + 1) cap2)) B 46 6 encTok v' (ts ++ [⟨t.kind, tl, t.n, t.s, o, q⟩]) ∧
      Fr (fun k => k = bx ∨ B ≤ k) w (w9.setCell ⟨bx, 4, none⟩ (.slice (some ⟨gg, 0, none⟩) (ts.length + 1) cap2)) := by
  have hbx := h.lex.lt
  have hne := h.row_ne
  have h9 : LexAt w9 bx T a ln en (.slice A ts.length cap) := (h.lex.later hb).keep (hg.block bx (Nat.lt_of_lt_of_le hbx hb.size) (fun e => hne e.symm))
  have hr : Row w9 B 46 6 encTok (.slice (some ⟨gg, 0, none⟩) (ts.length + 1) cap2) (ts ++ [⟨t.kind, tl, t.n, t.s, o, q⟩]) := ⟨by rw [List.length_append, List.flatMap_append]; simpa using hown⟩
  have hbB := h.bx_lt
  refine ⟨_, h9.setL _, hr.setCell_ne (p := ⟨bx, 4, none⟩) (fun e => by have := (hr.lt bx e).1; omega) _, ?_⟩
  exact ((h.fr.step hb).grown hg (fun g hg' => .inl (.inr (h.row.lt g hg').1))).setCell (.inl (.inl rfl)) _

theorem AddSt.behind {w W W' w9 : World} {B bx tb a ln en : Nat} {T : List UInt8} {v : Value} {ts : List Tok} {t : TokIs} {tl : Int} {o q : Bool}
    (h : AddSt w B bx tb T a ln en v ts t tl o q W) (hb : Below W.heap.size W W') (hg : W'.grownBy w9 v.ownBlock) : w9.cell? ⟨bx, 4, none⟩ = some v ∧ w9.frozen? ⟨bx, 4, none⟩ = false := by
  have h9 := (h.lex.later hb).keep (hg.block bx (Nat.lt_of_lt_of_le h.lex.lt hb.size) (fun e => h.row_ne e.symm))
  exact ⟨h9.cells.2.2.2.2.1, h9.cells.2.2.2.2.2 4⟩

set_option maxHeartbeats 8000000 in
theorem add_any (w : World) (B bx : Nat) (T : List UInt8) (a ln en : Nat) (v : Value) (ts : List Tok) (h : LexAt w bx T a ln en v) (hrow : Row w B 46 6 encTok v ts) (hbx : bx < B) (hB : B ≤ w.heap.size) (hts : ts.length ≤ 100000)
    (t : TokIs) (ni : Int) (hni : ni = (t.len : Int)) (han : a + t.len ≤ T.length) (hT : (T.length : Int) ≤ 400000) (hln : (ln : Int) ≤ 1000000) :
    Calls Try.prog 25 #[.pointer (some ⟨bx, 0, none⟩), tokV t, .int .i64 ni] w fun e w' => e = .returned (.tuple #[]) ∧ ∃ v', LexAt w' bx T (a + t.len) (ln + lines ((T.drop a).take t.len)) (a + t.len) v' ∧
      Row w' B 46 6 encTok v' (ts ++ [⟨t.kind, (ln : Int), t.n, t.s, openB T (a + t.len), tight ts a en⟩]) ∧ Fr (fun k => k = bx ∨ B ≤ k) w w' := by
  obtain ⟨A, cap, rfl⟩ := hrow.shape
  obtain ⟨c0, c1, c2, c3, c4, hf⟩ := h.cells
  have hblt := h.lt
  obtain ⟨W1, hW1⟩ : ∃ W1, W1 = w.alloc (.cells #[.int .i64 t.kind, .int .i64 (ln : Int), .int .i64 t.n, .string ⟨t.s.toArray⟩, .bool false, .bool false] 46) := ⟨_, rfl⟩
  have HS1 : Hid (AddSt w B bx w.heap.size T a ln en (.slice A ts.length cap) ts t (ln : Int) false false W1) := by
    rw [hW1]
    exact ⟨h.later ((Below.refl _ _).alloc (Nat.le_refl _) _), heap_alloc_new w _, hrow.alloc _, (Fr.refl _ _).alloc _, hbx, hB, fun e => by have := (hrow.lt _ e).2; omega⟩
  clear h hrow
  unfold tokV
  subst hni
  have hto : ∀ u, LexAt u bx T a ln en (.slice A ts.length cap) → Calls Try.prog 45 #[.pointer (some ⟨bx, 0, none⟩), .int .i64 (t.len : Int)] u fun e w' => e = .returned (.tuple #[]) ∧ LexAt w' bx T (a + t.len) (ln + lines ((T.drop a).take t.len)) en (.slice A ts.length cap) ∧ Fr (· = bx) u w' :=
    fun u hu => to_any u bx T a ln en _ hu t.len _ rfl han (by omega) (by omega)
  obtain ⟨z, hz⟩ : ∃ z, a + t.len = z := ⟨_, rfl⟩
  rw [hz] at hto han ⊢
  have HTO := Lib.hid hto
  clear hto
  obtain ⟨tb, htb⟩ : ∃ tb, tb = w.heap.size := ⟨_, rfl⟩
  rw [← htb] at HS1
  obtain ⟨q, hq⟩ : ∃ q, tight ts a en = q := ⟨_, rfl⟩
  rw [hq]
  obtain ⟨ob, hob⟩ : ∃ ob, openB T z = ob := ⟨_, rfl⟩
  rw [hob]
  go_enter Try.func25, Try.ntmps25
  go_wp2_with fail
  rw [← hW1, ← htb]
  clear hW1 htb c0 c1 c2 c3 c4 hf hblt
  obtain ⟨c0, c1, c2, c3, c4, hf⟩ := HS1.out.lex.cells
  obtain ⟨⟨b0, b1, b2, b3, b4, b5⟩, hfb⟩ := HS1.out.facts
  rcases Classical.em (ts = []) with hts0 | hts0
  case' inl =>
    obtain rfl : false = q := by rw [← hq]; unfold tight; rw [decide_eq_false (by simpa using hts0)]; rfl
    have hdec : decide (0 < ts.length) = false := by rw [hts0]; rfl
    clear hts0
    (refine wp_region_still_tail 18 (by kernel_rfl) (by kernel_rfl) ?_; simp only [List.take_succ_cons, List.take_zero, List.drop_succ_cons, List.drop_zero]; repeat (with_reducible refine wpStill_step ?_; intro KK hKK; go_simp; with_reducible refine hKK _ ?_; clear hKK KK)); try (with_reducible refine wpStill_nil ?_)
    have HS2 := Lib.hid (HS1.out.setTight false).drew
  case' inr =>
    have hpos : (0 : Int) < (ts.length : Int) := by have := List.length_pos_iff.2 hts0; omega
    have hdec : decide (0 < ts.length) = true := decide_eq_true (List.length_pos_iff.2 hts0)
    have htight : ((a : Int) == (en : Int)) = q := by rw [← hq]; unfold tight; rw [decide_eq_true hts0]; simp
    clear hts0
    (refine wp_region_still_tail 18 (by kernel_rfl) (by kernel_rfl) ?_; simp only [List.take_succ_cons, List.take_zero, List.drop_succ_cons, List.drop_zero]; repeat (with_reducible refine wpStill_step ?_; intro KK hKK; go_simp; with_reducible refine hKK _ ?_; clear hKK KK)); try (with_reducible refine wpStill_nil ?_)
    have HS2 := Lib.hid (HS1.out.setTight q).drew
  all_goals
    go_wp2_with fail
    refine (HTO.out _ HS2.out.lex).mono ?_
    rintro e w3 ⟨rfl, hl3, hF3⟩
    have HS3 := Lib.hid (HS2.out.to hl3 hF3)
    clear HS2 hl3 hF3 HS1 c0 c1 c2 c3 c4 hf b0 b1 b2 b3 b4 b5 hfb hdec
    obtain ⟨c0, c1, c2, c3, c4, hf⟩ := HS3.out.lex.cells
    go_wp2_with fail
    obtain ⟨W4, hW4⟩ : ∃ W4, W4 = w3.setCell ⟨bx, 3, none⟩ (.int .i64 (z : Int)) := ⟨_, rfl⟩
    have HS4 := Lib.hid (HS3.out.setEn z)
    rw [← hW4] at HS4 ⊢
    clear hW4 c0 c1 c2 c3 c4 hf HS3
    obtain ⟨c0, c1, c2, c3, c4, hf⟩ := HS4.out.lex.cells
    obtain ⟨⟨b0, b1, b2, b3, b4, b5⟩, hfb⟩ := HS4.out.facts
    rcases Nat.lt_or_ge z T.length with hlt | hge
    case' inl =>
      obtain ⟨d, -, hx, hgd⟩ := byte_at T z hlt
      have hlt' : (z : Int) < (T.length : Int) := by omega
      have hdec2 : decide ((z : Int) < (T.length : Int)) = true := decide_eq_true hlt'
      have hdec3 : decide (z < T.length) = true := decide_eq_true hlt
      have hq2 : ((d.toNat : Int) == 40) = ob := by rw [← hob]; unfold openB; rw [hgd]; exact (open_byte d).symm
      (refine wp_region_still_tail 23 (by kernel_rfl) (by kernel_rfl) ?_; simp only [List.take_succ_cons, List.take_zero, List.drop_succ_cons, List.drop_zero]; repeat (with_reducible refine wpStill_step ?_; intro KK hKK; go_simp; with_reducible refine hKK _ ?_; clear hKK KK)); try (with_reducible refine wpStill_nil ?_)
      go_wp2_with fail
      obtain ⟨W5, hW5⟩ : ∃ W5, W5 = (W4.setCell ⟨tb, 4, none⟩ (.bool ob)).drew := ⟨_, rfl⟩
      have HS5 := Lib.hid (HS4.out.setOpen ob).drew
      rw [← hW5] at HS5 ⊢
      clear hq2 hlt' hdec2 hdec3 hx hgd hlt hW5
    case' inr =>
      obtain rfl : false = ob := by rw [← hob]; unfold openB; rw [List.getElem?_eq_none hge]; rfl
      have hdec2 : decide ((z : Int) < (T.length : Int)) = false := decide_eq_false (by omega)
      have hdec3 : decide (z < T.length) = false := decide_eq_false (by omega)
      clear hge
      (refine wp_region_still_tail 23 (by kernel_rfl) (by kernel_rfl) ?_; simp only [List.take_succ_cons, List.take_zero, List.drop_succ_cons, List.drop_zero]; repeat (with_reducible refine wpStill_step ?_; intro KK hKK; go_simp; with_reducible refine hKK _ ?_; clear hKK KK)); try (with_reducible refine wpStill_nil ?_)
      go_wp2_with fail
      obtain ⟨W5, hW5⟩ : ∃ W5, W5 = (W4.setCell ⟨tb, 4, none⟩ (.bool false)).drew := ⟨_, rfl⟩
      have HS5 := Lib.hid (HS4.out.setOpen false).drew
      rw [← hW5] at HS5 ⊢
      clear hdec2 hdec3 hW5
  · clear c0 c1 c2 c3 c4 hf hfb b0 b1 b2 b3 b4 b5 HS4 HTO
    obtain ⟨c0, c1, c2, c3, c4, hf⟩ := HS5.out.lex.cells
    obtain ⟨⟨b0, b1, b2, b3, b4, b5⟩, hfb⟩ := HS5.out.facts
    have htbl := (Array.getElem?_eq_some_iff.1 HS5.out.tok).1
    have hbxl := HS5.out.lex.lt
    obtain ⟨i0, z0, hi0, hz0, hz1, hz2, hz3⟩ := tok_info
    have hBB : B ≤ W5.heap.size := Nat.le_trans HS5.out.base (Nat.le_of_lt htbl)
    go_region_law
      ((refine step_append_lies _ (by rfl) _ _ _ (by rfl) B 46 i0 _ 6 48 Try.underlying23 hi0 hz0 hz1 hz2 hz3 (by omega) (.slice A ts.length cap) ts.length (ts.flatMap encTok) (by rfl) (HS5.out.row.later (by (repeat (first | exact Below.refl _ _ | refine Below.drew ?_ | refine Below.alloc ?_ (Nat.le_refl _) _)))).own
          ⟨W5.heap.size, 0, none⟩ 1 1 (encTok ⟨t.kind, (ln : Int), t.n, t.s, false, q⟩) (by rfl) (by rfl) (World.news_of_block (cs := (encTok ⟨t.kind, (ln : Int), t.n, t.s, false, q⟩).toArray) (t := 46) (fr := (0, 0)) (by exact heap_alloc_new W5 _)) (encTok_one _)
          (by omega) (by unfold maxLen; omega) (by omega) (by simp; omega) (W5.heap.size + 1) (by simp) ?_; intro gg cap2 w9 hown9 hgrow hat9 hlt9; obtain ⟨hc9, hf9⟩ := HS5.out.behind (by (repeat (first | exact Below.refl _ _ | refine Below.drew ?_ | refine Below.alloc ?_ (Nat.le_refl _) _))) hgrow))
    all_goals
      go_wp2_with fail
      go_end0
      exact ⟨rfl, HS5.out.last hown9 (by (repeat (first | exact Below.refl _ _ | refine Below.drew ?_ | refine Below.alloc ?_ (Nat.le_refl _) _))) hgrow⟩
  · clear c0 c1 c2 c3 c4 hf hfb b0 b1 b2 b3 b4 b5 HS4 HTO
    obtain ⟨c0, c1, c2, c3, c4, hf⟩ := HS5.out.lex.cells
    obtain ⟨⟨b0, b1, b2, b3, b4, b5⟩, hfb⟩ := HS5.out.facts
    have htbl := (Array.getElem?_eq_some_iff.1 HS5.out.tok).1
    have hbxl := HS5.out.lex.lt
    obtain ⟨i0, z0, hi0, hz0, hz1, hz2, hz3⟩ := tok_info
    have hBB : B ≤ W5.heap.size := Nat.le_trans HS5.out.base (Nat.le_of_lt htbl)
    go_region_law
      ((refine step_append_lies _ (by rfl) _ _ _ (by rfl) B 46 i0 _ 6 48 Try.underlying23 hi0 hz0 hz1 hz2 hz3 (by omega) (.slice A ts.length cap) ts.length (ts.flatMap encTok) (by rfl) (HS5.out.row.later (by (repeat (first | exact Below.refl _ _ | refine Below.drew ?_ | refine Below.alloc ?_ (Nat.le_refl _) _)))).own
          ⟨W5.heap.size, 0, none⟩ 1 1 (encTok ⟨t.kind, (ln : Int), t.n, t.s, ob, q⟩) (by rfl) (by rfl) (World.news_of_block (cs := (encTok ⟨t.kind, (ln : Int), t.n, t.s, ob, q⟩).toArray) (t := 46) (fr := (0, 0)) (by exact heap_alloc_new W5 _)) (encTok_one _)
          (by omega) (by unfold maxLen; omega) (by omega) (by simp; omega) (W5.heap.size + 1) (by simp) ?_; intro gg cap2 w9 hown9 hgrow hat9 hlt9; obtain ⟨hc9, hf9⟩ := HS5.out.behind (by (repeat (first | exact Below.refl _ _ | refine Below.drew ?_ | refine Below.alloc ?_ (Nat.le_refl _) _))) hgrow))
    all_goals
      go_wp2_with fail
      go_end0
      exact ⟨rfl, HS5.out.last hown9 (by (repeat (first | exact Below.refl _ _ | refine Below.drew ?_ | refine Below.alloc ?_ (Nat.le_refl _) _))) hgrow⟩
  · clear c0 c1 c2 c3 c4 hf hfb b0 b1 b2 b3 b4 b5 HS4 HTO
    obtain ⟨c0, c1, c2, c3, c4, hf⟩ := HS5.out.lex.cells
    obtain ⟨⟨b0, b1, b2, b3, b4, b5⟩, hfb⟩ := HS5.out.facts
    have htbl := (Array.getElem?_eq_some_iff.1 HS5.out.tok).1
    have hbxl := HS5.out.lex.lt
    obtain ⟨i0, z0, hi0, hz0, hz1, hz2, hz3⟩ := tok_info
    have hBB : B ≤ W5.heap.size := Nat.le_trans HS5.out.base (Nat.le_of_lt htbl)
    go_region_law
      ((refine step_append_lies _ (by rfl) _ _ _ (by rfl) B 46 i0 _ 6 48 Try.underlying23 hi0 hz0 hz1 hz2 hz3 (by omega) (.slice A ts.length cap) ts.length (ts.flatMap encTok) (by rfl) (HS5.out.row.later (by (repeat (first | exact Below.refl _ _ | refine Below.drew ?_ | refine Below.alloc ?_ (Nat.le_refl _) _)))).own
          ⟨W5.heap.size, 0, none⟩ 1 1 (encTok ⟨t.kind, (ln : Int), t.n, t.s, false, false⟩) (by rfl) (by rfl) (World.news_of_block (cs := (encTok ⟨t.kind, (ln : Int), t.n, t.s, false, false⟩).toArray) (t := 46) (fr := (0, 0)) (by exact heap_alloc_new W5 _)) (encTok_one _)
          (by omega) (by unfold maxLen; omega) (by omega) (by simp; omega) (W5.heap.size + 1) (by simp) ?_; intro gg cap2 w9 hown9 hgrow hat9 hlt9; obtain ⟨hc9, hf9⟩ := HS5.out.behind (by (repeat (first | exact Below.refl _ _ | refine Below.drew ?_ | refine Below.alloc ?_ (Nat.le_refl _) _))) hgrow))
    all_goals
      go_wp2_with fail
      go_end0
      exact ⟨rfl, HS5.out.last hown9 (by (repeat (first | exact Below.refl _ _ | refine Below.drew ?_ | refine Below.alloc ?_ (Nat.le_refl _) _))) hgrow⟩
  · clear c0 c1 c2 c3 c4 hf hfb b0 b1 b2 b3 b4 b5 HS4 HTO
    obtain ⟨c0, c1, c2, c3, c4, hf⟩ := HS5.out.lex.cells
    obtain ⟨⟨b0, b1, b2, b3, b4, b5⟩, hfb⟩ := HS5.out.facts
    have htbl := (Array.getElem?_eq_some_iff.1 HS5.out.tok).1
    have hbxl := HS5.out.lex.lt
    obtain ⟨i0, z0, hi0, hz0, hz1, hz2, hz3⟩ := tok_info
    have hBB : B ≤ W5.heap.size := Nat.le_trans HS5.out.base (Nat.le_of_lt htbl)
    go_region_law
      ((refine step_append_lies _ (by rfl) _ _ _ (by rfl) B 46 i0 _ 6 48 Try.underlying23 hi0 hz0 hz1 hz2 hz3 (by omega) (.slice A ts.length cap) ts.length (ts.flatMap encTok) (by rfl) (HS5.out.row.later (by (repeat (first | exact Below.refl _ _ | refine Below.drew ?_ | refine Below.alloc ?_ (Nat.le_refl _) _)))).own
          ⟨W5.heap.size, 0, none⟩ 1 1 (encTok ⟨t.kind, (ln : Int), t.n, t.s, ob, false⟩) (by rfl) (by rfl) (World.news_of_block (cs := (encTok ⟨t.kind, (ln : Int), t.n, t.s, ob, false⟩).toArray) (t := 46) (fr := (0, 0)) (by exact heap_alloc_new W5 _)) (encTok_one _)
          (by omega) (by unfold maxLen; omega) (by omega) (by simp; omega) (W5.heap.size + 1) (by simp) ?_; intro gg cap2 w9 hown9 hgrow hat9 hlt9; obtain ⟨hc9, hf9⟩ := HS5.out.behind (by (repeat (first | exact Below.refl _ _ | refine Below.drew ?_ | refine Below.alloc ?_ (Nat.le_refl _) _))) hgrow))
    all_goals
      go_wp2_with fail
      go_end0
      exact ⟨rfl, HS5.out.last hown9 (by (repeat (first | exact Below.refl _ _ | refine Below.drew ?_ | refine Below.alloc ?_ (Nat.le_refl _) _))) hgrow⟩
end Go.Proofs.Ytpiekfkkhgighaa
