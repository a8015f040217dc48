import Derived.Test.YtjdnigepnfeboaaGreatDoorJG34
import Derived.Test.YtjdnigepnfeboaaGreatDoorJG29
import Derived.Test.YtjdnigepnfeboaaGreatDoorJG30
import Derived.Laws.EntriesVeiled
namespace Go.Proofs.YtjdnigepnfeboaaGreatDoor
open Go.RowKit
set_option maxRecDepth 100000
def LexFix (w : World) (T : List UInt8) (e : Ending) (w' : World) : Prop :=
 ∃ v', e = .returned (.tuple #[v', .int .i64 (lexQ T).2.1, .int .i64 (lexQ T).2.2]) ∧ Row w' w.heap.size 127 6 encTok v' (lexQ T).1 ∧ Below w.heap.size w w'
structure LxI (w : World) (T : List UInt8) (a : Nat) (v : Value) (ts : List Tok) (u : World) : Prop where
 lex : LexAt u w.heap.size T a 1 a v
 row : Row u (w.heap.size + 1) 127 6 encTok v ts
 below : Below w.heap.size w u
 le : a ≤ T.length
 head : headQ T a
 eq : ts = (lexQ T).1.take (cntQ T a)
theorem fix_len {T : List UInt8} (hT : FixT T) : T.length ≤ 11 ∧ (lexQ T).1.length ≤ 11 := by
 rcases hT with rfl | rfl | rfl <;> decide
theorem fix_two {T : List UInt8} (hT : FixT T) : (lexQ T).2.1 = 0 ∧ (lexQ T).2.2 = 0 := by
 rcases hT with rfl | rfl | rfl <;> exact ⟨rfl, rfl⟩
structure LxM (w : World) (T : List UInt8) (k ln en : Nat) (v : Value) (ts : List Tok) (u : World) : Prop where
 lex : LexAt u w.heap.size T k ln en v
 row : Row u (w.heap.size + 1) 127 6 encTok v ts
 below : Below w.heap.size w u
section
variable {w u u' : World} {T : List UInt8} {a ln k en ln' : Nat} {v : Value} {ts : List Tok}
theorem LxI.after (h : LxI w T a v ts u) (hl : LexAt u' w.heap.size T k ln' en v) (hF : Fr (· = w.heap.size) u u') : LxM w T k ln' en v ts u' :=
 ⟨hl, h.row.keep fun b hb => hF.block b (h.row.lt b hb).2 (by have := (h.row.lt b hb).1; omega), h.below.trans (hF.below h.below.size (fun k hk e => by omega))⟩
theorem LxM.later (h : LxM w T k ln en v ts u) (hb : Below u.heap.size u u') : LxM w T k ln en v ts u' :=
 ⟨h.lex.later hb, h.row.later hb, h.below.trans (hb.mono h.below.size)⟩
theorem LxM.drewN (h : LxM w T k ln en v ts u) (n : Nat) : LxM w T k ln en v ts (u.drewN n) := h.later ⟨rfl, rfl, rfl, Nat.le_refl _, fun _ _ => rfl⟩
theorem LxM.ended {w' w9 : World} (h : LxM w T k ln en v ts u) (hb : Below u.heap.size u w') (hg : w'.grownBy w9 v.ownBlock) : Below w.heap.size w w9 :=
 (h.below.trans (hb.mono h.below.size)).trans ⟨hg.os, hg.tape, hg.output, hg.size, fun i hi => hg.block i (Nat.lt_of_lt_of_le (Nat.lt_of_lt_of_le hi h.below.size) hb.size) (fun e => by have := (h.row.lt i e.symm).1; omega)⟩
theorem LxM.rowed {w9 : World} {gg cap2 : Nat} {t : Tok} (_ : LxM w T k ln en v ts u) (hown : w9.ownsRow (w.heap.size + 1) 127 6 (.slice (some ⟨gg, 0, none⟩) (ts.length + 1) cap2) (ts.length + 1) (ts.flatMap encTok ++ encTok t)) :
    Row w9 (w.heap.size + 1) 127 6 encTok (.slice (some ⟨gg, 0, none⟩) (ts.length + 1) cap2) (ts ++ [t]) := ⟨by rw [List.length_append, List.flatMap_append]; simpa using hown⟩
end
set_option maxHeartbeats 4000000 in
theorem lex_c (w : World) (T : List UInt8) (hT : FixT T) : Calls Tryz.prog 22 #[.string ⟨T.toArray⟩] w (LexFix w T) := by
 have hT2 : decide (65536 < T.length) = false := decide_eq_false (by have := (fix_len hT).1; omega)
 have hT3 : (T.length : Int) ≤ 16000 := by have := (fix_len hT).1; omega
 have HT := Lib.hid hT
 have HTL := Lib.hid (fix_len hT)
 clear hT
 have hblk : (w.alloc (.cells #[.string ⟨T.toArray⟩, .int .i64 0, .int .i64 1, .int .i64 0, .slice none 0 0, .nilFunc, .nilFunc, .nilFunc, .nilFunc, .nilFunc, .nilFunc] 125)).heap[w.heap.size]? = some (.cells #[.string ⟨T.toArray⟩, .int .i64 0, .int .i64 1, .int .i64 0, .slice none 0 0, .nilFunc, .nilFunc, .nilFunc, .nilFunc, .nilFunc, .nilFunc] 125 (0, 0)) := heap_alloc_new w _
 have hlt : w.heap.size < w.heap.size + 1 := Nat.lt_succ_self _
 obtain ⟨W0, hW0⟩ : ∃ W0, w.alloc (.cells #[.string ⟨T.toArray⟩, .int .i64 0, .int .i64 1, .int .i64 0, .slice none 0 0, .nilFunc, .nilFunc, .nilFunc, .nilFunc, .nilFunc, .nilFunc] 125) = W0 := ⟨_, rfl⟩
 rw [hW0] at hblk
 have f0 : ∀ o, W0.frozen? ⟨w.heap.size, o, none⟩ = false := fun o => by simp [World.frozen?, hblk]
 have cc := fun k => cell_of_row W0 w.heap.size k _ _ (0, 0) hblk
 have c5 : W0.cell? ⟨w.heap.size, 5, none⟩ = some .nilFunc := (cc 5).trans rfl
 have c6 : W0.cell? ⟨w.heap.size, 6, none⟩ = some .nilFunc := (cc 6).trans rfl
 have c7 : W0.cell? ⟨w.heap.size, 7, none⟩ = some .nilFunc := (cc 7).trans rfl
 have c8 : W0.cell? ⟨w.heap.size, 8, none⟩ = some .nilFunc := (cc 8).trans rfl
 have c9 : W0.cell? ⟨w.heap.size, 9, none⟩ = some .nilFunc := (cc 9).trans rfl
 have c10 : W0.cell? ⟨w.heap.size, 10, none⟩ = some .nilFunc := (cc 10).trans rfl
 have HB := Lib.hid hblk
 clear hblk cc
 go_enter Tryz.func22, Tryz.ntmps22
 go_wp2_with fail
 obtain ⟨W1, hW1⟩ : ∃ u, u = ((((((W0.setCell ⟨w.heap.size, 5, none⟩ (.func (.func 40) #[.pointer (some ⟨w.heap.size, 0, none⟩)] #[])).setCell ⟨w.heap.size, 6, none⟩ (.func (.func 41) #[.pointer (some ⟨w.heap.size, 0, none⟩)] #[])).setCell ⟨w.heap.size, 7, none⟩ (.func (.func 42) #[.pointer (some ⟨w.heap.size, 0, none⟩)] #[])).setCell ⟨w.heap.size, 8, none⟩ (.func (.func 43) #[.pointer (some ⟨w.heap.size, 0, none⟩)] #[])).setCell ⟨w.heap.size, 9, none⟩ (.func (.func 44) #[.pointer (some ⟨w.heap.size, 0, none⟩)] #[])).setCell ⟨w.heap.size, 10, none⟩ (.func (.func 45) #[.pointer (some ⟨w.heap.size, 0, none⟩)] #[])) := ⟨_, rfl⟩
 rw [← hW1]
 have HI0 : Hid (LxI w T 0 (.slice none 0 0) [] W1) := by
  rw [hW1]
  refine ⟨⟨setCell_blk (setCell_blk (setCell_blk (setCell_blk (setCell_blk (setCell_blk HB.out _) _) _) _) _) _⟩, Row.nil _ _ _ _ _, ?_, Nat.zero_le _, .inl rfl, rfl⟩
  repeat (refine Below.setCell ?_ (by simp) _)
  rw [← hW0]
  exact (Below.refl _ _).alloc (Nat.le_refl _) _
 clear hW1 hW0 HB f0 c5 c6 c7 c8 c9 c10 hlt W0
 go_loopg [] (T.length + 1) (fun n wr => ∃ a v ts, LxI w T a v ts wr ∧ T.length + 1 ≤ a + n)
 case atStart => exact ⟨0, _, [], HI0.out, by omega⟩
 case round =>
  obtain ⟨a, v, ts, hI, hga⟩ := hrel
  have HI := Lib.hid hI
  have hlen : ts.length ≤ 11 := by rw [hI.eq, List.length_take]; have := HTL.out.2; omega
  obtain ⟨k, hk1, hk2⟩ := step_q HT.out a hI.le hI.head
  have hkT : k ≤ T.length := by rcases hk2 with h | h <;> omega
  have hak : a ≤ k := by rcases hk1 with h | h <;> omega
  have HK := Lib.hid (And.intro hk1 hk2)
  clear hI HI0 hk1 hk2
  go_wp2_with fail
  refine (skip_c wr w.heap.size T a a v HI.out.lex k HK.out.1 (by have := HTL.out.1; omega) (lines_q HT.out a HI.out.le)).mono ?_
  rintro e w2 ⟨rfl, hl2, hF2⟩
  have hI2 := HI.out.after hl2 hF2
  obtain ⟨L, hL⟩ : ∃ L, 1 = L := ⟨_, rfl⟩
  have HL := Lib.hid hL
  rw [hL] at hI2
  have HI2 := Lib.hid hI2
  clear hl2 hF2 hL hI2
  obtain ⟨c0, c1, c2, c3, c4, hf⟩ := HI2.out.lex.cells
  rcases HK.out.2 with ⟨hk, he⟩ | ⟨hk, hh, t, hs, ht1, he⟩
  ·subst hk
   have HE := Lib.hid he
   clear he HK
   go_wp2_with fail
   go_quiet (fail)
   obtain ⟨w3, hw3⟩ : ∃ u, u = w2.drewN nq := ⟨_, rfl⟩
   have HI3 := Lib.hid (HI2.out.drewN nq)
   rw [← hw3] at HI3 ⊢
   clear hw3 c0 c1 c2 c3 c4 hf HI2
   obtain ⟨c0, c1, c2, c3, c4, hf⟩ := HI3.out.lex.cells
   obtain ⟨A, cap, rfl⟩ := HI3.out.row.shape
   obtain ⟨i0, z0, hi0, hz0, hz1, hz2, hz3⟩ := tok_info
   have hlt0 := HI3.out.lex.lt
   go_wp2_with fail
   go_region_law
    ((refine step_append_lies _ (by rfl) _ _ _ (by rfl) (w.heap.size + 1) 127 i0 _ 6 48 Tryz.underlying65 hi0 hz0 hz1 hz2 hz3 (by omega) (.slice A ts.length cap) ts.length (ts.flatMap encTok) (by rfl) (HI3.out.row.later (by (repeat (first | exact Below.refl _ _ | refine Below.drew ?_ | refine Below.alloc ?_ (Nat.le_refl _) _)))).own
        ⟨w3.heap.size, 0, none⟩ 1 1 (encTok ⟨0, (L : Int), 0, [], false, false⟩) (by rfl) (by rfl) (World.news_of_block (cs := (encTok ⟨0, (L : Int), 0, [], false, false⟩).toArray) (t := 127) (fr := (0, 0)) (by exact heap_alloc_new w3 _)) (encTok_one _)
        (by omega) (by unfold maxLen; omega) (by omega) (by simp; omega) (w3.heap.size + 1) (by simp) ?_; intro gg cap2 w9 hown9 hgrow hat9 hlt9))
   all_goals
    go_wp2_with fail
    refine bodyPost_ret (v := .tuple #[.slice (some ⟨gg, 0, none⟩) (ts.length + 1) cap2, .int .i64 0, .int .i64 0]) (by simp [results, Tryz.results22, go_sem]) rfl ?_
    refine ⟨_, by rw [(fix_two HT.out).1, (fix_two HT.out).2], ?_, HI3.out.ended (by (repeat (first | exact Below.refl _ _ | refine Below.drew ?_ | refine Below.alloc ?_ (Nat.le_refl _) _))) hgrow⟩
    rw [HE.out, ← HI.out.eq]
    have hL := HL.out
    subst hL
    exact (HI3.out.rowed hown9).down (Nat.le_succ _)
  ·have hne : ((k : Int) == (T.length : Int)) = false := by rw [beq_eq_false_iff_ne]; omega
   have HS := Lib.hid (And.intro hs (And.intro hh he))
   clear hs hh he HK
   go_wp2_with fail
   go_quiet (fail)
   obtain ⟨w3, hw3⟩ : ∃ u, u = w2.drewN nq := ⟨_, rfl⟩
   have HI3 := Lib.hid (HI2.out.drewN nq)
   rw [← hw3] at HI3 ⊢
   clear hw3 c0 c1 c2 c3 c4 hf HI2 hne
   go_wp2_with fail
   refine (next_c w3 w.heap.size T k L a v HI3.out.lex HS.out.1 hkT (by have := HTL.out.1; omega)).mono ?_
   rintro e w4 ⟨rfl, hb4⟩
   have HI4 := Lib.hid (HI3.out.later hb4)
   clear hb4 HI3
   unfold rV
   obtain ⟨A, cap, rfl⟩ := HI4.out.row.shape
   obtain ⟨c0, c1, c2, c3, c4, hf⟩ := HI4.out.lex.cells
   have hb4 := HI4.out.lex.lt
   have hmt : ((ts.length : Int) == 16384) = false := by rw [beq_eq_false_iff_ne]; omega
   have hmt2 : (ts.length == 16384) = false := by rw [beq_eq_false_iff_ne]; omega
   go_wp2_with fail
   have HI5 := Lib.hid (HI4.out.later ((Below.refl _ _).alloc (Nat.le_refl _) (.cells #[.int .i64 t.kind, .int .i64 0, .int .i64 t.n, .string ⟨t.s.toArray⟩, .bool false, .bool false] 127)))
   refine (add_any _ (w.heap.size + 1) w.heap.size T k L a _ ts HI5.out.lex HI5.out.row (Nat.lt_succ_self _) HI5.out.lex.lt (by omega) t 1 (by rw [ht1]; rfl) (by omega) (by have := HTL.out.1; omega) (by have := HL.out; omega)).mono ?_
   rintro e w6 ⟨rfl, v', hl6, hr6, hF6⟩
   have HI6 : Hid (LxI w T (k + 1) v' (ts ++ [⟨t.kind, 1, t.n, t.s, openB T (k + 1), tight ts k a⟩]) w6) := Lib.hid (by
    have hL := HL.out
    subst hL
    have h0 := lines_q HT.out k hkT
    rw [ht1, h0] at hl6
    rw [ht1] at hr6
    exact ⟨hl6, hr6, HI5.out.below.trans (hF6.below HI5.out.below.size (fun k hk e => by omega)), by omega, HS.out.2.1, by rw [HS.out.2.2, ← HI.out.eq]⟩)
   clear hl6 hr6 hF6
   go_wp2_with fail
   go_roundg (T.length + 1 - (k + 1))
   case measure => have := hga; omega
   case rel => exact ⟨k + 1, _, _, HI6.out, by omega⟩
end Go.Proofs.YtjdnigepnfeboaaGreatDoor
namespace Go.Proofs.YtjdnigepnfeboaaGreatDoor
open Go.RowKit Go.Maps
set_option maxRecDepth 100000
theorem tok_kindP (a b c : Int) (d : ByteArray) (e f : Bool) (w : World) : (Instr.field 127 (.agg #[.int .i64 a, .int .i64 b, .int .i64 c, .string d, .bool e, .bool f]) 0).run Tryz.prog w = .ok (.int .i64 a) w := by kernel_rfl
def pS0 (k : Nat) : RdS := (rdS0 k).want 1200
def pS1 (k : Nat) : RdS := (((pS0 k).go 1).go 1).await ⟨2, 0, [112], 0, []⟩ 999
def pS2 (k : Nat) (t : Tm) (c2 : Int) (vs ns : List (List UInt8 × Int)) : RdS := ({ (pS1 k).go 1 with cnt := c2, vars := vs, names := ns } : RdS).done t 0
def pS3 (k : Nat) (t : Tm) (c2 : Int) (vs ns : List (List UInt8 × Int)) : RdS := (({ pS2 k t c2 vs ns with wait := [], most := 1200 } : RdS).go 1).done (.mk 4 0 [112] [t]) 0
def pF : FrV := ⟨2, 1200, [112], 0, none, 0, 0⟩
structure PTok (ts : List Tok) (k : Nat) : Prop where
 k0 : (peekF ts k).kind = 1
 s0 : (peekF ts k).s = [112]
 o0 : (peekF ts k).opn = true
 p1 : isP ts (k + 1) 40 = true
 p3 : isP ts (k + 3) 41 = true
 k3 : (peekF ts (k + 3)).kind = 6
 n3 : isP ts (k + 3) 44 = false
 k4 : (peekF ts (k + 4)).kind = 7
structure PEnv (U wr : World) (rb bb mb : Nat) (v : RdV) : Prop where
 vb : v.vb = .map (some mb)
 bv : v.bv = .map (some bb)
 beg : MapAt wr bb evI (evF rb) begL
 fr : Fr (fun q => q = rb ∨ q = mb) U wr
theorem PEnv.step {U wr w' : World} {rb bb mb : Nat} {v v' : RdV} (h : PEnv U wr rb bb mb v) (hf : Fr (fun q => q = rb ∨ q = mb) wr w') (h1 : v'.vb = v.vb) (h2 : v'.bv = v.bv) (hbr : bb ≠ rb ∧ bb ≠ mb) : PEnv U w' rb bb mb v' :=
 ⟨h1.trans h.vb, h2.trans h.bv, h.beg.keep (hf.block _ h.beg.lt fun e => e.elim hbr.1 hbr.2), h.fr.trans hf⟩
def PI (U : World) (rb bb mb B k : Nat) (ts : List Tok) (t : Tm) (c2 : Int) (vs ns : List (List UInt8 × Int)) (g : Nat) (wr : World) : Prop :=
 ∃ v, PEnv U wr rb bb mb v ∧
  ((g = 3 ∧ RdAt wr rb v ts (pS0 k) B ∧ WRow wr rb v.wv [] ∧ v.wv = .slice none 0 0 ∧ VarsAt wr mb [] ∧ v.nv = .slice none 0 0) ∨
   (g = 2 ∧ RdAt wr rb v ts (pS1 k) B ∧ WRow wr rb v.wv [pF] ∧ VarsAt wr mb [] ∧ v.nv = .slice none 0 0) ∨
   (g = 1 ∧ RdAt wr rb v ts (pS2 k t c2 vs ns) B ∧ WRow wr rb v.wv [pF] ∧ NRow wr rb v.nv ns ∧ TermS wr (fun _ => False) v.x t) ∨
   (g = 0 ∧ RdAt wr rb v ts (pS3 k t c2 vs ns) B ∧ WRow wr rb v.wv [] ∧ NRow wr rb v.nv ns ∧ TermS wr (fun b => U.heap.size ≤ b ∧ TyB wr 27 b) v.x (.mk 4 0 [112] [t])))
set_option maxHeartbeats 8000000 in
theorem clause_p (W : World) (rb bb mb B k : Nat) (ts : List Tok) (v0 : RdV) (t1 : Tm) (c2 : Int) (vs ns : List (List UInt8 × Int)) (h : RdAt W rb v0 ts (rdS0 k) B) (hwv : v0.wv = .slice none 0 0) (hnv : v0.nv = .slice none 0 0) (hvb : v0.vb = .map (some mb)) (hbv : v0.bv = .map (some bb)) (hV : VarsAt W mb []) (hM : MapAt W bb evI (evF rb) begL) (hmr : mb ≠ rb) (hbr : bb ≠ rb ∧ bb ≠ mb) (hp : PTok ts k)
    (hP : ∀ u v, RdAt u rb v ts (pS1 k) B → v.vb = .map (some mb) → v.bv = .map (some bb) → VarsAt u mb [] → MapAt u bb evI (evF rb) begL → v.nv = .slice none 0 0 → Calls Tryz.prog 122 #[.pointer (some ⟨rb, 0, none⟩)] u fun e u' =>
      e = .returned (.tuple #[]) ∧ ∃ nv' x, RdAt u' rb { v with nv := nv', x := x } ts (pS2 k t1 c2 vs ns) B ∧ NRow u' rb nv' ns ∧ TermS u' (fun _ => False) x t1 ∧ Fr (fun q => q = rb ∨ q = mb) u u') :
    Calls Tryz.prog 56 #[.pointer (some ⟨rb, 0, none⟩)] W fun e u' => ∃ x v', e = .returned (tvV x) ∧ RdAt u' rb v' ts (pS3 k t1 c2 vs ns) B ∧ NRow u' rb v'.nv ns ∧ TermS u' (TyB u' 27) x (.mk 4 0 [112] [t1]) ∧ Fr (fun q => q = rb ∨ q = mb) W u' := by
 obtain ⟨P, hPP⟩ : ∃ P : Ending → World → Prop, P = fun e u' => ∃ x v', e = .returned (tvV x) ∧ RdAt u' rb v' ts (pS3 k t1 c2 vs ns) B ∧ NRow u' rb v'.nv ns ∧ TermS u' (TyB u' 27) x (.mk 4 0 [112] [t1]) ∧ Fr (fun q => q = rb ∨ q = mb) W u' := ⟨_, rfl⟩
 rw [← hPP]
 have HPP := Lib.hid hPP
 have HPT := Lib.hid hp
 have HPR := Lib.hid hP
 have HNE := Lib.hid (And.intro hmr hbr)
 obtain ⟨U, hU⟩ : ∃ U, U = W.alloc (.cells #[.int .i64 0, .int .i64 0, .string ⟨#[]⟩, .slice none 0 0] 27) := ⟨_, rfl⟩
 have hbU : Below W.heap.size W U := by rw [hU]; exact (Below.refl _ _).alloc (Nat.le_refl _) _
 have hz : U.heap[W.heap.size]? = some (.cells #[.int .i64 0, .int .i64 0, .string ⟨#[]⟩, .slice none 0 0] 27 (0, 0)) := by rw [hU]; exact heap_alloc_new _ _
 have HU := Lib.hid (And.intro (h.later hbU) (And.intro (show PEnv U U rb bb mb v0 from ⟨hvb, hbv, hM.keep (hbU.block _ hM.lt), Fr.refl _ _⟩) (And.intro (show VarsAt U mb [] from ⟨hV.map.keep (hbU.block _ hV.map.lt), hV.ok⟩) (And.intro hwv hnv))))
 have HZ := Lib.hid (And.intro hz (And.intro hbU (And.intro (show W.heap.size ≠ rb ∧ W.heap.size ≠ mb from ⟨fun e => by have := h.blk.lt; omega, fun e => by have := hV.map.lt; omega⟩) h.blk.lt)))
 clear h hwv hnv hvb hbv hV hM hmr hbr hp hP hPP hbU hz
 go_enter Tryz.func56, Tryz.ntmps56
 go_upto_region 1 with fail
 rw [← hU]
 clear hU
 go_wp2_with fail
 refine (want_any U rb v0 ts (rdS0 k) B HU.out.1 1200).mono ?_
 rintro e w1 ⟨rfl, r1, rfl⟩
 have hf1 : Fr (fun q => q = rb ∨ q = mb) U ((U.setCell ⟨rb, 5, none⟩ (.int .i64 1200)).setCell ⟨rb, 6, none⟩ (.bool false)) := ((Fr.refl _ U).setCell (p := ⟨rb, 5, none⟩) (.inl (.inl rfl)) _).setCell (p := ⟨rb, 6, none⟩) (.inl (.inl rfl)) _
 have HI0 : Hid (PI U rb bb mb B k ts t1 c2 vs ns 3 ((U.setCell ⟨rb, 5, none⟩ (.int .i64 1200)).setCell ⟨rb, 6, none⟩ (.bool false))) := Lib.hid (by
  refine ⟨v0, HU.out.2.1.step hf1 rfl rfl HNE.out.2, .inl ⟨rfl, r1, ?_, HU.out.2.2.2.1, ⟨HU.out.2.2.1.map.keep ?_, HU.out.2.2.1.ok⟩, HU.out.2.2.2.2⟩⟩
  ·rw [HU.out.2.2.2.1]
   exact Row.nil _ _ _ _ _
  ·rw [Below.heap_setCell _ _ _ _ HNE.out.1, Below.heap_setCell _ _ _ _ HNE.out.1])
 obtain ⟨w1, hw1⟩ : ∃ w1, w1 = (U.setCell ⟨rb, 5, none⟩ (.int .i64 1200)).setCell ⟨rb, 6, none⟩ (.bool false) := ⟨_, rfl⟩
 rw [← hw1] at HI0 ⊢
 clear r1 hf1 hw1
 go_wp2_with fail
 go_loopg [] 3 (fun g wr => Hid (PI U rb bb mb B k ts t1 c2 vs ns g wr))
 case atStart => exact HI0
 case round =>
  obtain ⟨v, hE, hc⟩ := hrel.out
  clear HI0 hrel
  have HE := Lib.hid hE
  clear hE
  rcases hc with ⟨rfl, g1, g2, g3, g4, g5⟩ | ⟨rfl, g1, g2, g3, g4⟩ | ⟨rfl, g1, g2, g3, g4⟩ | ⟨rfl, g1, g2, g3, g4⟩
  ·have c6 : wr.cell? ⟨rb, 6, none⟩ = some (.bool false) := g1.blk.cell (i := 6) rfl
   have hrl := g1.blk.lt
   have HC : Hid (Calls Tryz.prog 122 #[.pointer (some ⟨rb, 0, none⟩)] wr fun e u' => e = .returned (.tuple #[]) ∧ PI U rb bb mb B k ts t1 c2 vs ns 2 u') := Lib.hid (by
    refine primary_to 53 wr rb bb v ts (pS0 k) B _ g1 HE.out.bv HE.out.beg (by rw [show (pS0 k).at' = k from rfl, HPT.out.k0]; exact ⟨by decide, by decide⟩) (by rw [show (pS0 k).at' = k from rfl, HPT.out.k0]; decide) (.inr (.inr rfl)) (fun e w h => h.1) fun W' hW' => ?_
    refine (atom_open W' rb v ts (pS0 k) B (g1.later hW') [] (Row.later g2 hW') (by simp) _ HPT.out.k0 HPT.out.s0 HPT.out.o0 HPT.out.p1).mono ?_
    rintro e u' ⟨rfl, wv', r1, r2, r3⟩
    have hf : Fr (fun q => q = rb ∨ q = mb) wr u' := (Fr.of_below _ hW').trans (r3.mono fun q _ e => e.elim .inl fun e => by rw [g3] at e; cases e)
    refine ⟨rfl, _, HE.out.step (v' := { v with wv := wv' }) hf rfl rfl HNE.out.2, .inr (.inl ⟨rfl, r1, r2, ⟨g4.map.keep ((r3.block mb (by have := g4.map.lt; have := hW'.size; omega) fun e => e.elim HNE.out.1 fun e => by rw [g3] at e; cases e).trans (hW'.block mb g4.map.lt)), g4.ok⟩, g5⟩)⟩)
   clear g1 g2 g3 g4 g5 HE
   go_wp2_with fail
   refine HC.out.mono ?_
   rintro e w2 ⟨rfl, hI⟩
   have HI := Lib.hid hI
   clear hI c6 hrl HC
   go_wp2_with fail
   go_roundg 2
   case measure => omega
   case rel => exact HI
  ·have c6 : wr.cell? ⟨rb, 6, none⟩ = some (.bool false) := g1.blk.cell (i := 6) rfl
   have hrl := g1.blk.lt
   have HC : Hid (Calls Tryz.prog 122 #[.pointer (some ⟨rb, 0, none⟩)] wr fun e u' => e = .returned (.tuple #[]) ∧ PI U rb bb mb B k ts t1 c2 vs ns 1 u') := Lib.hid (by
    refine (HPR.out wr v g1 HE.out.vb HE.out.bv g3 HE.out.beg g4).mono ?_
    rintro e u' ⟨rfl, nv', x, r1, r2, r3, r4⟩
    refine ⟨rfl, _, HE.out.step (v' := { v with nv := nv', x := x }) r4 rfl rfl HNE.out.2, .inr (.inr (.inl ⟨rfl, r1, Row.keep g2 fun q hq => r4.block q (g2.lt q hq).2 fun e => ?_, r2, r3⟩))⟩
    rcases e with e | e
    ·have := (g2.lt q hq).1; omega
    ·exact g3.map.ne (g2.ty hq) e.symm)
   clear g1 g2 g3 g4 HE
   go_wp2_with fail
   refine HC.out.mono ?_
   rintro e w2 ⟨rfl, hI⟩
   have HI := Lib.hid hI
   clear hI c6 hrl HC
   go_wp2_with fail
   go_roundg 1
   case measure => omega
   case rel => exact HI
  ·have c6 : wr.cell? ⟨rb, 6, none⟩ = some (.bool true) := g1.blk.cell (i := 6) rfl
   have hrl := g1.blk.lt
   have HG := Lib.hid (And.intro g1 (And.intro g2 (And.intro g3 g4)))
   clear g1 g2 g3 g4
   go_wp2_with fail
   refine (operator_stop wr rb v ts (pS2 k t1 c2 vs ns) B HG.out.1 (by rw [show (pS2 k t1 c2 vs ns).at' = k + 3 from rfl, HPT.out.k3]; decide) (by rw [show (pS2 k t1 c2 vs ns).at' = k + 3 from rfl, HPT.out.k3]; decide) HPT.out.n3).mono ?_
   rintro e w2 ⟨rfl, hb2⟩
   have HC : Hid (Calls Tryz.prog 124 #[.pointer (some ⟨rb, 0, none⟩)] w2 fun e u' => e = .returned (.tuple #[]) ∧ PI U rb bb mb B k ts t1 c2 vs ns 0 u') := Lib.hid (by
    have hr2 := Row.later HG.out.2.1 hb2
    refine (back_one w2 rb v ts (pS2 k t1 c2 vs ns) B 1200 (HG.out.1.later hb2) hr2 (fun _ => False) (fun _ h => h.elim) (HG.out.2.2.2.keep (fun _ h => h) fun _ h => h.elim) HPT.out.p3 HPT.out.n3).mono ?_
    rintro e u' ⟨rfl, wv', g, c, r1, r2, r3, r4⟩
    have hn2 := Row.later HG.out.2.2.1 hb2
    refine ⟨rfl, _, HE.out.step (v' := { v with wv := wv', x := ⟨4, 0, [112], some ⟨g, 0, none⟩, 1, c⟩ }) ((Fr.of_below _ hb2).trans (r4.weak fun q hq => .inl hq)) rfl rfl HNE.out.2, .inr (.inr (.inr ⟨rfl, r1, r2, Row.keep hn2 fun q hq => r4.block q (hn2.lt q hq).2 fun e => ?_, r3.keep (fun b hb => hb.elim (fun h => h.elim) fun h => ⟨Nat.le_trans (Nat.le_trans HE.out.fr.size hb2.size) h.1, h.2⟩) fun _ _ => rfl⟩))⟩
    have := (hn2.lt q hq).1
    omega)
   obtain ⟨A4, cap4, hsh⟩ := HG.out.2.1.shape
   have hrd := HG.out.1.later hb2
   have c4 : w2.cell? ⟨rb, 4, none⟩ = some (.slice A4 1 cap4) := (hrd.blk.cell (i := 4) rfl).trans (congrArg some hsh)
   have hrl2 := hrd.blk.lt
   clear hb2 hsh hrd HE HG c6 hrl
   go_wp2_with fail
   refine HC.out.mono ?_
   rintro e w3 ⟨rfl, hI⟩
   have HI := Lib.hid hI
   clear hI c4 hrl2 HC
   go_wp2_with fail
   go_roundg 0
   case measure => omega
   case rel => exact HI
  ·have c6 : wr.cell? ⟨rb, 6, none⟩ = some (.bool true) := g1.blk.cell (i := 6) rfl
   have hrl := g1.blk.lt
   have HG := Lib.hid (And.intro g1 (And.intro g2 (And.intro g3 g4)))
   clear g1 g2 g3 g4
   go_wp2_with fail
   refine (operator_stop wr rb v ts (pS3 k t1 c2 vs ns) B HG.out.1 (by rw [show (pS3 k t1 c2 vs ns).at' = k + 4 from rfl, HPT.out.k4]; decide) (by rw [show (pS3 k t1 c2 vs ns).at' = k + 4 from rfl, HPT.out.k4]; decide) (by unfold isP; rw [show (pS3 k t1 c2 vs ns).at' = k + 4 from rfl, HPT.out.k4]; rfl)).mono ?_
   rintro e w2 ⟨rfl, hb2⟩
   obtain ⟨A4, cap4, hsh⟩ := HG.out.2.1.shape
   have hrd := HG.out.1.later hb2
   have c4 : w2.cell? ⟨rb, 4, none⟩ = some (.slice A4 0 cap4) := (hrd.blk.cell (i := 4) rfl).trans (congrArg some hsh)
   have hrl2 := hrd.blk.lt
   have HRD := Lib.hid hrd
   have HB2 := Lib.hid hb2
   clear hb2 hsh hrd c6 hrl
   go_wp2_with fail
   refine (peek_any w2 rb v ts (pS3 k t1 c2 vs ns) B HRD.out 0 (by omega)).mono ?_
   rintro e w3 ⟨rfl, hb3⟩
   have hk4 := HPT.out.k4
   rw [show (pS3 k t1 c2 vs ns).at' + 0 = k + 4 from rfl]
   obtain ⟨p1, hp1⟩ : ∃ p, p = peekF ts (k + 4) := ⟨_, rfl⟩
   rw [← hp1] at hk4 ⊢
   clear hp1
   obtain ⟨tk, tl, tn, tst, top, tti⟩ := p1
   simp only at hk4
   subst hk4
   simp only [tokW]
   have hK := tok_kindP 7 tl tn ⟨tst.toArray⟩ top tti w3
   have hb23 := HB2.out.trans (hb3.mono HB2.out.size)
   have hr3 := HG.out.1.later hb23
   have hz3 : w3.heap[W.heap.size]? = some (.cells #[.int .i64 0, .int .i64 0, .string ⟨#[]⟩, .slice none 0 0] 27 (0, 0)) := (hb23.block _ (by have := HE.out.fr.size; have := (Array.getElem?_eq_some_iff.1 HZ.out.1).1; omega)).trans ((HE.out.fr.block _ (Array.getElem?_eq_some_iff.1 HZ.out.1).1 fun e => e.elim HZ.out.2.2.1.1 HZ.out.2.2.1.2).trans HZ.out.1)
   obtain ⟨z0, z1, z2, z3, zf⟩ := four_at hz3
   have d7 : w3.cell? ⟨rb, 7, none⟩ = some (.int .i64 v.x.k) := hr3.blk.cell (i := 7) rfl
   have d8 : w3.cell? ⟨rb, 8, none⟩ = some (.int .i64 v.x.n) := hr3.blk.cell (i := 8) rfl
   have d9 : w3.cell? ⟨rb, 9, none⟩ = some (.string ⟨v.x.s.toArray⟩) := hr3.blk.cell (i := 9) rfl
   have d10 : w3.cell? ⟨rb, 10, none⟩ = some (.slice v.x.A v.x.len v.x.cap) := hr3.blk.cell (i := 10) rfl
   have hrl3 := hr3.blk.lt
   have hzl := (Array.getElem?_eq_some_iff.1 hz3).1
   have hzr := HZ.out.2.2.1.1
   have HQ : Hid (P (.returned (tvV v.x)) ((((w3.setCell ⟨W.heap.size, 0, none⟩ (.int .i64 v.x.k)).setCell ⟨W.heap.size, 1, none⟩ (.int .i64 v.x.n)).setCell ⟨W.heap.size, 2, none⟩ (.string ⟨v.x.s.toArray⟩)).setCell ⟨W.heap.size, 3, none⟩ (.slice v.x.A v.x.len v.x.cap))) := Lib.hid (by
    have hn3 := Row.later HG.out.2.2.1 hb23
    have hk : ∀ q, q ≠ W.heap.size → ((((w3.setCell ⟨W.heap.size, 0, none⟩ (.int .i64 v.x.k)).setCell ⟨W.heap.size, 1, none⟩ (.int .i64 v.x.n)).setCell ⟨W.heap.size, 2, none⟩ (.string ⟨v.x.s.toArray⟩)).setCell ⟨W.heap.size, 3, none⟩ (.slice v.x.A v.x.len v.x.cap)).heap[q]? = w3.heap[q]? := fun q hq => blk_set4_ne _ _ _ _ hq
    have hxx := HG.out.2.2.2.keep (w' := w3) (S' := fun b => U.heap.size ≤ b ∧ TyB w3 27 b) (fun b hb => ⟨hb.1, hb.2.keep (hb23.block b hb.2.lt)⟩) fun b hb => hb23.block b hb.2.lt
    have hnU : ∀ b, U.heap.size ≤ b → b ≠ W.heap.size := fun b hb e => by have := (Array.getElem?_eq_some_iff.1 HZ.out.1).1; omega
    have hzw := HZ.out.2.1.size
    have hF : Fr (fun q => q = rb ∨ q = mb) W w3 := (Fr.of_below _ HZ.out.2.1).trans (HE.out.fr.step hb23)
    rw [HPP.out]
    exact ⟨v.x, v, rfl, hr3.keep (hk rb (Ne.symm hzr)) (fun q hq => hk q (by have := hr3.base; have := HZ.out.2.2.2; omega)), Row.keep hn3 (fun q hq => hk q ((hn3.ty hq).ne ⟨_, hz3⟩ (by decide))), hxx.keep (fun b hb => hb.2.keep (hk b (hnU b hb.1))) (fun b hb => hk b (hnU b hb.1)),
     (((hF.setCell (p := ⟨W.heap.size, 0, none⟩) (.inr (Nat.le_refl _)) _).setCell (p := ⟨W.heap.size, 1, none⟩) (.inr (Nat.le_refl _)) _).setCell (p := ⟨W.heap.size, 2, none⟩) (.inr (Nat.le_refl _)) _).setCell (p := ⟨W.heap.size, 3, none⟩) (.inr (Nat.le_refl _)) _⟩)
   have HF := Lib.hid (blk_set4 hz3 rfl (.int .i64 v.x.k) (.int .i64 v.x.n) (.string ⟨v.x.s.toArray⟩) (.slice v.x.A v.x.len v.x.cap))
   obtain ⟨WF, hWF⟩ : ∃ WF, WF = ((((w3.setCell ⟨W.heap.size, 0, none⟩ (.int .i64 v.x.k)).setCell ⟨W.heap.size, 1, none⟩ (.int .i64 v.x.n)).setCell ⟨W.heap.size, 2, none⟩ (.string ⟨v.x.s.toArray⟩)).setCell ⟨W.heap.size, 3, none⟩ (.slice v.x.A v.x.len v.x.cap)) := ⟨_, rfl⟩
   rw [← hWF] at HQ HF
   have HWF := Lib.hid hWF
   clear hWF hb3 hb23 hr3 hz3 HE HG c4 hrl2
   go_wp2_with fail
   rw [← HWF.out]
   obtain ⟨f0, f1, f2, f3, -⟩ := four_at HF.out
   exact bodyPost_ret (v := tvV v.x) (by simp [results, Tryz.results56, go_sem, f0, f1, f2, f3, tvV]) rfl HQ.out
theorem may_p1 {a : Tm} (ha : a.may = true) : (Tm.mk 4 0 [112] [a]).may = true := by
 simp [Tm.may, Tm.mays, mayP, ha]
theorem read_num (w : World) (A : Option Addr) (n c : Nat) (ts : List Tok) (hT : ToksAt w w.heap.size A n ts) (hf : ts.length ≤ 20000) (k bt : Nat) (z : Int) (hp : PTok ts k) (hk : (peekF ts (k + 2)).kind = 3) (hz : (peekF ts (k + 2)).n = z) (h0 : 0 ≤ z) :
    Calls Tryz.prog 23 #[.slice A n c, .int .i64 (k : Nat), .pointer (some ⟨bt, 0, none⟩)] w fun e w' => ReadOut w w' (⟨.mk 4 0 [112] [intT z], [], (peekF ts k).line, ((k + 4 : Nat) : Int) + 1⟩, 0) e := by
 have hkl := peek_lt (ts := ts) (i := k) (by rw [hp.k0]; decide)
 have hkl2 := peek_lt (ts := ts) (i := k + 2) (by rw [hk]; decide)
 refine read_fin w A n c ts hT hf k hkl (by rw [hp.k0]; decide) bt (pS3 k (intT z) 0 [] []) ⟨may_p1 (by simp [intT, Tm.may, Tm.mays, mayP]), by simp [pS3, RdS.done, intT, Tm.size, Tm.sizes]⟩ fun W rb bb mb hb h hV hM h1 h2 h3 => ?_
 refine clause_p W rb bb mb (w.heap.size + 3) k ts _ (intT z) 0 [] [] h rfl rfl rfl rfl hV hM (by omega) ⟨by omega, by omega⟩ hp fun u v g1 g2 g3 g4 g5 g6 => ?_
 refine primary_to 49 u rb bb v ts (pS1 k) (w.heap.size + 3) _ g1 g3 g5 (by rw [show (pS1 k).at' = k + 2 from rfl, hk]; exact ⟨by decide, by decide⟩) (by rw [show (pS1 k).at' = k + 2 from rfl, hk]; decide) (.inl rfl) (fun e w h => h.1) fun W' hW' => ?_
 refine (number_any W' rb v ts (pS1 k) (w.heap.size + 3) (g1.later hW') _ hkl2).mono ?_
 rintro e u' ⟨r1, r2⟩
 rw [show (pS1 k).at' = k + 2 from rfl, hz, if_neg (by omega)] at r2
 obtain ⟨rfl, r2⟩ := r2
 exact ⟨rfl, v.nv, _, r2, by rw [g6]; exact Row.nil _ _ _ _ _, .leaf _ _ _ _ _ _ _ (Nat.zero_le _), (Fr.of_below _ hW').trans (r1.weak fun q hq => .inl hq)⟩
theorem read_var (w : World) (A : Option Addr) (n c : Nat) (ts : List Tok) (hT : ToksAt w w.heap.size A n ts) (hf : ts.length ≤ 20000) (k bt : Nat) (hp : PTok ts k) (hk : (peekF ts (k + 2)).kind = 4) (hs : (peekF ts (k + 2)).s = [88]) :
    Calls Tryz.prog 23 #[.slice A n c, .int .i64 (k : Nat), .pointer (some ⟨bt, 0, none⟩)] w fun e w' => ReadOut w w' (⟨.mk 4 0 [112] [varT 0], [([88], 0)], (peekF ts k).line, ((k + 4 : Nat) : Int) + 1⟩, 0) e := by
 have hkl := peek_lt (ts := ts) (i := k) (by rw [hp.k0]; decide)
 have hkl2 := peek_lt (ts := ts) (i := k + 2) (by rw [hk]; decide)
 refine read_fin w A n c ts hT hf k hkl (by rw [hp.k0]; decide) bt (pS3 k (varT 0) 1 [([88], 0)] [([88], 0)]) ⟨may_p1 (by decide), by simp [pS3, RdS.done, varT, Tm.size, Tm.sizes]⟩ fun W rb bb mb hb h hV hM h1 h2 h3 => ?_
 refine clause_p W rb bb mb (w.heap.size + 3) k ts _ (varT 0) 1 [([88], 0)] [([88], 0)] h rfl rfl rfl rfl hV hM (by omega) ⟨by omega, by omega⟩ hp fun u v g1 g2 g3 g4 g5 g6 => ?_
 refine primary_to 50 u rb bb v ts (pS1 k) (w.heap.size + 3) _ g1 g3 g5 (by rw [show (pS1 k).at' = k + 2 from rfl, hk]; exact ⟨by decide, by decide⟩) (by rw [show (pS1 k).at' = k + 2 from rfl, hk]; decide) (.inr (.inl rfl)) (fun e w h => h.1) fun W' hW' => ?_
 refine (named_new W' rb v ts (pS1 k) (w.heap.size + 3) (g1.later hW') (peekF ts (k + 2)) hkl2 mb g2 ⟨g4.map.keep (hW'.block _ g4.map.lt), g4.ok⟩ (by omega) h1 (by unfold okS; rw [hs]; simp) (by rw [hs]; decide) rfl (show (0 : Int) ≤ 0 by decide) (show (0 : Int) ≤ 1000000 by decide) (by rw [g6]; exact Row.nil _ _ _ _ _) (by simp [pS1, pS0, rdS0, RdS.await, RdS.again, RdS.go, RdS.want]) (by rw [g6]; simp [Value.ownBlock])).mono ?_
 rintro e u' ⟨rfl, nv', r1, r2, r3, r4⟩
 rw [hs] at r1 r2
 exact ⟨rfl, nv', _, r1, r2, .leaf _ _ _ _ _ _ _ (Nat.zero_le _), (Fr.of_below _ hW').trans (r4.mono fun q _ e => e.elim .inl fun e => e.elim .inr fun e => by rw [g6] at e; cases e)⟩
structure LdTok (ts : List Tok) (N : Nat) : Prop where
 le : N ≤ 2
 few : ts.length ≤ 20000
 at' : ∀ q, q < N → PTok ts (5 * q) ∧ (peekF ts (5 * q + 2)).kind = 3 ∧ (peekF ts (5 * q + 2)).n = ((q + 1 : Nat) : Int)
 fin : (peekF ts (5 * N)).kind = 0
theorem ld_none : LdTok [⟨0, 1, 0, [], false, false⟩] 0 := ⟨by decide, by decide, fun q h => absurd h (Nat.not_lt_zero q), by rfl⟩
theorem ld_two : LdTok twoL 2 := ⟨by decide, by decide, fun q h => by
 obtain rfl | rfl : q = 0 ∨ q = 1 := by omega
 ·exact ⟨⟨by rfl, by rfl, by rfl, by rfl, by rfl, by rfl, by rfl, by rfl⟩, by rfl, by rfl⟩
 ·exact ⟨⟨by rfl, by rfl, by rfl, by rfl, by rfl, by rfl, by rfl, by rfl⟩, by rfl, by rfl⟩, by rfl⟩
theorem ask_tok : PTok askL 0 := ⟨by rfl, by rfl, by rfl, by rfl, by rfl, by rfl, by rfl, by rfl⟩
end Go.Proofs.YtjdnigepnfeboaaGreatDoor
