/-
  What the lexer answers at a text of at most 16000 bytes: the tokens, the line and the error of the plain law, in a row of the call's own. Condition: the index package's cell holds a number.
-/
import Derived.Test.YtpiekfkkhgighaaTokW8
import Derived.Test.YtpiekfkkhgighaaTokLe
import Derived.Laws.EntriesVeiled
namespace Go.Proofs.Ytpiekfkkhgighaa
open Go.RowKit
set_option maxRecDepth 100000

/-- What Lex answers. -/
def LexDone (w : World) (T : List UInt8) (e : Ending) (w' : World) : Prop :=
  ∃ v', e = .returned (.tuple #[v', .int .i64 (lexB T).2.1, .int .i64 (lexB T).2.2]) ∧ Row w' w.heap.size 46 6 encTok v' (lexB T).1 ∧ Below w.heap.size w w'
/-- What stands at a round's head. -/
structure LexInv (w : World) (T : List UInt8) (a ln : Nat) (v : Value) (ts : List Tok) (u : World) : Prop where
  lex : LexAt u w.heap.size T a ln a v
  row : Row u (w.heap.size + 1) 46 6 encTok v ts
  below : Below w.heap.size w u
  le : a ≤ T.length
  len : ts.length ≤ a
  ln_le : ln ≤ a + 1
  eq : lexB T = (ts ++ (lexF (T.length + 1) (T.drop a) ln (decide (ts = []))).1, (lexF (T.length + 1) (T.drop a) ln (decide (ts = []))).2)

theorem maxLen_at {w u : World} (h : ∃ m : Int, w.cell? ⟨0, 0, none⟩ = some (.int .i64 m)) (hb : Below w.heap.size w u) :
    (∃ m : Int, u.cell? ⟨0, 0, none⟩ = some (.int .i64 m)) ∧ 0 ≠ w.heap.size := by
  obtain ⟨m, hm⟩ := h
  have hlt := World.block_lt_of_cell? w _ hm
  exact ⟨⟨m, (World.cell?_of_block (hb.block _ hlt)).trans hm⟩, Nat.ne_of_lt hlt⟩

section
variable {w u : World} {T : List UInt8} {a ln k : Nat} {v : Value} {ts : List Tok}
theorem take_len (T : List UInt8) {a k : Nat} (hak : a ≤ k) (hkT : k ≤ T.length) : (T.drop a).length - (T.drop k).length = k - a := by
  rw [List.length_drop, List.length_drop]; omega
theorem LexInv.step (h : LexInv w T a ln v ts u) (hak : a ≤ k) (hkT : k ≤ T.length) (hR : (skipB (T.drop a)).1 = T.drop k) :
    lexF (T.length + 1) (T.drop a) ln (decide (ts = [])) = if (skipB (T.drop a)).2 = false then ([], ((ln + lines ((T.drop a).take (k - a)) : Nat) : Int), 5)
    else if T.drop k = [] then ([⟨0, ((ln + lines ((T.drop a).take (k - a)) : Nat) : Int), 0, [], false, false⟩], 0, 0)
    else match tokF (T.drop k) with
      | none => ([], ((ln + lines ((T.drop a).take (k - a)) : Nat) : Int), 5)
      | some t =>
        (⟨t.kind, ((ln + lines ((T.drop a).take (k - a)) : Nat) : Int), t.n, t.s, decide (((T.drop k).drop t.len).head? = some 40), !(decide (ts = [])) && (T.drop k).length == (T.drop a).length⟩ :: (lexF (T.length + 1) ((T.drop k).drop t.len) (ln + lines ((T.drop a).take (k - a)) + lines ((T.drop k).take t.len)) false).1,
          (lexF (T.length + 1) ((T.drop k).drop t.len) (ln + lines ((T.drop a).take (k - a)) + lines ((T.drop k).take t.len)) false).2) := by
  have hle := h.le
  rw [lexF_step _ _ _ _ (by rw [List.length_drop]; omega), hR, take_len T hak hkT]
  rfl
theorem LexInv.eq_bad (h : LexInv w T a ln v ts u) (hak : a ≤ k) (hkT : k ≤ T.length) (hR : (skipB (T.drop a)).1 = T.drop k) (h2 : (skipB (T.drop a)).2 = false) :
    lexB T = (ts, ((ln + lines ((T.drop a).take (k - a)) : Nat) : Int), 5) := by
  rw [h.eq, h.step hak hkT hR, if_pos h2]; simp
theorem LexInv.eq_end (h : LexInv w T a ln v ts u) (hak : a ≤ k) (hkT : k = T.length) (hR : (skipB (T.drop a)).1 = T.drop k) (h2 : (skipB (T.drop a)).2 = true) :
    lexB T = (ts ++ [⟨0, ((ln + lines ((T.drop a).take (k - a)) : Nat) : Int), 0, [], false, false⟩], 0, 0) := by
  rw [h.eq, h.step hak (Nat.le_of_eq hkT) hR, if_neg (by rw [h2]; exact Bool.noConfusion), if_pos (by rw [hkT]; simp)]
theorem LexInv.eq_none (h : LexInv w T a ln v ts u) (hak : a ≤ k) (hkT : k < T.length) (hR : (skipB (T.drop a)).1 = T.drop k) (h2 : (skipB (T.drop a)).2 = true) (ht : tokF (T.drop k) = none) :
    lexB T = (ts, ((ln + lines ((T.drop a).take (k - a)) : Nat) : Int), 5) := by
  rw [h.eq, h.step hak (Nat.le_of_lt hkT) hR, if_neg (by rw [h2]; exact Bool.noConfusion), if_neg (by intro e; have := congrArg List.length e; rw [List.length_drop] at this; simp at this; omega), ht]; simp
theorem LexInv.eq_go (h : LexInv w T a ln v ts u) (hak : a ≤ k) (hkT : k < T.length) (hR : (skipB (T.drop a)).1 = T.drop k) (h2 : (skipB (T.drop a)).2 = true) {t : TokIs} (ht : tokF (T.drop k) = some t) :
    ∀ ts', ts' = ts ++ [⟨t.kind, ((ln + lines ((T.drop a).take (k - a)) : Nat) : Int), t.n, t.s, openB T (k + t.len), tight ts k a⟩] →
    lexB T = (ts' ++ (lexF (T.length + 1) (T.drop (k + t.len)) (ln + lines ((T.drop a).take (k - a)) + lines ((T.drop k).take t.len)) (decide (ts' = []))).1, (lexF (T.length + 1) (T.drop (k + t.len)) (ln + lines ((T.drop a).take (k - a)) + lines ((T.drop k).take t.len)) (decide (ts' = []))).2) := by
  rintro ts' rfl
  have ha := h.le
  have e1 : (!(decide (ts = [])) && (T.drop k).length == (T.drop a).length) = tight ts k a := by
    unfold tight
    rw [List.length_drop, List.length_drop]
    congr 1
    · simp
    · rw [Bool.eq_iff_iff, beq_iff_eq, beq_iff_eq]; omega
  have e2 : decide ((T.drop (k + t.len)).head? = some 40) = openB T (k + t.len) := by
    unfold openB
    rw [List.head?_drop]
  rw [h.eq, h.step hak (Nat.le_of_lt hkT) hR, if_neg (by rw [h2]; exact Bool.noConfusion), if_neg (by intro e; have := congrArg List.length e; rw [List.length_drop] at this; simp at this; omega), ht]
  simp only [e1, List.drop_drop, e2]
  simp
end

/-- What stands behind the skip. -/
structure LexMid (w : World) (T : List UInt8) (k ln en : Nat) (v : Value) (ts : List Tok) (u : World) : Prop where
  lex : LexAt u w.heap.size T k ln en v
  row : Row u (w.heap.size + 1) 46 6 encTok v ts
  below : Below w.heap.size w u
section
variable {w u u' : World} {T : List UInt8} {a ln k en ln' : Nat} {v : Value} {ts : List Tok}
theorem LexInv.after (h : LexInv w T a ln v ts u) (hl : LexAt u' w.heap.size T k ln' en v) (hF : Fr (· = w.heap.size) u u') : LexMid w T k ln' en v ts u' :=
  ⟨hl, h.row.keep fun b hb => hF.block b (h.row.lt b hb).2 (by have := (h.row.lt b hb).1; omega), h.below.trans (hF.below h.below.size (fun k hk e => by omega))⟩
theorem LexMid.drewN (h : LexMid w T k ln en v ts u) (n : Nat) : LexMid w T k ln en v ts (u.drewN n) := ⟨h.lex.drewN n, h.row.keep fun _ _ => rfl, ⟨h.below.os, h.below.tape, h.below.output, h.below.size, h.below.block⟩⟩
theorem LexMid.later (h : LexMid w T k ln en v ts u) (hb : Below u.heap.size u u') : LexMid w T k ln en v ts u' :=
  ⟨h.lex.later hb, h.row.later hb, h.below.trans (hb.mono h.below.size)⟩
theorem LexMid.ended {w' w9 : World} (h : LexMid w T k ln en v ts u) (hb : Below u.heap.size u w') (hg : w'.grownBy w9 v.ownBlock) : Below w.heap.size w w9 :=
  (h.below.trans (hb.mono h.below.size)).trans ⟨hg.os, hg.tape, hg.output, hg.size, fun i hi => hg.block i (Nat.lt_of_lt_of_le (Nat.lt_of_lt_of_le hi h.below.size) hb.size) (fun e => by have := (h.row.lt i e.symm).1; omega)⟩
theorem LexMid.rowed {w9 : World} {gg cap2 : Nat} {t : Tok} (_ : LexMid w T k ln en v ts u) (hown : w9.ownsRow (w.heap.size + 1) 46 6 (.slice (some ⟨gg, 0, none⟩) (ts.length + 1) cap2) (ts.length + 1) (ts.flatMap encTok ++ encTok t)) :
    Row w9 (w.heap.size + 1) 46 6 encTok (.slice (some ⟨gg, 0, none⟩) (ts.length + 1) cap2) (ts ++ [t]) := ⟨by rw [List.length_append, List.flatMap_append]; simpa using hown⟩
theorem LexMid.again {ts' : List Tok} {v' : Value} (h : LexMid w T k ln en v ts u) (hl : LexAt u' w.heap.size T a ln' a v') (hr : Row u' (w.heap.size + 1) 46 6 encTok v' ts') (hF : Fr (fun b => b = w.heap.size ∨ w.heap.size + 1 ≤ b) u u')
    (h1 : a ≤ T.length) (h2 : ts'.length ≤ a) (h3 : ln' ≤ a + 1) (h4 : lexB T = (ts' ++ (lexF (T.length + 1) (T.drop a) ln' (decide (ts' = []))).1, (lexF (T.length + 1) (T.drop a) ln' (decide (ts' = []))).2)) : LexInv w T a ln' v' ts' u' :=
  ⟨hl, hr, h.below.trans (hF.below h.below.size (fun k hk e => by omega)), h1, h2, h3, h4⟩
theorem ln_bound2 {n : Nat} (h : ln ≤ k + 1) : ln + lines ((T.drop k).take n) ≤ k + n + 1 := by
  have : lines ((T.drop k).take n) ≤ n := Nat.le_trans (List.count_le_length ..) (by rw [List.length_take]; omega)
  omega
theorem ln_bound (h : ln ≤ a + 1) (hak : a ≤ k) : ln + lines ((T.drop a).take (k - a)) ≤ k + 1 := by
  have : lines ((T.drop a).take (k - a)) ≤ k - a := Nat.le_trans (List.count_le_length ..) (by rw [List.length_take]; omega)
  omega
end

set_option maxHeartbeats 4000000 in
theorem lex_any (w : World) (T : List UInt8) (hT : (T.length : Int) ≤ 16000) (hmax : ∃ m : Int, w.cell? ⟨0, 0, none⟩ = some (.int .i64 m)) :
    Calls Try.prog 6 #[.string ⟨T.toArray⟩] w (LexDone w T) := by
  have hT2 : decide (65536 < T.length) = false := decide_eq_false (by omega)
  have hblk : (w.alloc (.cells #[.string ⟨T.toArray⟩, .int .i64 0, .int .i64 1, .int .i64 0, .slice none 0 0, .nilFunc, .nilFunc, .nilFunc, .nilFunc, .nilFunc, .nilFunc] 51)).heap[w.heap.size]? = some (.cells #[.string ⟨T.toArray⟩, .int .i64 0, .int .i64 1, .int .i64 0, .slice none 0 0, .nilFunc, .nilFunc, .nilFunc, .nilFunc, .nilFunc, .nilFunc] 51 (0, 0)) := heap_alloc_new w _
  have hlt : w.heap.size < w.heap.size + 1 := Nat.lt_succ_self _
  obtain ⟨W0, hW0⟩ : ∃ W0, w.alloc (.cells #[.string ⟨T.toArray⟩, .int .i64 0, .int .i64 1, .int .i64 0, .slice none 0 0, .nilFunc, .nilFunc, .nilFunc, .nilFunc, .nilFunc, .nilFunc] 51) = W0 := ⟨_, rfl⟩
  rw [hW0] at hblk
  have f0 : ∀ o, W0.frozen? ⟨w.heap.size, o, none⟩ = false := fun o => by simp [World.frozen?, hblk]
  have c5 : W0.cell? ⟨w.heap.size, 5, none⟩ = some .nilFunc := by rw [cell_of_row W0 w.heap.size 5 _ _ (0, 0) hblk]; rfl
  have c6 : W0.cell? ⟨w.heap.size, 6, none⟩ = some .nilFunc := by rw [cell_of_row W0 w.heap.size 6 _ _ (0, 0) hblk]; rfl
  have c7 : W0.cell? ⟨w.heap.size, 7, none⟩ = some .nilFunc := by rw [cell_of_row W0 w.heap.size 7 _ _ (0, 0) hblk]; rfl
  have c8 : W0.cell? ⟨w.heap.size, 8, none⟩ = some .nilFunc := by rw [cell_of_row W0 w.heap.size 8 _ _ (0, 0) hblk]; rfl
  have c9 : W0.cell? ⟨w.heap.size, 9, none⟩ = some .nilFunc := by rw [cell_of_row W0 w.heap.size 9 _ _ (0, 0) hblk]; rfl
  have c10 : W0.cell? ⟨w.heap.size, 10, none⟩ = some .nilFunc := by rw [cell_of_row W0 w.heap.size 10 _ _ (0, 0) hblk]; rfl
  have HB := Lib.hid hblk
  clear hblk
  go_enter Try.func6, Try.ntmps6
  go_wp2_with fail
  obtain ⟨W1, hW1⟩ : ∃ u, u = ((((((W0.setCell ⟨w.heap.size, 5, none⟩ (.func (.func 17) #[.pointer (some ⟨w.heap.size, 0, none⟩)] #[])).setCell ⟨w.heap.size, 6, none⟩ (.func (.func 18) #[.pointer (some ⟨w.heap.size, 0, none⟩)] #[])).setCell ⟨w.heap.size, 7, none⟩ (.func (.func 19) #[.pointer (some ⟨w.heap.size, 0, none⟩)] #[])).setCell ⟨w.heap.size, 8, none⟩ (.func (.func 20) #[.pointer (some ⟨w.heap.size, 0, none⟩)] #[])).setCell ⟨w.heap.size, 9, none⟩ (.func (.func 21) #[.pointer (some ⟨w.heap.size, 0, none⟩)] #[])).setCell ⟨w.heap.size, 10, none⟩ (.func (.func 22) #[.pointer (some ⟨w.heap.size, 0, none⟩)] #[])) := ⟨_, rfl⟩
  rw [← hW1]
  have HI0 : Hid (LexInv w T 0 1 (.slice none 0 0) [] W1) := by
    rw [hW1]
    refine ⟨⟨setCell_blk (setCell_blk (setCell_blk (setCell_blk (setCell_blk (setCell_blk HB.out _) _) _) _) _) _⟩, Row.nil _ _ _ _ _, ?_, Nat.zero_le _, Nat.zero_le _, Nat.le_refl _, by simp [lexB]⟩
    repeat (refine Below.setCell ?_ (by simp) _)
    rw [← hW0]
    exact (Below.refl _ _).alloc (Nat.le_refl _) _
  clear hW1 hW0 HB f0 c5 c6 c7 c8 c9 c10 hlt W0
  have HM := Lib.hid hmax
  clear hmax
  go_loopg [] (T.length + 1) (fun n wr => ∃ a ln v ts, LexInv w T a ln v ts wr ∧ T.length + 1 ≤ a + n)
  case atStart => exact ⟨0, 1, _, [], HI0.out, by omega⟩
  case round =>
    obtain ⟨a, ln, v, ts, hI, hga⟩ := hrel
    have HI := Lib.hid hI
    have hle := hI.le
    have hlen := hI.len
    have hlnle := hI.ln_le
    obtain ⟨c0, c1, c2, c3, c4, hf⟩ := hI.lex.cells
    clear hI HI0
    obtain ⟨hm, hMb⟩ := maxLen_at HM.out HI.out.below
    have hMB := Lib.hid hMb
    have HM1 := Lib.hid hm
    clear hm hMb
    go_wp2_with fail
    refine (skip_any wr w.heap.size T a ln a v HI.out.lex hle (by omega) (by omega) hMB.out HM1.out).mono ?_
    rintro e w2 ⟨rfl, k, hl2, hF2, hak, hkT, hR1⟩
    have HI2 := Lib.hid (HI.out.after hl2 hF2)
    have hb1 := HI.out.eq_bad hak hkT hR1
    have hln1 : ln + lines ((T.drop a).take (k - a)) ≤ k + 1 := ln_bound hlnle hak
    obtain ⟨L, hL⟩ : ∃ L, ln + lines ((T.drop a).take (k - a)) = L := ⟨_, rfl⟩
    have HR1 := Lib.hid hR1
    have HLX := Lib.hid hL
    rw [hL] at HI2 hb1 hln1
    obtain ⟨ok, hok⟩ : ∃ ok, (skipB (T.drop a)).2 = ok := ⟨_, rfl⟩
    rw [hok] at hb1 ⊢
    have HB1 := Lib.hid hb1
    have HOK := Lib.hid hok
    clear hl2 hF2 hR1 hL hb1 hok c0 c1 c2 c3 c4 hf
    obtain ⟨c0, c1, c2, c3, c4, hf⟩ := HI2.out.lex.cells
    cases ok with
    | false =>
      go_wp2_with fail
      go_quiet (fail)
      obtain ⟨w3, hw3⟩ : ∃ u, u = w2.drewN nq := ⟨_, rfl⟩
      have HI3 := Lib.hid (HI2.out.drewN nq)
      rw [← hw3] at HI3 ⊢
      clear hw3
      go_wp2_with fail
      have e := HB1.out trivial
      refine bodyPost_ret (v := .tuple #[v, .int .i64 (L : Int), .int .i64 5]) (by simp [results, Try.results6, go_sem]) rfl ?_
      refine ⟨v, ?_, ?_, HI3.out.below⟩
      · rw [e]
      · rw [e]; exact HI3.out.row.down (Nat.le_succ _)
    | true =>
      rcases Nat.eq_or_lt_of_le hkT with hk | hk
      · subst hk
        have e := HI.out.eq_end hak rfl HR1.out HOK.out
        rw [HLX.out] at e
        have HE := Lib.hid e
        clear e HB1
        go_wp2_with fail
        go_quiet (fail)
        obtain ⟨w3, hw3⟩ : ∃ u, u = w2.drewN nq := ⟨_, rfl⟩
        have HI3 := Lib.hid (HI2.out.drewN nq)
        rw [← hw3] at HI3 ⊢
        clear hw3 c0 c1 c2 c3 c4 hf HI2
        obtain ⟨c0, c1, c2, c3, c4, hf⟩ := HI3.out.lex.cells
        obtain ⟨A, cap, rfl⟩ := HI3.out.row.shape
        obtain ⟨i0, z0, hi0, hz0, hz1, hz2, hz3⟩ := tok_info
        have hlt0 := HI3.out.lex.lt
        have hlt1 : ts.length ≤ 16000 := by omega
        go_wp2_with fail
        go_region_law
          ((refine step_append_lies _ (by rfl) _ _ _ (by rfl) (w.heap.size + 1) 46 i0 _ 6 48 Try.underlying23 hi0 hz0 hz1 hz2 hz3 (by omega) (.slice A ts.length cap) ts.length (ts.flatMap encTok) (by rfl) (HI3.out.row.later (by (repeat (first | exact Below.refl _ _ | refine Below.drew ?_ | refine Below.alloc ?_ (Nat.le_refl _) _)))).own
              ⟨w3.heap.size, 0, none⟩ 1 1 (encTok ⟨0, (L : Int), 0, [], false, false⟩) (by rfl) (by rfl) (World.news_of_block (cs := (encTok ⟨0, (L : Int), 0, [], false, false⟩).toArray) (t := 46) (fr := (0, 0)) (by exact heap_alloc_new w3 _)) (encTok_one _)
              (by omega) (by unfold maxLen; omega) (by omega) (by simp; omega) (w3.heap.size + 1) (by simp) ?_; intro gg cap2 w9 hown9 hgrow hat9 hlt9))
        all_goals
          go_wp2_with fail
          refine bodyPost_ret (v := .tuple #[.slice (some ⟨gg, 0, none⟩) (ts.length + 1) cap2, .int .i64 0, .int .i64 0]) (by simp [results, Try.results6, go_sem]) rfl ?_
          refine ⟨_, by rw [HE.out], ?_, HI3.out.ended (by (repeat (first | exact Below.refl _ _ | refine Below.drew ?_ | refine Below.alloc ?_ (Nat.le_refl _) _))) hgrow⟩
          rw [HE.out]
          exact (HI3.out.rowed hown9).down (Nat.le_succ _)
      · have hne : ((k : Int) == (T.length : Int)) = false := by rw [beq_eq_false_iff_ne]; omega
        go_wp2_with fail
        go_quiet (fail)
        obtain ⟨w3, hw3⟩ : ∃ u, u = w2.drewN nq := ⟨_, rfl⟩
        have HI3 := Lib.hid (HI2.out.drewN nq)
        rw [← hw3] at HI3 ⊢
        clear hw3 c0 c1 c2 c3 c4 hf HI2 hne
        go_wp2_with fail
        refine (next_any w3 w.heap.size T k L a v HI3.out.lex hk (by omega)).mono ?_
        rintro e w4 ⟨rfl, hb4⟩
        have HI4 := Lib.hid (HI3.out.later hb4)
        clear hb4 HI3
        cases htk : tokF (T.drop k) with
        | none =>
          have e := HI.out.eq_none hak hk HR1.out HOK.out htk
          rw [HLX.out] at e
          have HE := Lib.hid e
          clear e HB1 htk
          simp only [tryV]
          unfold tokV
          obtain ⟨c0, c1, c2, c3, c4, hf⟩ := HI4.out.lex.cells
          have hb4 := HI4.out.lex.lt
          go_wp2_with fail
          go_quiet (fail)
          go_wp2_with fail
          refine bodyPost_ret (v := .tuple #[v, .int .i64 (L : Int), .int .i64 5]) (by simp [results, Try.results6, go_sem]) rfl ?_
          refine ⟨v, by rw [HE.out], ?_, ((HI4.out.later ((Below.refl _ _).alloc (Nat.le_refl _) _)).drewN nq).below⟩
          rw [HE.out]
          exact ((HI4.out.later ((Below.refl _ _).alloc (Nat.le_refl _) _)).drewN nq).row.down (Nat.le_succ _)
        | some t =>
          have hg := HI.out.eq_go hak hk HR1.out HOK.out htk
          rw [HLX.out] at hg
          have HG := Lib.hid hg
          have htp := tokF_pos htk
          have htl := tokF_le htk
          rw [List.length_drop] at htl
          clear hg HB1 htk
          simp only [tryV]
          unfold tokV
          obtain ⟨A, cap, rfl⟩ := HI4.out.row.shape
          obtain ⟨c0, c1, c2, c3, c4, hf⟩ := HI4.out.lex.cells
          have hb4 := HI4.out.lex.lt
          have hmt : ((ts.length : Int) == 16384) = false := by rw [beq_eq_false_iff_ne]; omega
          have hmt2 : (ts.length == 16384) = false := by rw [beq_eq_false_iff_ne]; omega
          go_wp2_with fail
          have HI5 := Lib.hid (HI4.out.later ((Below.refl _ _).alloc (Nat.le_refl _) (.cells #[.int .i64 t.kind, .int .i64 0, .int .i64 t.n, .string ⟨t.s.toArray⟩, .bool false, .bool false] 46)))
          refine (add_any _ (w.heap.size + 1) w.heap.size T k L a _ ts HI5.out.lex HI5.out.row (Nat.lt_succ_self _) HI5.out.lex.lt (by omega) t _ rfl (by omega) (by omega) (by omega)).mono ?_
          rintro e w6 ⟨rfl, v', hl6, hr6, hF6⟩
          have HI6 := Lib.hid (HI5.out.again hl6 hr6 hF6 (by omega) (by simp; omega) (ln_bound2 hln1) (HG.out _ rfl))
          clear hl6 hr6 hF6
          go_wp2_with fail
          go_roundg (T.length + 1 - (k + t.len))
          case measure => have := hga; omega
          case rel => exact ⟨k + t.len, _, _, _, HI6.out, by omega⟩
end Go.Proofs.Ytpiekfkkhgighaa
