import Derived.Test.YtiffopheamnngaaGreatDoorJT15
namespace Go.Proofs.YtiffopheamnngaaGreatDoor
open Go.RowKit Go.Maps
set_option maxRecDepth 100000
theorem catch_idle (p q r t : Value) (w : World) :
    CallsD Tryz.prog 32 #[p, q, r, t] .returning w fun e u' w' => e = .returned (.tuple #[]) ∧ u' = .returning ∧ w' = w := by
 refine callsD_of_wpS Tryz.func32 rfl fun c₀ cs hu => ?_
 apply wpS_seq
 apply wpS_region
 simp [wpOpsS, go_sem, recoverD, hu, Tryz.ntmps32, Exit.thenS]
 refine wpS_of_wp ?_
 go_wp2
 cases c₀
 simp_all [bodyPostS, results, Tryz.results32]
def CatchAt (w w' : World) (cb eb : Nat) (line next : Int) : Prop :=
 Fr (fun k => k = cb ∨ k = eb) w w' ∧ w'.heap[cb]? = some (.cells #[.int .i64 0, .int .i64 0, .string ⟨#[]⟩, .slice none 0 0, .slice none 0 0, .int .i64 line, .int .i64 next] 37 (0, 0)) ∧ w'.heap[eb]? = some (.cells #[.int .i64 6] 29 (0, 0))
theorem blk_set7 {w : World} {b : Nat} {x0 x1 x2 x3 x4 x5 x6 : Value} {t : TypeId} (h : w.heap[b]? = some (.cells #[x0, x1, x2, x3, x4, x5, x6] t (0, 0))) (a0 a1 a2 a3 a4 a5 a6 : Value) :
    (((((((w.setCell ⟨b, 0, none⟩ a0).setCell ⟨b, 1, none⟩ a1).setCell ⟨b, 2, none⟩ a2).setCell ⟨b, 3, none⟩ a3).setCell ⟨b, 4, none⟩ a4).setCell ⟨b, 5, none⟩ a5).setCell ⟨b, 6, none⟩ a6).heap[b]? = some (.cells #[a0, a1, a2, a3, a4, a5, a6] t (0, 0)) := by
 rw [blk_put (blk_put (blk_put (blk_put (blk_put (blk_put (blk_put h a0) a1) a2) a3) a4) a5) a6]
 rfl
theorem blk_set7_ne {w : World} {b k : Nat} (a0 a1 a2 a3 a4 a5 a6 : Value) (h : k ≠ b) :
    (((((((w.setCell ⟨b, 0, none⟩ a0).setCell ⟨b, 1, none⟩ a1).setCell ⟨b, 2, none⟩ a2).setCell ⟨b, 3, none⟩ a3).setCell ⟨b, 4, none⟩ a4).setCell ⟨b, 5, none⟩ a5).setCell ⟨b, 6, none⟩ a6).heap[k]? = w.heap[k]? := by
 rw [Below.heap_setCell _ _ _ _ h, Below.heap_setCell _ _ _ _ h, Below.heap_setCell _ _ _ _ h, Below.heap_setCell _ _ _ _ h, Below.heap_setCell _ _ _ _ h, Below.heap_setCell _ _ _ _ h, Below.heap_setCell _ _ _ _ h]
theorem fr_set7 {S : Nat → Prop} {w W : World} (h : Fr S w W) {b : Nat} (hb : S b) (a0 a1 a2 a3 a4 a5 a6 : Value) :
    Fr S w (((((((W.setCell ⟨b, 0, none⟩ a0).setCell ⟨b, 1, none⟩ a1).setCell ⟨b, 2, none⟩ a2).setCell ⟨b, 3, none⟩ a3).setCell ⟨b, 4, none⟩ a4).setCell ⟨b, 5, none⟩ a5).setCell ⟨b, 6, none⟩ a6) :=
 ((((((h.setCell (p := ⟨b, 0, none⟩) (.inl hb) _).setCell (p := ⟨b, 1, none⟩) (.inl hb) _).setCell (p := ⟨b, 2, none⟩) (.inl hb) _).setCell (p := ⟨b, 3, none⟩) (.inl hb) _).setCell (p := ⟨b, 4, none⟩) (.inl hb) _).setCell (p := ⟨b, 5, none⟩) (.inl hb) _).setCell (p := ⟨b, 6, none⟩) (.inl hb) _
theorem catch_b {w W0 w1 : World} {cb eb : Nat} {x0 x1 x2 x3 x4 x5 x6 : Value} (hF : Fr (· = eb) w W0) (hb : Below W0.heap.size W0 w1) (hq : w1.heap[cb]? = some (.cells #[x0, x1, x2, x3, x4, x5, x6] 37 (0, 0))) (hy : w1.heap[eb]? = some (.cells #[.int .i64 6] 29 (0, 0))) (h4 : cb ≠ eb) (L N : Int) :
    CatchAt w (((((((w1.setCell ⟨cb, 0, none⟩ (.int .i64 0)).setCell ⟨cb, 1, none⟩ (.int .i64 0)).setCell ⟨cb, 2, none⟩ (.string ⟨#[]⟩)).setCell ⟨cb, 3, none⟩ (.slice none 0 0)).setCell ⟨cb, 4, none⟩ (.slice none 0 0)).setCell ⟨cb, 5, none⟩ (.int .i64 L)).setCell ⟨cb, 6, none⟩ (.int .i64 N)) cb eb L N :=
 ⟨fr_set7 ((hF.weak fun _ hk => .inr hk).step hb) (.inl rfl) _ _ _ _ _ _ _, blk_set7 hq _ _ _ _ _ _ _, (blk_set7_ne _ _ _ _ _ _ _ (fun e => h4 e.symm)).trans hy⟩
theorem catch_a {w W0 w1 : World} {cb eb : Nat} {x0 x1 x2 x3 x4 x5 x6 y : Value} (hF : Fr (· = eb) w W0) (hb : Below W0.heap.size W0 w1) (hq : w1.heap[cb]? = some (.cells #[x0, x1, x2, x3, x4, x5, x6] 37 (0, 0))) (hy : w1.heap[eb]? = some (.cells #[y] 29 (0, 0))) (h4 : cb ≠ eb) (L N : Int) :
    CatchAt w ((((((((w1.setCell ⟨cb, 0, none⟩ (.int .i64 0)).setCell ⟨cb, 1, none⟩ (.int .i64 0)).setCell ⟨cb, 2, none⟩ (.string ⟨#[]⟩)).setCell ⟨cb, 3, none⟩ (.slice none 0 0)).setCell ⟨cb, 4, none⟩ (.slice none 0 0)).setCell ⟨cb, 5, none⟩ (.int .i64 L)).setCell ⟨cb, 6, none⟩ (.int .i64 N)).setCell ⟨eb, 0, none⟩ (.int .i64 6)) cb eb L N := by
 refine ⟨(fr_set7 ((hF.weak fun _ hk => .inr hk).step hb) (.inl rfl) _ _ _ _ _ _ _).setCell (.inl (.inr rfl)) _, ?_, ?_⟩
 ·rw [Below.heap_setCell _ _ _ _ h4]
  exact blk_set7 hq _ _ _ _ _ _ _
 ·exact blk_put ((blk_set7_ne _ _ _ _ _ _ _ (fun e => h4 e.symm)).trans hy) _
set_option maxHeartbeats 8000000 in
theorem catch_panicking (w : World) (lb pb cb eb rb B n c a : Nat) (A : Option Addr) (ts : List Tok) (x0 x1 x2 x3 x4 x5 x6 y0 : Value) (older : List PanicEntry) (hT : ToksAt w B A n ts) (hB : B ≤ w.heap.size) (hf : ts.length ≤ 20000) (ha : a ≤ 100000)
    (hl : w.cell? ⟨lb, 0, none⟩ = some (.slice A n c)) (hp : w.cell? ⟨pb, 0, none⟩ = some (.pointer (some ⟨rb, 0, none⟩))) (hr : w.cell? ⟨rb, 1, none⟩ = some (.int .i64 (a : Nat)))
    (hc : w.heap[cb]? = some (.cells #[x0, x1, x2, x3, x4, x5, x6] 37 (0, 0))) (he : w.heap[eb]? = some (.cells #[y0] 29 (0, 0))) (_h1 : lb ≠ eb) (_h2 : pb ≠ eb) (_h3 : rb ≠ eb) (h4 : cb ≠ eb) (hBe : B ≤ eb) :
    CallsD Tryz.prog 32 #[.pointer (some ⟨lb, 0, none⟩), .pointer (some ⟨pb, 0, none⟩), .pointer (some ⟨cb, 0, none⟩), .pointer (some ⟨eb, 0, none⟩)] (.panicking ({ v := .iface 145 (.agg #[]), recovered := false } :: older)) w fun e u' w' =>
     e = .returned (.tuple #[]) ∧ u' = .panicking ({ v := .iface 145 (.agg #[]), recovered := true } :: older) ∧ CatchAt w w' cb eb (failedF ts a).line (failedF ts a).next := by
 refine callsD_of_wpS Tryz.func32 rfl fun c₀ cs hu => ?_
 apply wpS_seq
 apply wpS_region
 simp [wpOpsS, go_sem, recoverD, hu, Tryz.ntmps32, Exit.thenS]
 refine wpS_of_wp ?_
 refine wp_mono (Q := bodyPost Tryz.prog Tryz.f32 (fun e w' => e = Ending.returned (.tuple #[]) ∧ CatchAt w w' cb eb (failedF ts a).line (failedF ts a).next)) ?_ (fun e a' w' hq => ?_)
 case refine_2 =>
  cases e with
  | normal =>
   obtain ⟨hd, v, hr, hR⟩ := hq
   exact ⟨hd, _, rfl, v, hr, hR.1, rfl, hR.2⟩
  | ret =>
   obtain ⟨hd, v, hr, hR⟩ := hq
   exact ⟨hd, _, rfl, v, hr, hR.1, rfl, hR.2⟩
  | panic ch =>
   have := hq.2.1
   cases this
  | outgrown =>
   have := hq.1
   cases this
  | exit id => exact hq.elim
  | goto l => exact hq.elim
 have HTW : Hid (∀ W, Fr (· = eb) w W → ToksAt W B A n ts) := Lib.hid fun W hF => hT.keep fun k hk => hF.block k (by omega) (by omega)
 obtain ⟨R, hR⟩ : ∃ R : Ending → World → Prop, R = (fun e w' => e = Ending.returned (.tuple #[]) ∧ CatchAt w w' cb eb (failedF ts a).line (failedF ts a).next) := ⟨_, rfl⟩
 rw [← hR]
 have HR := Lib.hid hR
 obtain ⟨L, hL⟩ : ∃ L, L = (failedF ts a).line := ⟨_, rfl⟩
 obtain ⟨N, hN⟩ : ∃ N, N = (failedF ts a).next := ⟨_, rfl⟩
 have HLN := Lib.hid (And.intro hL hN)
 obtain ⟨k0, k1, k2, k3, k4, k5, k6, kf⟩ := seven_at hc
 have e0 : w.cell? ⟨eb, 0, none⟩ = some y0 := by rw [cell_of_row w eb 0 _ _ (0, 0) he]; rfl
 have ef : ∀ o, w.frozen? ⟨eb, o, none⟩ = false := fun o => by simp [World.frozen?, he]
 have HC := Lib.hid hc
 have HE := Lib.hid he
 have hlw := World.block_lt_of_cell? w _ hl
 have hcw := World.block_lt_of_cell? w _ k0
 have hew := World.block_lt_of_cell? w _ e0
 have hbw : ∀ W : World, w.heap.size = W.heap.size → B ≤ W.heap.size := fun W hW => by omega
 have HBW := Lib.hid hbw
 have HCW : Hid (∀ W, Fr (· = eb) w W → ∀ w1, Below W.heap.size W w1 → w1.heap[cb]? = some (.cells #[x0, x1, x2, x3, x4, x5, x6] 37 (0, 0)) ∧ cb < w1.heap.size) := Lib.hid fun W hF w1 hb =>
  have h5 : w1.heap[cb]? = some (.cells #[x0, x1, x2, x3, x4, x5, x6] 37 (0, 0)) := ((hb.block cb (Nat.lt_of_lt_of_le hcw hF.size)).trans (hF.block cb hcw h4)).trans hc
  ⟨h5, (Array.getElem?_eq_some_iff.1 h5).1⟩
 have HEW : Hid (∀ W, Fr (· = eb) w W → ∀ w1, Below W.heap.size W w1 → eb < w1.heap.size ∧ w1.heap[eb]? = W.heap[eb]?) := Lib.hid fun W hF w1 hb => ⟨Nat.lt_of_lt_of_le (Nat.lt_of_lt_of_le hew hF.size) hb.size, hb.block eb (Nat.lt_of_lt_of_le hew hF.size)⟩
 clear hR hL hN hT hc he hu hbw
 go_wp2_with fail
 go_region_with (refine (failed_any _ B (HBW.out _ (by first | rfl | simp [World.setCell])) A n c ts (HTW.out _ (by (repeat (first | exact Fr.refl _ _ | refine Fr.drew ?_ | refine Fr.setCell ?_ (.inl rfl) _)))) a hf ha).mono ?_; rintro e w1 ⟨rfl, hb⟩; unfold noV; rw [← HLN.out.1, ← HLN.out.2]; have HB1 := Lib.hid hb; obtain ⟨q, ql⟩ := HCW.out _ (by (repeat (first | exact Fr.refl _ _ | refine Fr.drew ?_ | refine Fr.setCell ?_ (.inl rfl) _))) _ hb; obtain ⟨el, ee⟩ := HEW.out _ (by (repeat (first | exact Fr.refl _ _ | refine Fr.drew ?_ | refine Fr.setCell ?_ (.inl rfl) _))) _ hb; (first | (have hy : w1.heap[eb]? = some (.cells #[y0] 29 (0, 0)) := (by rw [ee]; exact HE.out); have EE := Lib.hid hy; have e1 : w1.cell? ⟨eb, 0, none⟩ = some y0 := (by rw [cell_of_row w1 eb 0 _ _ (0, 0) hy]; rfl); have ef1 : ∀ o, w1.frozen? ⟨eb, o, none⟩ = false := (fun o => by simp [World.frozen?, hy]); clear hy) | (have hy : w1.heap[eb]? = some (.cells #[.int .i64 6] 29 (0, 0)) := (by rw [ee]; exact blk_put HE.out _); have EE := Lib.hid hy; have e1 : w1.cell? ⟨eb, 0, none⟩ = some (.int .i64 6) := (by rw [cell_of_row w1 eb 0 _ _ (0, 0) hy]; rfl); have ef1 : ∀ o, w1.frozen? ⟨eb, o, none⟩ = false := (fun o => by simp [World.frozen?, hy]); clear hy)); have HQ1 := Lib.hid q; obtain ⟨q0, q1, q2, q3, q4, q5, q6, qf⟩ := seven_at q; clear hb q ee)
 all_goals
  go_wp2_with fail
  refine bodyPost_end (v := .tuple #[]) (by simp [results, Tryz.results32, go_sem]) rfl ?_
  rw [HR.out, ← HLN.out.1, ← HLN.out.2]
  refine ⟨rfl, ?_⟩
  first
   | exact catch_a (by (repeat (first | exact Fr.refl _ _ | refine Fr.drew ?_ | refine Fr.setCell ?_ (.inl rfl) _))) HB1.out HQ1.out EE.out h4 L N
   | exact catch_b (by (repeat (first | exact Fr.refl _ _ | refine Fr.drew ?_ | refine Fr.setCell ?_ (.inl rfl) _))) HB1.out HQ1.out EE.out h4 L N
theorem readQ_at {o : OpsF} {ts : List Tok} {k : Nat} {x : Tm} {p : Int} {q : QS} {bad : Bool} (hk : k < ts.length) (hd : (peekF ts k).kind ≠ 0) (h : Says (termQ o ts (ts.length + 1) 1200 ⟨k, 0, []⟩) bad (x, p) q) :
    readQ o ts (k : Int) = if (bad || (peekF ts q.at').kind != 7) = true then (failedF ts q.at', 6)
     else if x.may = false then (⟨noTm, [], (peekF ts k).line, (q.at' : Int) + 1⟩, 3)
     else if 2000 < x.deep then (⟨noTm, [], (peekF ts k).line, (q.at' : Int) + 1⟩, 4)
     else if 20000 < x.size then (⟨noTm, [], (peekF ts k).line, (q.at' : Int) + 1⟩, 3)
     else (⟨x, q.names, (peekF ts k).line, (q.at' : Int) + 1⟩, 0) := by
 unfold readQ
 rw [Int.toNat_natCast, if_neg (by
  rintro (h | h | h)
  ·omega
  ·omega
  ·exact hd h)]
 cases hx : termQ o ts (ts.length + 1) 1200 ⟨k, 0, []⟩ with
 | error a =>
  rw [hx] at h
  obtain ⟨rfl, rfl⟩ := h
  rfl
 | ok r =>
  rw [hx] at h
  obtain ⟨rfl, rfl⟩ := h
  simp only [Bool.false_or, bne_iff_ne]
theorem start_rq {w U : World} {A : Option Addr} {c : Nat} {ts : List Tok} (hT : ToksAt w w.heap.size A ts.length ts) (hf : ts.length ≤ 20000) {k : Nat} (hk : k < ts.length) {rt : Nat} {es : List (OpK × OpV)} {L : List DefT} (hTab : RTab w rt L) (hag : Agree es L) (hL : L.length ≤ 1000)
    (hsh : ∀ t ∈ ts, t.s.length ≤ 1000000) (hnm : ∀ t ∈ ts, -9223372036854775808 ≤ t.n ∧ t.n ≤ 9223372036854775807)
    (o : Obj) (hU : U = (w.alloc o).alloc (.cells #[.slice A ts.length c, .int .i64 (k : Nat), .pointer (some ⟨rt, 0, none⟩), .int .i64 0, .slice none 0 0, .bool false] 79)) :
    RqAt ⟨w.heap.size + 1, w.heap.size, ts, es, L, A, c, rt⟩ U (.slice none 0 0) ⟨k, 0, []⟩ false := by
 have hb : Below w.heap.size w U := by rw [hU]; exact ((Below.refl _ _).alloc (Nat.le_refl _) _).alloc (by simp) _
 refine ⟨⟨?_, hT.keep fun k hk => hb.block k hk, Nat.le_succ _, hf, Nat.le_of_lt hk, hTab.tabB.keep fun k hk => hb.block k hk, hag, hL, ⟨Int.le_refl _, by simp only; omega⟩, Nat.zero_le _, hsh, hnm⟩, Row.nil _ _ _ _ _⟩
 rw [hU]
 have := heap_alloc_new (w.alloc o) (.cells #[.slice A ts.length c, .int .i64 (k : Nat), .pointer (some ⟨rt, 0, none⟩), .int .i64 0, .slice none 0 0, .bool false] 79)
 rwa [World.size_alloc] at this
theorem failed_is {ts : List Tok} {a : Nat} (ha : a ≤ ts.length) : failedF ts a = ⟨noTm, [], (peekF ts a).line, (behindF (ts.drop a) a : Int)⟩ := by
 unfold failedF
 by_cases h : ts.length ≤ a
 ·have e : a = ts.length := by omega
  rw [if_pos h, behind_end e]
  have hp : peekF ts a = noTok := by unfold peekF; rw [List.getD_eq_getElem?_getD, List.getElem?_eq_none (by omega)]; rfl
  rw [hp, e]
  rfl
 ·rw [if_neg h]
theorem ways_at {r : ClauseF × Int} {t : Tm} {l : List (List UInt8 × Int)} {L N ck : Int} (hk : ck = if t.may = false then 2 else if 2000 < t.deep then 4 else if 20000 < t.size then 3 else 0)
    (h : r = if t.may = false then (⟨noTm, [], L, N⟩, 3) else if 2000 < t.deep then (⟨noTm, [], L, N⟩, 4) else if 20000 < t.size then (⟨noTm, [], L, N⟩, 3) else (⟨t, l, L, N⟩, 0)) :
    (ck = 2 ∧ r = (⟨noTm, [], L, N⟩, 3)) ∨ (ck = 4 ∧ r = (⟨noTm, [], L, N⟩, 4)) ∨ (ck = 3 ∧ r = (⟨noTm, [], L, N⟩, 3)) ∨ (ck = 0 ∧ r = (⟨t, l, L, N⟩, 0)) := by
 by_cases h1 : t.may = false
 ·rw [if_pos h1] at hk h
  exact .inl ⟨hk, h⟩
 rw [if_neg h1] at hk h
 by_cases h2 : 2000 < t.deep
 ·rw [if_pos h2] at hk h
  exact .inr (.inl ⟨hk, h⟩)
 rw [if_neg h2] at hk h
 by_cases h3 : 20000 < t.size
 ·rw [if_pos h3] at hk h
  exact .inr (.inr (.inl ⟨hk, h⟩))
 rw [if_neg h3] at hk h
 exact .inr (.inr (.inr ⟨hk, h⟩))
structure FlInv (w : World) (ts : List Tok) (X : Nat) (L : Int) (bc k : Nat) (wr : World) : Prop where
 below : Below w.heap.size w wr
 res : wr.heap[w.heap.size]? = some (.cells #[.int .i64 0, .int .i64 0, .string ⟨#[]⟩, .slice none 0 0, .slice none 0 0, .int .i64 0, .int .i64 0] 42 (0, 0))
 blk : wr.heap[bc]? = some (.cells #[.int .i64 0, .int .i64 0, .string ⟨#[]⟩, .slice none 0 0, .slice none 0 0, .int .i64 L, .int .i64 (k : Int)] 42 (0, 0))
 ge : w.heap.size < bc
 le : k ≤ ts.length
 ans : X = behindF (ts.drop k) k
theorem FlInv.step {w wr : World} {ts : List Tok} {X bc k : Nat} {L : Int} (h : FlInv w ts X L bc k wr) (hk : k < ts.length) (h7 : ts[k].kind ≠ 7) (h0 : ts[k].kind ≠ 0) : FlInv w ts X L bc (k + 1) (wr.setCell ⟨bc, 6, none⟩ (.int .i64 ((k : Int) + 1))) := by
 refine ⟨h.below.setCell (p := ⟨bc, 6, none⟩) (Nat.le_of_lt h.ge) _, ?_, ?_, h.ge, hk, ?_⟩
 ·rw [Below.heap_setCell _ _ _ _ (by have := h.ge; show w.heap.size ≠ bc; omega)]
  exact h.res
 ·exact blk_put h.blk _
 ·have := behind_at hk
  rw [if_neg h7, if_neg h0] at this
  exact h.ans.trans this
theorem none_out {w W : World} (h : Below w.heap.size w W) {r : ClauseF × Int} {L N er : Int} (hr : r = (⟨noTm, [], L, N⟩, er)) (a0 a1 a2 a3 a4 a5 a6 : Value) :
    ReadQ w (((((((W.setCell ⟨w.heap.size, 0, none⟩ a0).setCell ⟨w.heap.size, 1, none⟩ a1).setCell ⟨w.heap.size, 2, none⟩ a2).setCell ⟨w.heap.size, 3, none⟩ a3).setCell ⟨w.heap.size, 4, none⟩ a4).setCell ⟨w.heap.size, 5, none⟩ a5).setCell ⟨w.heap.size, 6, none⟩ a6) r (.returned (.tuple #[.agg #[.int .i64 0, .int .i64 0, .string ⟨#[]⟩, .slice none 0 0, .slice none 0 0, .int .i64 L, .int .i64 N], .int .i64 er])) := by
 subst hr
 exact ⟨cl_below h w.heap.size (Nat.le_refl _) _ _ _ _ _ _ _, ⟨0, 0, [], none, 0, 0⟩, .slice none 0 0, 0, rfl, .leaf _ _ _ _ _ _ _ (Nat.zero_le _), Row.nil _ _ _ _ _⟩
theorem some_out {w W W' : World} {bc B : Nat} {x : TV} {t : Tm} {nv : Value} {l : List (List UInt8 × Int)} {r : ClauseF × Int} {L N : Int} (hr : r = (⟨t, l, L, N⟩, 0)) (hC : TyQ W 42 bc) (hR : TyQ W 42 w.heap.size)
    (hT : TermS W (TyQ W 34) x t) (hN : Row W B 83 2 encBi nv l) (hW : ∀ k, k ≠ bc → k ≠ w.heap.size → W'.heap[k]? = W.heap[k]?) (hB : Below w.heap.size w W') :
    ReadQ w W' r (.returned (.tuple #[.agg #[.int .i64 x.k, .int .i64 x.n, .string ⟨x.s.toArray⟩, .slice x.A x.len x.cap, nv, .int .i64 L, .int .i64 N], .int .i64 0])) := by
 subst hr
 refine ⟨hB, x, nv, B, rfl, ?_, ?_⟩
 ·have h : TermS W' (TyQ W' 34) x t := hT.keep (fun b hb => hb.keep (hW b (hb.ne hC (by decide)) (hb.ne hR (by decide)))) fun b hb => hW b (hb.ne hC (by decide)) (hb.ne hR (by decide))
  exact h.at fun b hb => hb.lt
 ·exact Row.keep hN fun k hk => hW k ((hN.tyq hk).ne hC (by decide)) ((hN.tyq hk).ne hR (by decide))
theorem q5_keep {w w' : World} {cb : Nat} {p0 p1 p2 p3 p4 : Addr} {x0 x1 x2 x3 x4 : Value} (h : w.cell? p0 = some x0 ∧ w.cell? p1 = some x1 ∧ w.cell? p2 = some x2 ∧ w.cell? p3 = some x3 ∧ w.cell? p4 = some x4)
    (hb : ∀ k, k ≠ cb → w'.heap[k]? = w.heap[k]?) (n0 : p0.block ≠ cb) (n1 : p1.block ≠ cb) (n2 : p2.block ≠ cb) (n3 : p3.block ≠ cb) (n4 : p4.block ≠ cb) : w'.cell? p0 = some x0 ∧ w'.cell? p1 = some x1 ∧ w'.cell? p2 = some x2 ∧ w'.cell? p3 = some x3 ∧ w'.cell? p4 = some x4 :=
 ⟨(World.cell?_of_block (hb _ n0)).trans h.1, (World.cell?_of_block (hb _ n1)).trans h.2.1, (World.cell?_of_block (hb _ n2)).trans h.2.2.1, (World.cell?_of_block (hb _ n3)).trans h.2.2.2.1, (World.cell?_of_block (hb _ n4)).trans h.2.2.2.2⟩
theorem q5_drew {w : World} {p0 p1 p2 p3 p4 : Addr} {x0 x1 x2 x3 x4 : Option Value} (h : w.cell? p0 = x0 ∧ w.cell? p1 = x1 ∧ w.cell? p2 = x2 ∧ w.cell? p3 = x3 ∧ w.cell? p4 = x4) : w.drew.cell? p0 = x0 ∧ w.drew.cell? p1 = x1 ∧ w.drew.cell? p2 = x2 ∧ w.drew.cell? p3 = x3 ∧ w.drew.cell? p4 = x4 := h
theorem cl_belowW {w W : World} (h : Below w.heap.size w W) (a0 a1 a2 a3 a4 a5 a6 : Value) :
    Below w.heap.size w (((((((W.setCell ⟨w.heap.size, 0, none⟩ a0).setCell ⟨w.heap.size, 1, none⟩ a1).setCell ⟨w.heap.size, 2, none⟩ a2).setCell ⟨w.heap.size, 3, none⟩ a3).setCell ⟨w.heap.size, 4, none⟩ a4).setCell ⟨w.heap.size, 5, none⟩ a5).setCell ⟨w.heap.size, 6, none⟩ a6) := cl_below h _ (Nat.le_refl _) _ _ _ _ _ _ _
theorem alloc_kept {v u : World} {cs : Array Value} {t : TypeId} (h : Below (v.alloc (.cells cs t)).heap.size (v.alloc (.cells cs t)) u) : u.heap[v.heap.size]? = some (.cells cs t (0, 0)) :=
 (h.block _ (by rw [World.size_alloc]; omega)).trans (heap_alloc_new _ _)
theorem alloc_keptD {v u : World} {cs : Array Value} {t : TypeId} (h : Below (v.alloc (.cells cs t)).drew.heap.size (v.alloc (.cells cs t)).drew u) : u.heap[v.heap.size]? = some (.cells cs t (0, 0)) :=
 (h.block _ (show v.heap.size < (v.alloc (.cells cs t)).heap.size by rw [World.size_alloc]; omega)).trans (heap_alloc_new v (.cells cs t))
theorem tok_kindQ (a b c : Int) (d : ByteArray) (e f : Bool) (w : World) : (Instr.field 48 (.agg #[.int .i64 a, .int .i64 b, .int .i64 c, .string d, .bool e, .bool f]) 0).run Tryz.prog w = .ok (.int .i64 a) w := by kernel_rfl
theorem tok_lineQ (a b c : Int) (d : ByteArray) (e f : Bool) (w : World) : (Instr.field 48 (.agg #[.int .i64 a, .int .i64 b, .int .i64 c, .string d, .bool e, .bool f]) 1).run Tryz.prog w = .ok (.int .i64 b) w := by kernel_rfl
def badQ (o : OpsF) (ts : List Tok) (k : Nat) : Bool :=
 match termQ o ts (ts.length + 1) 1200 ⟨k, 0, []⟩ with
 | .error _ => true
 | .ok r => (peekF ts r.2.at').kind != 7
theorem badQ_is {o : OpsF} {ts : List Tok} {k : Nat} {x : Tm} {p : Int} {q : QS} {bad : Bool} (h : Says (termQ o ts (ts.length + 1) 1200 ⟨k, 0, []⟩) bad (x, p) q) : badQ o ts k = (bad || (peekF ts q.at').kind != 7) := by
 unfold badQ
 cases hx : termQ o ts (ts.length + 1) 1200 ⟨k, 0, []⟩ with
 | error a =>
  rw [hx] at h
  obtain ⟨rfl, -⟩ := h
  rfl
 | ok r =>
  rw [hx] at h
  obtain ⟨rfl, rfl⟩ := h
  rfl
end Go.Proofs.YtiffopheamnngaaGreatDoor
