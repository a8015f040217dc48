import Derived.Test.YtcallkljcjimiaaGreatDoorJW24
import Derived.Defers
import Derived.Recover
import Derived.Deep.RegionHeld3
namespace Go.Proofs.YtcallkljcjimiaaGreatDoor
open Go.RowKit Go.Maps
set_option maxRecDepth 100000
theorem catch_idle (p q r t : Value) (w : World) :
    CallsD Tryz.prog 54 #[p, q, r, t] .returning w fun e u' w' => e = .returned (.tuple #[]) ∧ u' = .returning ∧ w' = w := by
 refine callsD_of_wpS Tryz.func54 rfl fun c₀ cs hu => ?_
 apply wpS_seq
 apply wpS_region
 simp [wpOpsS, go_sem, recoverD, hu, Tryz.ntmps54, Exit.thenS]
 refine wpS_of_wp ?_
 go_wp2
 cases c₀
 simp_all [bodyPostS, results, Tryz.results54]
def CatchAt (w w' : World) (cb eb : Nat) (line next : Int) : Prop :=
 Fr (fun k => k = cb ∨ k = eb) w w' ∧ w'.heap[cb]? = some (.cells #[.int .i64 0, .int .i64 0, .string ⟨#[]⟩, .slice none 0 0, .slice none 0 0, .int .i64 line, .int .i64 next] 50 (0, 0)) ∧ w'.heap[eb]? = some (.cells #[.int .i64 6] 31 (0, 0))
theorem blk_set7 {w : World} {b : Nat} {x0 x1 x2 x3 x4 x5 x6 : Value} {t : TypeId} (h : w.heap[b]? = some (.cells #[x0, x1, x2, x3, x4, x5, x6] t (0, 0))) (a0 a1 a2 a3 a4 a5 a6 : Value) :
    (((((((w.setCell ⟨b, 0, none⟩ a0).setCell ⟨b, 1, none⟩ a1).setCell ⟨b, 2, none⟩ a2).setCell ⟨b, 3, none⟩ a3).setCell ⟨b, 4, none⟩ a4).setCell ⟨b, 5, none⟩ a5).setCell ⟨b, 6, none⟩ a6).heap[b]? = some (.cells #[a0, a1, a2, a3, a4, a5, a6] t (0, 0)) := by
 rw [blk_put (blk_put (blk_put (blk_put (blk_put (blk_put (blk_put h a0) a1) a2) a3) a4) a5) a6]
 rfl
theorem blk_set7_ne {w : World} {b k : Nat} (a0 a1 a2 a3 a4 a5 a6 : Value) (h : k ≠ b) :
    (((((((w.setCell ⟨b, 0, none⟩ a0).setCell ⟨b, 1, none⟩ a1).setCell ⟨b, 2, none⟩ a2).setCell ⟨b, 3, none⟩ a3).setCell ⟨b, 4, none⟩ a4).setCell ⟨b, 5, none⟩ a5).setCell ⟨b, 6, none⟩ a6).heap[k]? = w.heap[k]? := by
 rw [Below.heap_setCell _ _ _ _ h, Below.heap_setCell _ _ _ _ h, Below.heap_setCell _ _ _ _ h, Below.heap_setCell _ _ _ _ h, Below.heap_setCell _ _ _ _ h, Below.heap_setCell _ _ _ _ h, Below.heap_setCell _ _ _ _ h]
theorem fr_set7 {S : Nat → Prop} {w W : World} (h : Fr S w W) {b : Nat} (hb : S b) (a0 a1 a2 a3 a4 a5 a6 : Value) :
    Fr S w (((((((W.setCell ⟨b, 0, none⟩ a0).setCell ⟨b, 1, none⟩ a1).setCell ⟨b, 2, none⟩ a2).setCell ⟨b, 3, none⟩ a3).setCell ⟨b, 4, none⟩ a4).setCell ⟨b, 5, none⟩ a5).setCell ⟨b, 6, none⟩ a6) :=
 ((((((h.setCell (p := ⟨b, 0, none⟩) (.inl hb) _).setCell (p := ⟨b, 1, none⟩) (.inl hb) _).setCell (p := ⟨b, 2, none⟩) (.inl hb) _).setCell (p := ⟨b, 3, none⟩) (.inl hb) _).setCell (p := ⟨b, 4, none⟩) (.inl hb) _).setCell (p := ⟨b, 5, none⟩) (.inl hb) _).setCell (p := ⟨b, 6, none⟩) (.inl hb) _
theorem catch_b {w W0 w1 : World} {cb eb : Nat} {x0 x1 x2 x3 x4 x5 x6 : Value} (hF : Fr (· = eb) w W0) (hb : Below W0.heap.size W0 w1) (hq : w1.heap[cb]? = some (.cells #[x0, x1, x2, x3, x4, x5, x6] 50 (0, 0))) (hy : w1.heap[eb]? = some (.cells #[.int .i64 6] 31 (0, 0))) (h4 : cb ≠ eb) (L N : Int) :
    CatchAt w (((((((w1.setCell ⟨cb, 0, none⟩ (.int .i64 0)).setCell ⟨cb, 1, none⟩ (.int .i64 0)).setCell ⟨cb, 2, none⟩ (.string ⟨#[]⟩)).setCell ⟨cb, 3, none⟩ (.slice none 0 0)).setCell ⟨cb, 4, none⟩ (.slice none 0 0)).setCell ⟨cb, 5, none⟩ (.int .i64 L)).setCell ⟨cb, 6, none⟩ (.int .i64 N)) cb eb L N :=
 ⟨fr_set7 ((hF.weak fun _ hk => .inr hk).step hb) (.inl rfl) _ _ _ _ _ _ _, blk_set7 hq _ _ _ _ _ _ _, (blk_set7_ne _ _ _ _ _ _ _ (fun e => h4 e.symm)).trans hy⟩
theorem catch_a {w W0 w1 : World} {cb eb : Nat} {x0 x1 x2 x3 x4 x5 x6 y : Value} (hF : Fr (· = eb) w W0) (hb : Below W0.heap.size W0 w1) (hq : w1.heap[cb]? = some (.cells #[x0, x1, x2, x3, x4, x5, x6] 50 (0, 0))) (hy : w1.heap[eb]? = some (.cells #[y] 31 (0, 0))) (h4 : cb ≠ eb) (L N : Int) :
    CatchAt w ((((((((w1.setCell ⟨cb, 0, none⟩ (.int .i64 0)).setCell ⟨cb, 1, none⟩ (.int .i64 0)).setCell ⟨cb, 2, none⟩ (.string ⟨#[]⟩)).setCell ⟨cb, 3, none⟩ (.slice none 0 0)).setCell ⟨cb, 4, none⟩ (.slice none 0 0)).setCell ⟨cb, 5, none⟩ (.int .i64 L)).setCell ⟨cb, 6, none⟩ (.int .i64 N)).setCell ⟨eb, 0, none⟩ (.int .i64 6)) cb eb L N := by
 refine ⟨(fr_set7 ((hF.weak fun _ hk => .inr hk).step hb) (.inl rfl) _ _ _ _ _ _ _).setCell (.inl (.inr rfl)) _, ?_, ?_⟩
 ·rw [Below.heap_setCell _ _ _ _ h4]
  exact blk_set7 hq _ _ _ _ _ _ _
 ·exact blk_put ((blk_set7_ne _ _ _ _ _ _ _ (fun e => h4 e.symm)).trans hy) _
set_option maxHeartbeats 8000000 in
theorem catch_panicking (w : World) (lb pb cb eb rb B n c a : Nat) (A : Option Addr) (ts : List Tok) (x0 x1 x2 x3 x4 x5 x6 y0 : Value) (older : List PanicEntry) (hT : ToksAt w B A n ts) (hB : B ≤ w.heap.size) (hf : ts.length ≤ 20000) (ha : a ≤ 100000)
    (hl : w.cell? ⟨lb, 0, none⟩ = some (.slice A n c)) (hp : w.cell? ⟨pb, 0, none⟩ = some (.pointer (some ⟨rb, 0, none⟩))) (hr : w.cell? ⟨rb, 1, none⟩ = some (.int .i64 (a : Nat)))
    (hc : w.heap[cb]? = some (.cells #[x0, x1, x2, x3, x4, x5, x6] 50 (0, 0))) (he : w.heap[eb]? = some (.cells #[y0] 31 (0, 0))) (_h1 : lb ≠ eb) (_h2 : pb ≠ eb) (_h3 : rb ≠ eb) (h4 : cb ≠ eb) (hBe : B ≤ eb) :
    CallsD Tryz.prog 54 #[.pointer (some ⟨lb, 0, none⟩), .pointer (some ⟨pb, 0, none⟩), .pointer (some ⟨cb, 0, none⟩), .pointer (some ⟨eb, 0, none⟩)] (.panicking ({ v := .iface 192 (.agg #[]), recovered := false } :: older)) w fun e u' w' =>
     e = .returned (.tuple #[]) ∧ u' = .panicking ({ v := .iface 192 (.agg #[]), recovered := true } :: older) ∧ CatchAt w w' cb eb (failedF ts a).line (failedF ts a).next := by
 refine callsD_of_wpS Tryz.func54 rfl fun c₀ cs hu => ?_
 apply wpS_seq
 apply wpS_region
 simp [wpOpsS, go_sem, recoverD, hu, Tryz.ntmps54, Exit.thenS]
 refine wpS_of_wp ?_
 refine wp_mono (Q := bodyPost Tryz.prog Tryz.f54 (fun e w' => e = Ending.returned (.tuple #[]) ∧ CatchAt w w' cb eb (failedF ts a).line (failedF ts a).next)) ?_ (fun e a' w' hq => ?_)
 case refine_2 =>
  cases e with
  | normal =>
   obtain ⟨hd, v, hr, hR⟩ := hq
   exact ⟨hd, _, rfl, v, hr, hR.1, rfl, hR.2⟩
  | ret =>
   obtain ⟨hd, v, hr, hR⟩ := hq
   exact ⟨hd, _, rfl, v, hr, hR.1, rfl, hR.2⟩
  | panic ch =>
   have := hq.2.1
   cases this
  | outgrown =>
   have := hq.1
   cases this
  | exit id => exact hq.elim
  | goto l => exact hq.elim
 have HTW : Hid (∀ W, Fr (· = eb) w W → ToksAt W B A n ts) := Lib.hid fun W hF => hT.keep fun k hk => hF.block k (by omega) (by omega)
 obtain ⟨R, hR⟩ : ∃ R : Ending → World → Prop, R = (fun e w' => e = Ending.returned (.tuple #[]) ∧ CatchAt w w' cb eb (failedF ts a).line (failedF ts a).next) := ⟨_, rfl⟩
 rw [← hR]
 have HR := Lib.hid hR
 obtain ⟨L, hL⟩ : ∃ L, L = (failedF ts a).line := ⟨_, rfl⟩
 obtain ⟨N, hN⟩ : ∃ N, N = (failedF ts a).next := ⟨_, rfl⟩
 have HLN := Lib.hid (And.intro hL hN)
 obtain ⟨k0, k1, k2, k3, k4, k5, k6, kf⟩ := seven_at hc
 have e0 : w.cell? ⟨eb, 0, none⟩ = some y0 := by rw [cell_of_row w eb 0 _ _ (0, 0) he]; rfl
 have ef : ∀ o, w.frozen? ⟨eb, o, none⟩ = false := fun o => by simp [World.frozen?, he]
 have HC := Lib.hid hc
 have HE := Lib.hid he
 have hlw := World.block_lt_of_cell? w _ hl
 have hcw := World.block_lt_of_cell? w _ k0
 have hew := World.block_lt_of_cell? w _ e0
 have hbw : ∀ W : World, w.heap.size = W.heap.size → B ≤ W.heap.size := fun W hW => by omega
 have HBW := Lib.hid hbw
 have HCW : Hid (∀ W, Fr (· = eb) w W → ∀ w1, Below W.heap.size W w1 → w1.heap[cb]? = some (.cells #[x0, x1, x2, x3, x4, x5, x6] 50 (0, 0)) ∧ cb < w1.heap.size) := Lib.hid fun W hF w1 hb =>
  have h5 : w1.heap[cb]? = some (.cells #[x0, x1, x2, x3, x4, x5, x6] 50 (0, 0)) := ((hb.block cb (Nat.lt_of_lt_of_le hcw hF.size)).trans (hF.block cb hcw h4)).trans hc
  ⟨h5, (Array.getElem?_eq_some_iff.1 h5).1⟩
 have HEW : Hid (∀ W, Fr (· = eb) w W → ∀ w1, Below W.heap.size W w1 → eb < w1.heap.size ∧ w1.heap[eb]? = W.heap[eb]?) := Lib.hid fun W hF w1 hb => ⟨Nat.lt_of_lt_of_le (Nat.lt_of_lt_of_le hew hF.size) hb.size, hb.block eb (Nat.lt_of_lt_of_le hew hF.size)⟩
 clear hR hL hN hT hc he hu hbw
 go_wp2_with fail
 go_region_with (refine (failed_any _ B (HBW.out _ (by first | rfl | simp [World.setCell])) A n c ts (HTW.out _ (by (repeat (first | exact Fr.refl _ _ | refine Fr.drew ?_ | refine Fr.setCell ?_ (.inl rfl) _)))) a hf ha).mono ?_; rintro e w1 ⟨rfl, hb⟩; unfold noV; rw [← HLN.out.1, ← HLN.out.2]; have HB1 := Lib.hid hb; obtain ⟨q, ql⟩ := HCW.out _ (by (repeat (first | exact Fr.refl _ _ | refine Fr.drew ?_ | refine Fr.setCell ?_ (.inl rfl) _))) _ hb; obtain ⟨el, ee⟩ := HEW.out _ (by (repeat (first | exact Fr.refl _ _ | refine Fr.drew ?_ | refine Fr.setCell ?_ (.inl rfl) _))) _ hb; (first | (have hy : w1.heap[eb]? = some (.cells #[y0] 31 (0, 0)) := (by rw [ee]; exact HE.out); have EE := Lib.hid hy; have e1 : w1.cell? ⟨eb, 0, none⟩ = some y0 := (by rw [cell_of_row w1 eb 0 _ _ (0, 0) hy]; rfl); have ef1 : ∀ o, w1.frozen? ⟨eb, o, none⟩ = false := (fun o => by simp [World.frozen?, hy]); clear hy) | (have hy : w1.heap[eb]? = some (.cells #[.int .i64 6] 31 (0, 0)) := (by rw [ee]; exact blk_put HE.out _); have EE := Lib.hid hy; have e1 : w1.cell? ⟨eb, 0, none⟩ = some (.int .i64 6) := (by rw [cell_of_row w1 eb 0 _ _ (0, 0) hy]; rfl); have ef1 : ∀ o, w1.frozen? ⟨eb, o, none⟩ = false := (fun o => by simp [World.frozen?, hy]); clear hy)); have HQ1 := Lib.hid q; obtain ⟨q0, q1, q2, q3, q4, q5, q6, qf⟩ := seven_at q; clear hb q ee)
 all_goals
  go_wp2_with fail
  refine bodyPost_end (v := .tuple #[]) (by simp [results, Tryz.results54, go_sem]) rfl ?_
  rw [HR.out, ← HLN.out.1, ← HLN.out.2]
  refine ⟨rfl, ?_⟩
  first
   | exact catch_a (by (repeat (first | exact Fr.refl _ _ | refine Fr.drew ?_ | refine Fr.setCell ?_ (.inl rfl) _))) HB1.out HQ1.out EE.out h4 L N
   | exact catch_b (by (repeat (first | exact Fr.refl _ _ | refine Fr.drew ?_ | refine Fr.setCell ?_ (.inl rfl) _))) HB1.out HQ1.out EE.out h4 L N
def ins (b rb : Nat) (k : Int) (n : Nat) (w w' : World) : Prop :=
 (Instr.mapUpdate 113 (.map (some b)) (.int .i64 k) (.func (.func n) #[.pointer (some ⟨rb, 0, none⟩)] #[])).run Tryz.prog w = .ok () w'
theorem beg_step {w : World} {b rb : Nat} {l : List (Int × Nat)} (h : MapAt w b evI (evF rb) l) (hok : ∀ x ∈ l, okI x.1) (k : Int) (hk : okI k) (n : Nat) :
    ∃ w', ins b rb k n w w' ∧ MapAt w' b evI (evF rb) (mput l k n) ∧ Fr (· = b) w w' ∧ w'.heap.size = w.heap.size := by
 obtain ⟨w', h1, h2, h3, h4⟩ := MapAt.update (P := Tryz.prog) (t := 113) intKE Tryz.underlying113 h hok hk n
 exact ⟨w', h1, h2, (Fr.refl _ _).grown h3 fun g hg => .inl (by cases hg; rfl), h4⟩
theorem beg_fill {w : World} {b rb : Nat} (h : MapAt w b evI (evF rb) ([] : List (Int × Nat))) :
    ∃ w1 w2 w3 w4 w5 w6, ins b rb 3 49 w w1 ∧ ins b rb 4 50 w1 w2 ∧ ins b rb 5 51 w2 w3 ∧ ins b rb 6 52 w3 w4 ∧ ins b rb 1 53 w4 w5 ∧ ins b rb 2 53 w5 w6 ∧
     MapAt w6 b evI (evF rb) begL ∧ Fr (· = b) w w1 ∧ Fr (· = b) w w2 ∧ Fr (· = b) w w3 ∧ Fr (· = b) w w4 ∧ Fr (· = b) w w5 ∧ Fr (· = b) w w6 ∧ w6.heap.size = w.heap.size := by
 have ok : ∀ k : Int, 0 ≤ k → k ≤ 10 → okI k := fun k h1 h2 => ⟨by omega, by omega⟩
 obtain ⟨w1, a1, m1, f1, s1⟩ := beg_step h (fun x hx => by cases hx) 3 (ok 3 (by omega) (by omega)) 49
 obtain ⟨w2, a2, m2, f2, s2⟩ := beg_step m1 (by intro x hx; simp [mput, mget] at hx; subst hx; exact ok _ (by simp) (by simp)) 4 (ok 4 (by omega) (by omega)) 50
 obtain ⟨w3, a3, m3, f3, s3⟩ := beg_step m2 (by intro x hx; simp [mput, mget] at hx; rcases hx with rfl | rfl <;> exact ok _ (by simp) (by simp)) 5 (ok 5 (by omega) (by omega)) 51
 obtain ⟨w4, a4, m4, f4, s4⟩ := beg_step m3 (by intro x hx; simp [mput, mget] at hx; rcases hx with rfl | rfl | rfl <;> exact ok _ (by simp) (by simp)) 6 (ok 6 (by omega) (by omega)) 52
 obtain ⟨w5, a5, m5, f5, s5⟩ := beg_step m4 (by intro x hx; simp [mput, mget] at hx; rcases hx with rfl | rfl | rfl | rfl <;> exact ok _ (by simp) (by simp)) 1 (ok 1 (by omega) (by omega)) 53
 obtain ⟨w6, a6, m6, f6, s6⟩ := beg_step m5 (by intro x hx; simp [mput, mget] at hx; rcases hx with rfl | rfl | rfl | rfl | rfl <;> exact ok _ (by simp) (by simp)) 2 (ok 2 (by omega) (by omega)) 53
 have g2 := f1.trans f2
 have g3 := g2.trans f3
 have g4 := g3.trans f4
 have g5 := g4.trans f5
 refine ⟨w1, w2, w3, w4, w5, w6, a1, a2, a3, a4, a5, a6, ?_, f1, g2, g3, g4, g5, g5.trans f6, by omega⟩
 have e : mput (mput (mput (mput (mput (mput ([] : List (Int × Nat)) 3 49) 4 50) 5 51) 6 52) 1 53) 2 53 = begL := by decide
 rw [← e]
 exact m6
theorem sizes_append : ∀ l r : List Tm, Tm.sizes (l ++ r) = Tm.sizes l + Tm.sizes r
 | [], r => by simp [Tm.sizes]
 | t :: l, r => by rw [List.cons_append, Tm.sizes, Tm.sizes, sizes_append l r]; omega
theorem sizes_one (t : Tm) : Tm.sizes [t] = t.size := by simp [Tm.sizes]
theorem size_comp (s : List UInt8) (l : List Tm) : (compT s l).size = 1 + Tm.sizes l := rfl
theorem size_list : ∀ (l : List Tm) (t : Tm), (listT l t).size = Tm.sizes l + l.length + t.size
 | [], t => by simp [listT, Tm.sizes]
 | x :: l, t => by
  rw [show listT (x :: l) t = compT [46] [x, listT l t] from rfl, size_comp, Tm.sizes, sizes_one, size_list l t, Tm.sizes, List.length_cons]
  omega
theorem sizes_ints : ∀ s : List UInt8, Tm.sizes (s.map fun c => intT c.toNat) = s.length
 | [] => rfl
 | c :: s => by rw [List.map_cons, Tm.sizes, sizes_ints s, List.length_cons]; simp [intT, Tm.size, Tm.sizes]; omega
def potW : List WaitF → Nat
 | [] => 0
 | f :: r => 1 + (Tm.sizes f.l + f.l.length) + potW r
def RdS.pot (s : RdS) : Nat := (if s.hv = true then s.t.size else 0) + potW s.wait
def vol (ts : List Tok) (n : Nat) : Nat := ((ts.take n).map fun t => 2 + 2 * t.s.length).sum
theorem vol_one {ts : List Tok} {n : Nat} (h : n < ts.length) : vol ts (n + 1) = vol ts n + (2 + 2 * (peekF ts n).s.length) := by
 unfold vol peekF
 rw [List.take_succ_eq_append_getElem h, List.map_append, List.sum_append, List.getD_eq_getElem?_getD, List.getElem?_eq_getElem h]
 simp
theorem vol_two {ts : List Tok} {n : Nat} (h : n + 1 < ts.length) : vol ts n + 4 ≤ vol ts (n + 2) := by
 rw [vol_one h, vol_one (show n < ts.length by omega)]
 omega
theorem vol_le1 {ts : List Tok} {n : Nat} (h : n < ts.length) : vol ts n + 2 ≤ vol ts (n + 1) := by
 rw [vol_one h]
 omega
def Pays (ts : List Tok) (p a : Nat) (s' : RdS) : Prop := s'.pot + vol ts a ≤ p + vol ts s'.at'
section
variable {o : OpsF} {ts : List Tok} {s s' : RdS}
theorem pot_done (s : RdS) (t : Tm) (p : Int) : (s.done t p).pot = t.size + potW s.wait := rfl
theorem pot_await (s : RdS) (f : WaitF) (m : Int) : (s.await f m).pot = 0 + (1 + (Tm.sizes f.l + f.l.length) + potW s.wait) := rfl
theorem pot_again (s : RdS) (f : WaitF) (m : Int) : (s.again f m).pot = 0 + (1 + (Tm.sizes f.l + f.l.length) + potW s.wait) := rfl
theorem args_pays {n : List UInt8} (h : argsF ts s n = .ok s') : Pays ts (potW s.wait) s.at' s' := by
 obtain ⟨rfl, h2⟩ := args_ok h
 unfold Pays
 rw [pot_await]
 have := vol_le1 h2
 simp only [Tm.sizes, List.length_nil]
 show _ ≤ _ + vol ts (s.at' + 1)
 rw [go_wait]
 omega
theorem pair_pays {c : UInt8} (hl : s.at' + 1 < ts.length) (h : pairF ts s c = .ok s') : Pays ts (potW s.wait) s.at' s' := by
 unfold pairF at h
 dsimp only at h
 have h2 := vol_two hl
 split at h
 ·have := args_pays h
  unfold Pays at this ⊢
  rw [go_wait, go_at] at this
  omega
 ·injection h with h
  subst h
  unfold Pays
  rw [pot_done, go_wait]
  show _ ≤ _ + vol ts (s.at' + 2)
  have e : (atomT ((peekF ts s.at').s ++ [c])).size = 1 := rfl
  rw [e]
  omega
theorem punct_pays {x : List UInt8} (hl : s.at' < ts.length) (h : punctF ts s x = .ok s') : Pays ts (potW s.wait) s.at' s' := by
 have h1 := vol_le1 hl
 have aw : ∀ (f : WaitF) (m : Int), f.l = [] → Pays ts (potW s.wait) s.at' ((s.go 1).await f m) := fun f m hf => by
  unfold Pays
  rw [pot_await, hf, go_wait]
  show _ ≤ _ + vol ts (s.at' + 1)
  simp only [Tm.sizes, List.length_nil]
  omega
 unfold punctF at h
 split at h
 ·injection h with h
  subst h
  exact aw _ _ rfl
 ·split at h
  ·split at h
   ·rename_i hp
    exact pair_pays (isP_lt hp) h
   ·injection h with h
    subst h
    exact aw _ _ rfl
  ·split at h
   ·split at h
    ·rename_i hp
     exact pair_pays (isP_lt hp) h
    ·injection h with h
     subst h
     exact aw _ _ rfl
   ·cases h
theorem atom_pays {t : Tok} (hl : s.at' < ts.length) (h : atomF o ts s t = .ok s') : Pays ts (potW s.wait) s.at' s' := by
 have h1 := vol_le1 hl
 unfold atomF at h
 dsimp only at h
 split at h
 ·rename_i hc
  have h2 := vol_two (show s.at' + 1 < ts.length from peek_lt (by rw [hc.2.2.1]; decide))
  injection h with h
  subst h
  unfold Pays
  rw [pot_done, go_wait]
  show _ ≤ _ + vol ts (s.at' + 2)
  have e : (intT (negI (peekF ts (s.at' + 1)).n)).size = 1 := rfl
  rw [e]
  omega
 ·split at h
  ·have := args_pays h
   unfold Pays at this ⊢
   rw [go_wait, go_at] at this
   omega
  ·split at h
   ·injection h with h
    subst h
    unfold Pays
    rw [pot_await, go_wait]
    show _ ≤ _ + vol ts (s.at' + 1)
    simp only [Tm.sizes, List.length_nil]
    omega
   ·injection h with h
    subst h
    unfold Pays
    rw [pot_done, go_wait]
    show _ ≤ _ + vol ts (s.at' + 1)
    have e : (atomT t.s).size = 1 := rfl
    rw [e]
    omega
theorem primary_pays (h : primaryF o ts s = .ok s') : Pays ts (potW s.wait) s.at' s' := by
 unfold primaryF at h
 dsimp only at h
 split at h
 ·rename_i hk
  have h1 := vol_le1 (show s.at' < ts.length from peek_lt (by rw [hk]; decide))
  split at h
  ·cases h
  ·injection h with h
   subst h
   unfold Pays
   rw [pot_done, go_wait]
   show _ ≤ _ + vol ts (s.at' + 1)
   have e : (intT (peekF ts s.at').n).size = 1 := rfl
   rw [e]
   omega
 ·split at h
  ·rename_i hk
   have h1 := vol_le1 (show s.at' < ts.length from peek_lt (by rw [hk]; decide))
   injection h with h
   subst h
   obtain ⟨g1, g2, g3⟩ := var_at (s.go 1) (peekF ts s.at').s
   have e : (varF (s.go 1) (peekF ts s.at').s).t.size = 1 := by
    unfold varF
    split
    ·rfl
    ·dsimp only
     split <;> rfl
   unfold Pays RdS.pot
   rw [g1, g2, g3, if_pos rfl, e, go_wait, go_at]
   omega
  ·split at h
   ·rename_i hk
    have h1 := vol_one (show s.at' < ts.length from peek_lt (by rw [hk]; decide))
    injection h with h
    subst h
    unfold Pays
    rw [pot_done, go_wait, size_list, sizes_ints, List.length_map]
    show _ ≤ _ + vol ts (s.at' + 1)
    have e : nilT.size = 1 := rfl
    rw [e]
    omega
   ·split at h
    ·rename_i hk
     exact punct_pays (peek_lt (by rw [hk]; decide)) h
    ·split at h
     ·rename_i hk
      exact atom_pays (peek_lt (by rcases hk with hk | hk <;> rw [hk] <;> decide)) h
     ·cases h
theorem operator_pays (h : operatorF o ts s = some s') : Pays ts (s.t.size + potW s.wait) s.at' s' := by
 unfold operatorF at h
 dsimp only at h
 split at h
 ·cases h
 ·rename_i hk
  have hl : s.at' < ts.length := by
   by_cases h1 : (peekF ts s.at').kind = 1
   ·exact peek_lt (by rw [h1]; decide)
   ·by_cases h2 : (peekF ts s.at').kind = 2
    ·exact peek_lt (by rw [h2]; decide)
    ·cases h3 : isP ts s.at' 44 with
     | true => exact isP_lt h3
     | false => exact absurd ⟨h1, h2, h3⟩ hk
  have h1 := vol_le1 hl
  split at h
  ·injection h with h
   subst h
   unfold Pays
   rw [pot_await, go_wait]
   show _ ≤ _ + vol ts (s.at' + 1)
   simp only [sizes_one, List.length_cons, List.length_nil]
   omega
  ·split at h
   ·injection h with h
    subst h
    unfold Pays
    rw [pot_done, go_wait, size_comp, sizes_one]
    show _ ≤ _ + vol ts (s.at' + 1)
    omega
   ·cases h
theorem backG_pays {f : WaitF} (h : backG ts s f = .ok s') : Pays ts (s.t.size + (1 + (Tm.sizes f.l + f.l.length) + potW s.wait)) s.at' s' := by
 have ex : ∀ (c : UInt8) (g : RdS → RdS) (k : Nat), (s.expect ts c).map g = .ok s' → (∀ x, (g x).at' = x.at') → (g (s.go 1)).pot ≤ k → k ≤ s.t.size + (1 + (Tm.sizes f.l + f.l.length) + potW s.wait) + 2 → Pays ts (s.t.size + (1 + (Tm.sizes f.l + f.l.length) + potW s.wait)) s.at' s' := fun c g k h1 h2 h3 h4 => by
  obtain ⟨rfl, h5⟩ := expect_map h1
  have := vol_le1 h5
  unfold Pays
  rw [h2]
  show _ ≤ _ + vol ts (s.at' + 1)
  omega
 have ag : ∀ (g : WaitF), s.at' < ts.length → g.l = f.l ++ [s.t] → s' = (s.go 1).again g 999 → Pays ts (s.t.size + (1 + (Tm.sizes f.l + f.l.length) + potW s.wait)) s.at' s' := fun g h1 h2 h3 => by
  subst h3
  have := vol_le1 h1
  unfold Pays
  rw [pot_again, h2, sizes_append, sizes_one, List.length_append, List.length_cons, List.length_nil, go_wait]
  show _ ≤ _ + vol ts (s.at' + 1)
  omega
 unfold backG at h
 split at h
 ·exact ex 41 _ (s.t.size + potW s.wait) h (fun _ => rfl) (Nat.le_refl _) (by omega)
 ·split at h
  ·exact ex 125 _ (1 + s.t.size + potW s.wait) h (fun _ => rfl) (by rw [pot_done, size_comp, sizes_one]; exact Nat.le_refl _) (by omega)
  ·split at h
   ·injection h with h
    subst h
    unfold Pays
    rw [pot_done, size_comp, sizes_one]
    show _ ≤ _ + vol ts s.at'
    omega
   ·split at h
    ·injection h with h
     subst h
     unfold Pays
     rw [pot_done, size_comp, sizes_append, sizes_one]
     show _ ≤ _ + vol ts s.at'
     omega
    ·split at h
     ·dsimp only at h
      split at h
      ·rename_i hp
       injection h with h
       exact ag _ (isP_lt hp) rfl h.symm
      ·exact ex 41 _ (1 + (Tm.sizes f.l + s.t.size) + potW s.wait) h (fun _ => rfl) (by rw [pot_done, size_comp, sizes_append, sizes_one]; exact Nat.le_refl _) (by omega)
     ·split at h
      ·dsimp only at h
       split at h
       ·rename_i hp
        injection h with h
        exact ag _ (isP_lt hp) rfl h.symm
       ·split at h
        ·rename_i hp
         injection h with h
         exact ag _ (isP_lt hp) rfl h.symm
        ·exact ex 93 _ (Tm.sizes f.l + s.t.size + (f.l.length + 1) + 1 + potW s.wait) h (fun _ => rfl) (by rw [pot_done, size_list, sizes_append, sizes_one, List.length_append]; exact Nat.le_refl _) (by omega)
      ·split at h
       ·exact ex 93 _ (Tm.sizes f.l + f.l.length + s.t.size + potW s.wait) h (fun _ => rfl) (by rw [pot_done, size_list]; exact Nat.le_refl _) (by omega)
       ·injection h with h
        subst h
        unfold Pays RdS.pot
        split <;> omega
theorem round_pays (h : roundF o ts s = .on s') : s'.pot + vol ts s.at' ≤ s.pot + vol ts s'.at' := by
 unfold roundF at h
 split at h
 ·rename_i hv
  cases hp : primaryF o ts s with
  | error a => rw [hp] at h; cases h
  | ok x =>
   rw [hp] at h
   injection h with h
   subst h
   have := primary_pays hp
   unfold Pays at this
   have hs : s.pot = 0 + potW s.wait := by unfold RdS.pot; rw [if_neg (by rw [hv]; decide)]
   omega
 ·rename_i hv
  have hs : s.pot = s.t.size + potW s.wait := by unfold RdS.pot; rw [if_pos (by simpa using hv)]
  split at h
  ·rename_i x hx
   injection h with h
   subst h
   have := operator_pays hx
   unfold Pays at this
   omega
  ·split at h
   ·rename_i f r hw
    cases hb : backF ts s f r with
    | error a => rw [hb] at h; cases h
    | ok x =>
     rw [hb] at h
     injection h with h
     subst h
     have := backG_pays (s := { s with wait := r, most := f.most }) hb
     unfold Pays at this
     rw [hw] at hs
     simp only [potW] at hs
     simp only at this
     omega
   ·split at h
    ·cases h
    ·cases h
end
theorem fin_of {o : OpsF} {ts : List Tok} {s s1 : RdS} (h : roundF o ts s = .fin s1) : s1 = s ∧ s.hv = true := by
 unfold roundF at h
 split at h
 ·cases hp : primaryF o ts s <;> rw [hp] at h <;> cases h
 ·rename_i hv
  split at h
  ·cases h
  ·split at h
   ·rename_i f r hw
    cases hb : backF ts s f r <;> rw [hb] at h <;> cases h
   ·split at h
    ·cases h
    ·injection h with h
     exact ⟨h.symm, by simpa using hv⟩
theorem end_pays (o : OpsF) (ts : List Tok) : ∀ (n : Nat) (s sf : RdS), leftF ts s ≤ n → endF o ts s = .fin sf → sf.pot + vol ts s.at' ≤ s.pot + vol ts sf.at' ∧ sf.hv = true := by
 intro n
 induction n with
 | zero =>
  intro s sf hn he
  rw [end_step] at he
  cases hr : roundF o ts s with
  | on s1 => have := round_less hr; omega
  | bad a => rw [hr] at he; cases he
  | fin s1 =>
   rw [hr] at he
   have hx : s1 = sf := by injection he
   subst hx
   obtain ⟨rfl, h2⟩ := fin_of hr
   exact ⟨Nat.le_refl _, h2⟩
 | succ n ih =>
  intro s sf hn he
  rw [end_step] at he
  cases hr : roundF o ts s with
  | on s1 =>
   rw [hr] at he
   simp only at he
   have h1 := round_less hr
   have h2 := round_pays hr
   obtain ⟨h3, h4⟩ := ih s1 sf (by omega) he
   exact ⟨by omega, h4⟩
  | bad a => rw [hr] at he; cases he
  | fin s1 =>
   rw [hr] at he
   have hx : s1 = sf := by injection he
   subst hx
   obtain ⟨rfl, h2⟩ := fin_of hr
   exact ⟨Nat.le_refl _, h2⟩
theorem sum_le : ∀ (l : List Nat) (k : Nat), (l.take k).sum ≤ l.sum
 | [], k => by simp
 | x :: l, 0 => by simp
 | x :: l, k + 1 => by
  have := sum_le l k
  simp only [List.take_succ_cons, List.sum_cons]
  omega
theorem vol_all (ts : List Tok) (n : Nat) : vol ts n ≤ vol ts ts.length := by
 unfold vol
 rw [List.take_length, List.map_take]
 exact sum_le _ _
theorem deep_le_size : ∀ t : Tm, t.deep ≤ t.size
 | .mk k n s l => by
  rw [Tm.deep, Tm.size]
  have : ∀ l : List Tm, (∀ t ∈ l, t.deep ≤ t.size) → Tm.deeps l ≤ Tm.sizes l := by
   intro l
   induction l with
   | nil => intro _; simp [Tm.deeps, Tm.sizes]
   | cons x r ih =>
    intro h
    have h1 := h x (List.mem_cons_self ..)
    have h2 := ih fun t ht => h t (List.mem_cons_of_mem _ ht)
    rw [Tm.deeps, Tm.sizes]
    omega
  have := this l (fun t _ => deep_le_size t)
  omega
theorem read_small {o : OpsF} {ts : List Tok} {i : Nat} {sf : RdS} (h : endF o ts (startF i) = .fin sf) : sf.t.size ≤ vol ts ts.length ∧ sf.t.deep ≤ vol ts ts.length := by
 obtain ⟨h1, h2⟩ := end_pays o ts _ (startF i) sf (Nat.le_refl _) h
 have h3 := vol_all ts sf.at'
 have h4 : (startF i).pot = 0 := rfl
 have h5 : sf.pot = sf.t.size + potW sf.wait := by unfold RdS.pot; rw [if_pos h2]
 have h6 := deep_le_size sf.t
 omega
end Go.Proofs.YtcallkljcjimiaaGreatDoor
