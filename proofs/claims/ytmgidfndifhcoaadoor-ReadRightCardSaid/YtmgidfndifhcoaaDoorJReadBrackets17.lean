import Derived.Test.YtmgidfndifhcoaaDoorJReadBrackets16
import Derived.Defers
import Derived.Recover
import Derived.Deep.RegionHeld3
import Derived.Test.YtmgidfndifhcoaaDoorJReadBrackets08
import Derived.Test.YtmgidfndifhcoaaDoorJReadBrackets04
import Derived.LoopTactic
import Derived.Deep.LoopGhost
import Derived.IntWalk
/-
  Read's deferred closure: what it does where the reader gave up, and where it did not. Conditions: the captured variables hold what is named.
-/
namespace Go.Proofs.YtmgidfndifhcoaaDoor
open Go.RowKit Go.Maps
set_option maxRecDepth 100000

theorem catch_idle (p q r t : Value) (w : World) :
    CallsD Tryd.prog 36 #[p, q, r, t] .returning w fun e u' w' => e = .returned (.tuple #[]) ∧ u' = .returning ∧ w' = w := by
  refine callsD_of_wpS Tryd.func36 rfl fun c₀ cs hu => ?_
  apply wpS_seq
  apply wpS_region
  simp [wpOpsS, go_sem, recoverD, hu, Tryd.ntmps36, Exit.thenS]
  refine wpS_of_wp ?_
  go_wp2
  cases c₀
  simp_all [bodyPostS, results, Tryd.results36]

/-- What the closure writes. -/
def CatchAt (w w' : World) (cb eb : Nat) (line next : Int) : Prop :=
  Fr (fun k => k = cb ∨ k = eb) w w' ∧ w'.heap[cb]? = some (.cells #[.int .i64 0, .int .i64 0, .string ⟨#[]⟩, .slice none 0 0, .slice none 0 0, .int .i64 line, .int .i64 next] 28 (0, 0)) ∧ w'.heap[eb]? = some (.cells #[.int .i64 6] 29 (0, 0))

theorem blk_set7 {w : World} {b : Nat} {x0 x1 x2 x3 x4 x5 x6 : Value} {t : TypeId} (h : w.heap[b]? = some (.cells #[x0, x1, x2, x3, x4, x5, x6] t (0, 0))) (a0 a1 a2 a3 a4 a5 a6 : Value) :
    (((((((w.setCell ⟨b, 0, none⟩ a0).setCell ⟨b, 1, none⟩ a1).setCell ⟨b, 2, none⟩ a2).setCell ⟨b, 3, none⟩ a3).setCell ⟨b, 4, none⟩ a4).setCell ⟨b, 5, none⟩ a5).setCell ⟨b, 6, none⟩ a6).heap[b]? = some (.cells #[a0, a1, a2, a3, a4, a5, a6] t (0, 0)) := by
  rw [blk_put (blk_put (blk_put (blk_put (blk_put (blk_put (blk_put h a0) a1) a2) a3) a4) a5) a6]
  rfl
theorem blk_set7_ne {w : World} {b k : Nat} (a0 a1 a2 a3 a4 a5 a6 : Value) (h : k ≠ b) :
    (((((((w.setCell ⟨b, 0, none⟩ a0).setCell ⟨b, 1, none⟩ a1).setCell ⟨b, 2, none⟩ a2).setCell ⟨b, 3, none⟩ a3).setCell ⟨b, 4, none⟩ a4).setCell ⟨b, 5, none⟩ a5).setCell ⟨b, 6, none⟩ a6).heap[k]? = w.heap[k]? := by
  rw [Below.heap_setCell _ _ _ _ h, Below.heap_setCell _ _ _ _ h, Below.heap_setCell _ _ _ _ h, Below.heap_setCell _ _ _ _ h, Below.heap_setCell _ _ _ _ h, Below.heap_setCell _ _ _ _ h, Below.heap_setCell _ _ _ _ h]
theorem fr_set7 {S : Nat → Prop} {w W : World} (h : Fr S w W) {b : Nat} (hb : S b) (a0 a1 a2 a3 a4 a5 a6 : Value) :
    Fr S w (((((((W.setCell ⟨b, 0, none⟩ a0).setCell ⟨b, 1, none⟩ a1).setCell ⟨b, 2, none⟩ a2).setCell ⟨b, 3, none⟩ a3).setCell ⟨b, 4, none⟩ a4).setCell ⟨b, 5, none⟩ a5).setCell ⟨b, 6, none⟩ a6) :=
  ((((((h.setCell (p := ⟨b, 0, none⟩) (.inl hb) _).setCell (p := ⟨b, 1, none⟩) (.inl hb) _).setCell (p := ⟨b, 2, none⟩) (.inl hb) _).setCell (p := ⟨b, 3, none⟩) (.inl hb) _).setCell (p := ⟨b, 4, none⟩) (.inl hb) _).setCell (p := ⟨b, 5, none⟩) (.inl hb) _).setCell (p := ⟨b, 6, none⟩) (.inl hb) _
theorem catch_b {w W0 w1 : World} {cb eb : Nat} {x0 x1 x2 x3 x4 x5 x6 : Value} (hF : Fr (· = eb) w W0) (hb : Below W0.heap.size W0 w1) (hq : w1.heap[cb]? = some (.cells #[x0, x1, x2, x3, x4, x5, x6] 28 (0, 0))) (hy : w1.heap[eb]? = some (.cells #[.int .i64 6] 29 (0, 0))) (h4 : cb ≠ eb) (L N : Int) :
    CatchAt w (((((((w1.setCell ⟨cb, 0, none⟩ (.int .i64 0)).setCell ⟨cb, 1, none⟩ (.int .i64 0)).setCell ⟨cb, 2, none⟩ (.string ⟨#[]⟩)).setCell ⟨cb, 3, none⟩ (.slice none 0 0)).setCell ⟨cb, 4, none⟩ (.slice none 0 0)).setCell ⟨cb, 5, none⟩ (.int .i64 L)).setCell ⟨cb, 6, none⟩ (.int .i64 N)) cb eb L N :=
  ⟨fr_set7 ((hF.weak fun _ hk => .inr hk).step hb) (.inl rfl) _ _ _ _ _ _ _, blk_set7 hq _ _ _ _ _ _ _, (blk_set7_ne _ _ _ _ _ _ _ (fun e => h4 e.symm)).trans hy⟩
theorem catch_a {w W0 w1 : World} {cb eb : Nat} {x0 x1 x2 x3 x4 x5 x6 y : Value} (hF : Fr (· = eb) w W0) (hb : Below W0.heap.size W0 w1) (hq : w1.heap[cb]? = some (.cells #[x0, x1, x2, x3, x4, x5, x6] 28 (0, 0))) (hy : w1.heap[eb]? = some (.cells #[y] 29 (0, 0))) (h4 : cb ≠ eb) (L N : Int) :
    CatchAt w ((((((((w1.setCell ⟨cb, 0, none⟩ (.int .i64 0)).setCell ⟨cb, 1, none⟩ (.int .i64 0)).setCell ⟨cb, 2, none⟩ (.string ⟨#[]⟩)).setCell ⟨cb, 3, none⟩ (.slice none 0 0)).setCell ⟨cb, 4, none⟩ (.slice none 0 0)).setCell ⟨cb, 5, none⟩ (.int .i64 L)).setCell ⟨cb, 6, none⟩ (.int .i64 N)).setCell ⟨eb, 0, none⟩ (.int .i64 6)) cb eb L N := by
  refine ⟨(fr_set7 ((hF.weak fun _ hk => .inr hk).step hb) (.inl rfl) _ _ _ _ _ _ _).setCell (.inl (.inr rfl)) _, ?_, ?_⟩
  · rw [Below.heap_setCell _ _ _ _ h4]
    exact blk_set7 hq _ _ _ _ _ _ _
  · exact blk_put ((blk_set7_ne _ _ _ _ _ _ _ (fun e => h4 e.symm)).trans hy) _

set_option maxHeartbeats 8000000 in
theorem catch_panicking (w : World) (lb pb cb eb rb B n c a : Nat) (A : Option Addr) (ts : List Tok) (x0 x1 x2 x3 x4 x5 x6 y0 : Value) (older : List PanicEntry) (hT : ToksAt w B A n ts) (hB : B ≤ w.heap.size) (hf : ts.length ≤ 20000) (ha : a ≤ 100000)
    (hl : w.cell? ⟨lb, 0, none⟩ = some (.slice A n c)) (hp : w.cell? ⟨pb, 0, none⟩ = some (.pointer (some ⟨rb, 0, none⟩))) (hr : w.cell? ⟨rb, 1, none⟩ = some (.int .i64 (a : Nat)))
    (hc : w.heap[cb]? = some (.cells #[x0, x1, x2, x3, x4, x5, x6] 28 (0, 0))) (he : w.heap[eb]? = some (.cells #[y0] 29 (0, 0))) (_h1 : lb ≠ eb) (_h2 : pb ≠ eb) (_h3 : rb ≠ eb) (h4 : cb ≠ eb) (hBe : B ≤ eb) :
    CallsD Tryd.prog 36 #[.pointer (some ⟨lb, 0, none⟩), .pointer (some ⟨pb, 0, none⟩), .pointer (some ⟨cb, 0, none⟩), .pointer (some ⟨eb, 0, none⟩)] (.panicking ({ v := .iface 146 (.agg #[]), recovered := false } :: older)) w fun e u' w' =>
      e = .returned (.tuple #[]) ∧ u' = .panicking ({ v := .iface 146 (.agg #[]), recovered := true } :: older) ∧ CatchAt w w' cb eb (failedF ts a).line (failedF ts a).next := by
  refine callsD_of_wpS Tryd.func36 rfl fun c₀ cs hu => ?_
  apply wpS_seq
  apply wpS_region
  simp [wpOpsS, go_sem, recoverD, hu, Tryd.ntmps36, Exit.thenS]
  refine wpS_of_wp ?_
  refine wp_mono (Q := bodyPost Tryd.prog Tryd.f36 (fun e w' => e = Ending.returned (.tuple #[]) ∧ CatchAt w w' cb eb (failedF ts a).line (failedF ts a).next)) ?_ (fun e a' w' hq => ?_)
  case refine_2 =>
    cases e with
    | normal =>
      obtain ⟨hd, v, hr, hR⟩ := hq
      exact ⟨hd, _, rfl, v, hr, hR.1, rfl, hR.2⟩
    | ret =>
      obtain ⟨hd, v, hr, hR⟩ := hq
      exact ⟨hd, _, rfl, v, hr, hR.1, rfl, hR.2⟩
    | panic ch =>
      have := hq.2.1
      cases this
    | outgrown =>
      have := hq.1
      cases this
    | exit id => exact hq.elim
    | goto l => exact hq.elim
  have HTW : Hid (∀ W, Fr (· = eb) w W → ToksAt W B A n ts) := Lib.hid fun W hF => hT.keep fun k hk => hF.block k (by omega) (by omega)
  obtain ⟨R, hR⟩ : ∃ R : Ending → World → Prop, R = (fun e w' => e = Ending.returned (.tuple #[]) ∧ CatchAt w w' cb eb (failedF ts a).line (failedF ts a).next) := ⟨_, rfl⟩
  rw [← hR]
  have HR := Lib.hid hR
  obtain ⟨L, hL⟩ : ∃ L, L = (failedF ts a).line := ⟨_, rfl⟩
  obtain ⟨N, hN⟩ : ∃ N, N = (failedF ts a).next := ⟨_, rfl⟩
  have HLN := Lib.hid (And.intro hL hN)
  obtain ⟨k0, k1, k2, k3, k4, k5, k6, kf⟩ := seven_at hc
  have e0 : w.cell? ⟨eb, 0, none⟩ = some y0 := by rw [cell_of_row w eb 0 _ _ (0, 0) he]; rfl
  have ef : ∀ o, w.frozen? ⟨eb, o, none⟩ = false := fun o => by simp [World.frozen?, he]
  have HC := Lib.hid hc
  have HE := Lib.hid he
  have hlw := World.block_lt_of_cell? w _ hl
  have hcw := World.block_lt_of_cell? w _ k0
  have hew := World.block_lt_of_cell? w _ e0
  have hbw : ∀ W : World, w.heap.size = W.heap.size → B ≤ W.heap.size := fun W hW => by omega
  have HBW := Lib.hid hbw
  have HCW : Hid (∀ W, Fr (· = eb) w W → ∀ w1, Below W.heap.size W w1 → w1.heap[cb]? = some (.cells #[x0, x1, x2, x3, x4, x5, x6] 28 (0, 0)) ∧ cb < w1.heap.size) := Lib.hid fun W hF w1 hb =>
    have h5 : w1.heap[cb]? = some (.cells #[x0, x1, x2, x3, x4, x5, x6] 28 (0, 0)) := ((hb.block cb (Nat.lt_of_lt_of_le hcw hF.size)).trans (hF.block cb hcw h4)).trans hc
    ⟨h5, (Array.getElem?_eq_some_iff.1 h5).1⟩
  have HEW : Hid (∀ W, Fr (· = eb) w W → ∀ w1, Below W.heap.size W w1 → eb < w1.heap.size ∧ w1.heap[eb]? = W.heap[eb]?) := Lib.hid fun W hF w1 hb => ⟨Nat.lt_of_lt_of_le (Nat.lt_of_lt_of_le hew hF.size) hb.size, hb.block eb (Nat.lt_of_lt_of_le hew hF.size)⟩
  clear hR hL hN hT hc he hu hbw
  go_wp2_with fail
  go_region_with (refine (failed_any _ B (HBW.out _ (by first | rfl | simp [World.setCell])) A n c ts (HTW.out _ (by (repeat (first | exact Fr.refl _ _ | refine Fr.drew ?_ | refine Fr.setCell ?_ (.inl rfl) _)))) a hf ha).mono ?_; rintro e w1 ⟨rfl, hb⟩; unfold noV; rw [← HLN.out.1, ← HLN.out.2]; have HB1 := Lib.hid hb; obtain ⟨q, ql⟩ := HCW.out _ (by (repeat (first | exact Fr.refl _ _ | refine Fr.drew ?_ | refine Fr.setCell ?_ (.inl rfl) _))) _ hb; obtain ⟨el, ee⟩ := HEW.out _ (by (repeat (first | exact Fr.refl _ _ | refine Fr.drew ?_ | refine Fr.setCell ?_ (.inl rfl) _))) _ hb; (first | (have hy : w1.heap[eb]? = some (.cells #[y0] 29 (0, 0)) := (by rw [ee]; exact HE.out); have EE := Lib.hid hy; have e1 : w1.cell? ⟨eb, 0, none⟩ = some y0 := (by rw [cell_of_row w1 eb 0 _ _ (0, 0) hy]; rfl); have ef1 : ∀ o, w1.frozen? ⟨eb, o, none⟩ = false := (fun o => by simp [World.frozen?, hy]); clear hy) | (have hy : w1.heap[eb]? = some (.cells #[.int .i64 6] 29 (0, 0)) := (by rw [ee]; exact blk_put HE.out _); have EE := Lib.hid hy; have e1 : w1.cell? ⟨eb, 0, none⟩ = some (.int .i64 6) := (by rw [cell_of_row w1 eb 0 _ _ (0, 0) hy]; rfl); have ef1 : ∀ o, w1.frozen? ⟨eb, o, none⟩ = false := (fun o => by simp [World.frozen?, hy]); clear hy)); have HQ1 := Lib.hid q; obtain ⟨q0, q1, q2, q3, q4, q5, q6, qf⟩ := seven_at q; clear hb q ee)
  all_goals
    go_wp2_with fail
    refine bodyPost_end (v := .tuple #[]) (by simp [results, Tryd.results36, go_sem]) rfl ?_
    rw [HR.out, ← HLN.out.1, ← HLN.out.2]
    refine ⟨rfl, ?_⟩
    first
      | exact catch_a (by (repeat (first | exact Fr.refl _ _ | refine Fr.drew ?_ | refine Fr.setCell ?_ (.inl rfl) _))) HB1.out HQ1.out EE.out h4 L N
      | exact catch_b (by (repeat (first | exact Fr.refl _ _ | refine Fr.drew ?_ | refine Fr.setCell ?_ (.inl rfl) _))) HB1.out HQ1.out EE.out h4 L N
end Go.Proofs.YtmgidfndifhcoaaDoor
/-
  The map of the methods that begin a term, as Read fills it. No condition but that it is empty.
-/
namespace Go.Proofs.YtmgidfndifhcoaaDoor
open Go.RowKit Go.Maps
set_option maxRecDepth 100000

def ins (b rb : Nat) (k : Int) (n : Nat) (w w' : World) : Prop :=
  (Instr.mapUpdate 76 (.map (some b)) (.int .i64 k) (.func (.func n) #[.pointer (some ⟨rb, 0, none⟩)] #[])).run Tryd.prog w = .ok () w'
theorem beg_step {w : World} {b rb : Nat} {l : List (Int × Nat)} (h : MapAt w b evI (evF rb) l) (hok : ∀ x ∈ l, okI x.1) (k : Int) (hk : okI k) (n : Nat) :
    ∃ w', ins b rb k n w w' ∧ MapAt w' b evI (evF rb) (mput l k n) ∧ Fr (· = b) w w' ∧ w'.heap.size = w.heap.size := by
  obtain ⟨w', h1, h2, h3, h4⟩ := MapAt.update (P := Tryd.prog) (t := 76) intKE Tryd.underlying76 h hok hk n
  exact ⟨w', h1, h2, (Fr.refl _ _).grown h3 fun g hg => .inl (by cases hg; rfl), h4⟩
/-- Six methods are laid, one behind the other. -/
theorem beg_fill {w : World} {b rb : Nat} (h : MapAt w b evI (evF rb) ([] : List (Int × Nat))) :
    ∃ w1 w2 w3 w4 w5 w6, ins b rb 3 31 w w1 ∧ ins b rb 4 32 w1 w2 ∧ ins b rb 5 33 w2 w3 ∧ ins b rb 6 34 w3 w4 ∧ ins b rb 1 35 w4 w5 ∧ ins b rb 2 35 w5 w6 ∧
      MapAt w6 b evI (evF rb) begL ∧ Fr (· = b) w w1 ∧ Fr (· = b) w w2 ∧ Fr (· = b) w w3 ∧ Fr (· = b) w w4 ∧ Fr (· = b) w w5 ∧ Fr (· = b) w w6 ∧ w6.heap.size = w.heap.size := by
  have ok : ∀ k : Int, 0 ≤ k → k ≤ 10 → okI k := fun k h1 h2 => ⟨by omega, by omega⟩
  obtain ⟨w1, a1, m1, f1, s1⟩ := beg_step h (fun x hx => by cases hx) 3 (ok 3 (by omega) (by omega)) 31
  obtain ⟨w2, a2, m2, f2, s2⟩ := beg_step m1 (by intro x hx; simp [mput, mget] at hx; subst hx; exact ok _ (by simp) (by simp)) 4 (ok 4 (by omega) (by omega)) 32
  obtain ⟨w3, a3, m3, f3, s3⟩ := beg_step m2 (by intro x hx; simp [mput, mget] at hx; rcases hx with rfl | rfl <;> exact ok _ (by simp) (by simp)) 5 (ok 5 (by omega) (by omega)) 33
  obtain ⟨w4, a4, m4, f4, s4⟩ := beg_step m3 (by intro x hx; simp [mput, mget] at hx; rcases hx with rfl | rfl | rfl <;> exact ok _ (by simp) (by simp)) 6 (ok 6 (by omega) (by omega)) 34
  obtain ⟨w5, a5, m5, f5, s5⟩ := beg_step m4 (by intro x hx; simp [mput, mget] at hx; rcases hx with rfl | rfl | rfl | rfl <;> exact ok _ (by simp) (by simp)) 1 (ok 1 (by omega) (by omega)) 35
  obtain ⟨w6, a6, m6, f6, s6⟩ := beg_step m5 (by intro x hx; simp [mput, mget] at hx; rcases hx with rfl | rfl | rfl | rfl | rfl <;> exact ok _ (by simp) (by simp)) 2 (ok 2 (by omega) (by omega)) 35
  have g2 := f1.trans f2
  have g3 := g2.trans f3
  have g4 := g3.trans f4
  have g5 := g4.trans f5
  refine ⟨w1, w2, w3, w4, w5, w6, a1, a2, a3, a4, a5, a6, ?_, f1, g2, g3, g4, g5, g5.trans f6, by omega⟩
  have e : mput (mput (mput (mput (mput (mput ([] : List (Int × Nat)) 3 31) 4 32) 5 33) 6 34) 1 35) 2 35 = begL := by decide
  rw [← e]
  exact m6
end Go.Proofs.YtmgidfndifhcoaaDoor
/-
  What term.walk makes of a term, handed measure.take; what term.Check, Size answer. Condition: the term's cells read as a term.
-/
namespace Go.Proofs.YtmgidfndifhcoaaDoor
open Go.RowKit
set_option maxRecDepth 100000

/-- A part that waits, and how deep it stands. -/
abbrev AbT := TV × Nat
def encAb (x : AbT) : List Value := encTV x.1 ++ [.int .i64 x.2]
theorem encAb_len (x : AbT) : (encAb x).length = 5 := rfl
theorem encAb_one (x : AbT) : ∀ u ∈ encAb x, u.oneCell' = true := by
  intro u hu
  simp [encAb, encTV] at hu
  rcases hu with rfl | rfl | rfl | rfl | rfl <;> rfl
theorem ab_info : ∃ i z, Tryd.prog.info? 134 = some i ∧ i.zero = some z ∧ i.size = 5 ∧ i.bytes = 64 ∧ z.cells.size = 5 := by
  refine ⟨_, _, rfl, rfl, ?_, ?_, ?_⟩ <;> kernel_rfl

/-- The cells that wait, the last first, read as these terms. -/
inductive Stk (w : World) (B : Nat) : List AbT → List (Tm × Nat) → Prop
  | nil : Stk w B [] []
  | snoc (st : List AbT) (pd : List (Tm × Nat)) (x : TV) (t : Tm) (d : Nat) (h : Stk w B st pd) (ht : TermAt w B x t) : Stk w B (st ++ [(x, d)]) ((t, d) :: pd)
theorem Stk.len {w : World} {B : Nat} {st : List AbT} {pd : List (Tm × Nat)} (h : Stk w B st pd) : st.length = pd.length := by
  induction h with
  | nil => rfl
  | snoc st pd x t d _ _ ih => simp [ih]
theorem Stk.pop {w : World} {B : Nat} {st : List AbT} {t : Tm} {d : Nat} {pd : List (Tm × Nat)} (h : Stk w B st ((t, d) :: pd)) : ∃ st' x, st = st' ++ [(x, d)] ∧ Stk w B st' pd ∧ TermAt w B x t := by
  cases h with
  | snoc st pd x t d h ht => exact ⟨st, x, rfl, h, ht⟩

/-- How many parts wait, how deep they go, may they all be. -/
def pdSize : List (Tm × Nat) → Nat | [] => 0 | (t, _) :: r => t.size + pdSize r
def pdDeep : List (Tm × Nat) → Nat | [] => 0 | (t, d) :: r => max (d + t.deep - 1) (pdDeep r)
def pdMay : List (Tm × Nat) → Bool | [] => true | (t, _) :: r => t.may && pdMay r
def Meas.all (m : Meas) (pd : List (Tm × Nat)) : Meas := ⟨m.bad || !pdMay pd, m.size + pdSize pd, max m.deep (pdDeep pd)⟩
def pdArgs (d : Nat) (l : List Tm) : List (Tm × Nat) := l.map fun t => (t, d)
theorem deep_pos : ∀ t : Tm, 1 ≤ t.deep
  | .mk k n s l => by rw [Tm.deep]; omega
theorem size_pos : ∀ t : Tm, 1 ≤ t.size
  | .mk k n s l => by rw [Tm.size]; omega
theorem pdSize_args (d : Nat) (r : List (Tm × Nat)) : ∀ l : List Tm, pdSize (pdArgs d l ++ r) = Tm.sizes l + pdSize r
  | [] => by simp [pdArgs, Tm.sizes]
  | t :: l => by
    have := pdSize_args d r l
    simp only [pdArgs, List.map_cons, List.cons_append, pdSize, Tm.sizes] at this ⊢
    omega
theorem pdMay_args (d : Nat) (r : List (Tm × Nat)) : ∀ l : List Tm, pdMay (pdArgs d l ++ r) = (Tm.mays l && pdMay r)
  | [] => by simp [pdArgs, Tm.mays]
  | t :: l => by
    have := pdMay_args d r l
    simp only [pdArgs, List.map_cons, List.cons_append, pdMay, Tm.mays] at this ⊢
    rw [this, Bool.and_assoc]
theorem pdDeep_args (d : Nat) (r : List (Tm × Nat)) : ∀ l : List Tm, max d (pdDeep (pdArgs (d + 1) l ++ r)) = max (d + Tm.deeps l) (pdDeep r)
  | [] => by simp [pdArgs, Tm.deeps]
  | t :: l => by
    have h := pdDeep_args d r l
    have hp := deep_pos t
    simp only [pdArgs, List.map_cons, List.cons_append, pdDeep, Tm.deeps] at h ⊢
    omega
theorem Meas.all_nil (m : Meas) : m.all [] = m := by
  obtain ⟨a, b, c⟩ := m
  simp [Meas.all, pdMay, pdSize, pdDeep]
theorem args_sizes : ∀ l : List Tm, l.length ≤ Tm.sizes l
  | [] => Nat.zero_le _
  | t :: l => by
    have := args_sizes l
    have := size_pos t
    simp only [List.length_cons, Tm.sizes]
    omega
theorem args_size (t : Tm) : t.args.length + 1 ≤ t.size := by
  obtain ⟨k, n, s, l⟩ := t
  have := args_sizes l
  simp only [Tm.args, Tm.size]
  omega
theorem size_args (t : Tm) : t.size = 1 + Tm.sizes t.args := by
  obtain ⟨k, n, s, l⟩ := t
  rfl
theorem sizes_drop : ∀ (a : Nat) (l : List Tm), Tm.sizes (l.drop a) ≤ Tm.sizes l
  | 0, l => by simp
  | a + 1, [] => by simp
  | a + 1, t :: l => by
    have := sizes_drop a l
    simp only [List.drop_succ_cons, Tm.sizes]
    omega
theorem mem_sizes : ∀ (l : List Tm) (t : Tm), t ∈ l → t.size ≤ Tm.sizes l
  | x :: l, t, h => by
    simp only [Tm.sizes]
    rcases List.mem_cons.1 h with rfl | h
    · omega
    · have := mem_sizes l t h
      omega
theorem pdSize_len : ∀ l : List (Tm × Nat), l.length ≤ pdSize l
  | [] => Nat.zero_le _
  | (t, d) :: l => by
    have := pdSize_len l
    have := size_pos t
    simp only [List.length_cons, pdSize]
    omega
theorem Meas.all_step (m : Meas) (t : Tm) (d : Nat) (r : List (Tm × Nat)) (hd : 1 ≤ d) : (m.step t.k t.n t.s t.args.length d).all (pdArgs (d + 1) t.args ++ r) = m.all ((t, d) :: r) := by
  obtain ⟨k, n, s, l⟩ := t
  have h := pdDeep_args d r l
  simp only [Meas.all, Meas.step, Tm.k, Tm.n, Tm.s, Tm.args, pdSize_args, pdMay_args, pdSize, pdMay, pdDeep, Tm.size, Tm.may, Tm.deep, Meas.mk.injEq]
  refine ⟨by cases m.bad <;> cases mayP k n s l.length <;> cases Tm.mays l <;> cases pdMay r <;> rfl, by omega, by omega⟩

/-- What holds as the walk goes. -/
structure WalkInv (w : World) (b B : Nat) (st : List AbT) (pd : List (Tm × Nat)) (m : Meas) (v : Value) (u : World) : Prop where
  row : Row u w.heap.size 134 5 encAb v st
  stk : Stk w B st pd
  meas : MeasAt u b m
  fr : Fr (fun k => k = b ∨ w.heap.size ≤ k) w u
theorem WalkInv.below {w : World} {b B : Nat} {st : List AbT} {pd : List (Tm × Nat)} {m : Meas} {v : Value} {u : World} (h : WalkInv w b B st pd m v u) (hB : B ≤ b) (hb : b < w.heap.size) : Below B w u := h.fr.below (by omega) (fun k hk => by omega)

theorem tvV_lit (x : TV) : tvV x = .agg #[.int .i64 x.k, .int .i64 x.n, .string ⟨x.s.toArray⟩, .slice x.A x.len x.cap] := rfl

set_option maxHeartbeats 8000000 in
theorem walkM_any (w : World) (b B : Nat) (m : Meas) (x : TV) (t : Tm) (hx : TermAt w B x t) (hB : B ≤ b) (hb : MeasAt w b m) (hsz : t.size + m.size ≤ 100000000) :
    Calls Tryd.prog 42 #[tvV x, .func (Fn.func 69) #[.pointer (some ⟨b, 0, none⟩)] #[]] w fun e w' => e = .returned (.tuple #[]) ∧ MeasAt w' b (m.all [(t, 1)]) ∧ Fr (fun k => k = b) w w' := by
  have hbl : b < w.heap.size := (Array.getElem?_eq_some_iff.1 hb).1
  obtain ⟨i, z, hi, hz, hsi, hby, hzs⟩ := ab_info
  have hI : WalkInv w b B [(x, 1)] [(t, 1)] m (.slice (some ⟨w.heap.size + 1, 0, none⟩) 1 1) ((w.alloc (.cells (encTV x).toArray 25)).alloc (.cells (encAb (x, 1)).toArray 134)) := by
    refine ⟨?_, .snoc [] [] x t 1 .nil hx, ?_, ((Fr.refl _ w).alloc _).alloc _⟩
    · have := Row.one (B := w.heap.size) (e := 134) encAb_len (w.alloc (.cells (encTV x).toArray 25)) (x, 1) (by simp)
      simpa using this
    · unfold MeasAt
      rw [Below.heap_alloc _ _ _ (by simp; omega), Below.heap_alloc _ _ _ hbl]
      exact hb
  have HI := Lib.hid hI
  obtain ⟨M, hM⟩ : ∃ M, M = m.all [(t, 1)] := ⟨_, rfl⟩
  rw [← hM]
  have HM := Lib.hid hM
  clear hI hM hx hb
  rw [tvV_lit]
  go_enter Tryd.func42, Tryd.ntmps42
  go_wp2_with fail
  change Code.wp _ _ _ _ ((w.alloc (.cells (encTV x).toArray 25)).alloc (.cells (encAb (x, 1)).toArray 134))
  go_loopg [4] t.size (fun g v u => ∃ st pd m', WalkInv w b B st pd m' v u ∧ Hid (m'.all pd = M ∧ pdSize pd = g ∧ m'.size + pdSize pd ≤ 100000000 ∧ ∀ p ∈ pd, 1 ≤ p.2 ∧ p.2 + p.1.size ≤ 100000001))
  case atStart => exact ⟨_, _, _, HI.out, Lib.hid ⟨HM.out.symm, by simp [pdSize], by simp [pdSize]; omega, fun p hp => by simp at hp; subst hp; simp only; omega⟩⟩
  case round =>
    obtain ⟨st, pd, m', hR, HH⟩ := hrel
    clear HI
    obtain _ | ⟨⟨t1, d⟩, pd⟩ := pd
    · have hl := hR.stk.len
      obtain rfl : st = [] := List.eq_nil_of_length_eq_zero hl
      obtain ⟨A1, c1, rfl⟩ := hR.row.shape
      have HR := Lib.hid hR
      clear hR hl
      go_wp2_with fail
      go_end0
      have e1 : m' = M := by rw [← HH.out.1, Meas.all_nil]
      exact ⟨rfl, by rw [← e1]; exact HR.out.meas, HR.out.fr.mono fun k hk e => e.elim id (fun h => by omega)⟩
    · obtain ⟨st, x1, rfl, hs1, ht1⟩ := hR.stk.pop
      obtain ⟨tk, tn, ts, tl, tm, targ⟩ := ht1.open
      obtain ⟨g, cap, rfl, hg0, hg1, hcap, hcs⟩ := hR.row.cells encAb_len (by simp)
      obtain ⟨hd1, hd2⟩ : 1 ≤ d ∧ d + t1.size ≤ 100000001 := HH.out.2.2.2 _ (List.mem_cons_self ..)
      have hal := Meas.all_step m' t1 d pd hd1
      rw [tk, tn, ts, tl] at hal
      have hsz1 : pdSize ((t1, d) :: pd) = t1.size + pdSize pd := rfl
      have hts : t1.args.length + 1 ≤ t1.size := args_size t1
      have hb9 := HH.out.2.2.1
      have hps := size_pos t1
      have hll : x1.len ≤ 100000000 := by omega
      have hst : st.length ≤ 100000000 := by
        have h1 := hs1.len
        have h2 := pdSize_len pd
        omega
      have e0 := (hcs st.length (x1, d) (by simp) 0 _ rfl).1
      have e1 := (hcs st.length (x1, d) (by simp) 1 _ rfl).1
      have e2 := (hcs st.length (x1, d) (by simp) 2 _ rfl).1
      have e3 := (hcs st.length (x1, d) (by simp) 3 _ rfl).1
      have e4 := (hcs st.length (x1, d) (by simp) 4 _ rfl).1
      simp only [Nat.add_zero] at e0
      have hrow := hR.row
      rw [List.length_append, List.length_cons, List.length_nil] at hrow hcap ⊢
      have hfront := Row.front encAb_len hrow
      have hwr : w.heap.size ≤ wr.heap.size := hR.fr.size
      have hF1 : Fr (fun k => k = b ∨ w.heap.size ≤ k) w (wr.alloc (.cells (encAb (x1, d)).toArray 134)) := hR.fr.alloc _
      have hM1 : MeasAt (wr.alloc (.cells (encAb (x1, d)).toArray 134)) b m' := by
        unfold MeasAt
        rw [Below.heap_alloc _ _ _ (by omega)]
        exact hR.meas
      have hbx : (wr.alloc (.cells (encAb (x1, d)).toArray 134)).heap[wr.heap.size]? = some (.cells (encAb (x1, d)).toArray 134 (0, 0)) := heap_alloc_new wr _
      have hR1 := hfront.alloc (.cells (encAb (x1, d)).toArray 134)
      obtain ⟨w2, hw2⟩ : ∃ w2, w2 = wr.alloc (.cells (encAb (x1, d)).toArray 134) := ⟨_, rfl⟩
      obtain ⟨bx, hbxe⟩ : ∃ bx, bx = wr.heap.size := ⟨_, rfl⟩
      rw [← hw2] at hF1 hM1 hbx hR1
      rw [← hbxe] at hbx
      have hrl : st.length < st.length + 1 := Nat.lt_succ_self _
      have HT1 := Lib.hid ht1
      have HARG := Lib.hid targ
      have HAL := Lib.hid hal
      have HS1 := Lib.hid hs1
      have HF1 := Lib.hid hF1
      have HM1 := Lib.hid hM1
      have HBX := Lib.hid hbx
      have HR1 := Lib.hid hR1
      have HTL := Lib.hid tl
      have hcN : (st.length : Int) + 1 ≤ (cap : Int) := by omega
      have hg9 : g < bx := by omega
      have hs9 : st.length ≤ cap := by omega
      clear hR ht1 tk tn ts tl targ hcs hal hs1 hrow hfront hF1 hM1 hbx hR1
      go_wp2_with fail
      change Calls _ _ _ (wr.alloc (.cells (encAb (x1, d)).toArray 134)) _
      rw [← hw2, ← hbxe]
      refine (take_any w2 b m' x1 d tm (by unfold maxLen; omega) HM1.out (by omega)).mono ?_
      rintro e w3 ⟨rfl, hm3, hf3⟩
      have hbx2 := (Array.getElem?_eq_some_iff.1 HBX.out).1
      have hb3 : w3.heap[bx]? = some (.cells (encAb (x1, d)).toArray 134 (0, 0)) := (hf3.block bx hbx2 (by omega)).trans HBX.out
      have hI3 : WalkInv w b B st pd (m'.step x1.k x1.n x1.s x1.len d) (.slice (some ⟨g, 0, none⟩) st.length cap) w3 :=
        ⟨HR1.out.keep fun k hk => hf3.block k (HR1.out.lt k hk).2 (by have := (HR1.out.lt k hk).1; omega), HS1.out, hm3, HF1.out.trans (hf3.weak fun k hk => .inl hk)⟩
      have HI3 := Lib.hid hI3
      have HB3 := Lib.hid hb3
      have d3 : w3.cell? ⟨bx, 3, none⟩ = some (.slice x1.A x1.len x1.cap) := by rw [cell_of_row w3 bx 3 _ _ (0, 0) hb3]; rfl
      clear hm3 hf3 hb3 hI3 HR1 HM1 HF1 hw2 hbxe e0 e1 e2 e3 e4 hg1 hwr hbx2 HBX
      have hm9 : m'.size + 1 ≤ 100000000 := by omega
      go_wp2_with fail
      go_loopw [4, 6] (fun v i u => ∃ a st', a ≤ x1.len ∧ i = .int .i64 ((a : Int) - 1) ∧ Hid (WalkInv w b B st' (pdArgs (d + 1) (t1.args.drop a) ++ pd) (m'.step x1.k x1.n x1.s x1.len d) v u ∧ u.heap[bx]? = some (.cells (encAb (x1, d)).toArray 134 (0, 0)) ∧ v.ownBlock ≠ some bx)) (fun _ i _ => (intOf i + 1).toNat)
      case atStart =>
        refine ⟨x1.len, st, Nat.le_refl _, rfl, Lib.hid ⟨?_, HB3.out, ?_⟩⟩
        · have e9 : t1.args.drop x1.len = [] := by rw [← HTL.out, List.drop_length]
          rw [e9]
          exact HI3.out
        · simp [Value.ownBlock]; omega
      case round =>
        obtain ⟨a, st', ha, rfl, HR⟩ := hrel
        clear d3
        have d3 : wr.cell? ⟨bx, 3, none⟩ = some (.slice x1.A x1.len x1.cap) := by rw [cell_of_row wr bx 3 _ _ (0, 0) HR.out.2.1]; rfl
        have d4 : wr.cell? ⟨bx, 4, none⟩ = some (.int .i64 d) := by rw [cell_of_row wr bx 4 _ _ (0, 0) HR.out.2.1]; rfl
        obtain _ | a := a
        · have HF : Hid (WalkInv w b B st' (pdArgs (d + 1) t1.args ++ pd) (m'.step x1.k x1.n x1.s x1.len d) _ wr) := Lib.hid HR.out.1
          go_wp2_with fail
          have hh := HH.out
          go_roundg (pdSize (pdArgs (d + 1) t1.args ++ pd))
          case measure =>
            rw [pdSize_args, ← hh.2.1]
            show Tm.sizes t1.args + pdSize pd < t1.size + pdSize pd
            rw [size_args t1]
            omega
          case rel =>
            refine ⟨_, _, _, HF.out, Lib.hid ⟨by rw [HAL.out]; exact hh.1, rfl, ?_, ?_⟩⟩
            · rw [pdSize_args]
              have h1 := size_args t1
              show m'.size + 1 + _ ≤ _
              omega
            · intro p hp
              rcases List.mem_append.1 hp with hp | hp
              · obtain ⟨t', ht', rfl⟩ := List.mem_map.1 hp
                have h1 := mem_sizes t1.args t' ht'
                have h2 := size_args t1
                simp only
                omega
              · exact hh.2.2.2 p (List.mem_cons_of_mem _ hp)
        · have hla : a < t1.args.length := by rw [HTL.out]; omega
          obtain ⟨y, b9, off9, hA9, hb9', ht9, hc9⟩ := HARG.out a _ (List.getElem?_eq_getElem hla)
          have hdrop : t1.args.drop a = t1.args[a] :: t1.args.drop (a + 1) := List.drop_eq_getElem_cons hla
          generalize t1.args[a] = ty at ht9 hdrop
          have hbw := HR.out.1.fr
          have hc9' : ∀ j u, (encTV y)[j]? = some u → wr.cell? ⟨b9, off9 + a * 4 + j, none⟩ = some u := fun j u hu =>
            (hbw.cell (p := ⟨b9, off9 + a * 4 + j, none⟩) (by simp only; omega) (by simp only; omega)).trans (hc9 j u hu)
          have f0 := hc9' 0 _ rfl
          have f1 := hc9' 1 _ rfl
          have f2 := hc9' 2 _ rfl
          have f3 := hc9' 3 _ rfl
          simp only [Nat.add_zero] at f0
          have hlen := HR.out.1.stk.len
          have hst9 : st'.length ≤ 100000000 := by
            have h1 := pdSize_len (pdArgs (d + 1) (t1.args.drop (a + 1)) ++ pd)
            rw [pdSize_args] at h1
            have h2 := sizes_drop (a + 1) t1.args
            have h3 := size_args t1
            have h4 := HH.out.2.2.1
            have h5 : pdSize ((t1, d) :: pd) = t1.size + pdSize pd := rfl
            omega
          have hwr9 := hbw.size
          have hbb9 : b < wr.heap.size := by omega
          have hblk := heap_alloc_new wr (.cells (encAb (y, d + 1)).toArray 134)
          obtain ⟨g9, cap9, w9, hr9, hR9, hg9', ho9⟩ := Row.push (P := Tryd.prog) 135 Tryd.underlying135 hi hz hsi hby hzs (by decide) encAb_len encAb_one
            (w := (wr.alloc (.cells (encAb (y, d + 1)).toArray 134)).drew) (HR.out.1.row.later (((Below.refl _ _).alloc (Nat.le_refl _) _).drew)) (y, d + 1) wr.heap.size 1
            (fun j u hu => cell_made wr _ _ j u (by simpa using hu)) (by unfold maxLen; omega) (by omega) (by simp; omega)
          obtain ⟨v9, hv9⟩ : ∃ v9, v9 = Value.slice (some ⟨g9, 0, none⟩) (st'.length + 1) cap9 := ⟨_, rfl⟩
          rw [← hv9] at hr9 hR9
          have hr9 : (Builtin.append_ #[135, 135] 135 #[_, .slice (some ⟨wr.heap.size, 0, none⟩) 1 1]).run Tryd.prog (wr.alloc (.cells #[.int .i64 y.k, .int .i64 y.n, .string ⟨y.s.toArray⟩, .slice y.A y.len y.cap, .int .i64 ((d : Int) + 1)] 134)).drew = .ok v9 w9 := hr9
          have hbx3 := (Array.getElem?_eq_some_iff.1 HR.out.2.1).1
          have hne : u4.ownBlock ≠ some b := fun e => by have := (HR.out.1.row.lt b e).1; omega
          have hI9 : WalkInv w b B (st' ++ [(y, d + 1)]) (pdArgs (d + 1) (t1.args.drop a) ++ pd) (m'.step x1.k x1.n x1.s x1.len d) v9 w9 := by
            refine ⟨hR9, ?_, ?_, ?_⟩
            · rw [hdrop]
              exact .snoc _ _ y ty (d + 1) HR.out.1.stk ht9
            · unfold MeasAt
              rw [hg9'.block b (by simp; omega) (fun e => hne e.symm)]
              exact (Below.heap_alloc _ _ _ hbb9).trans HR.out.1.meas
            · exact ((HR.out.1.fr.alloc _).drew).grown hg9' (fun k e => .inl (.inr (HR.out.1.row.lt k e).1))
          have hbx9 : w9.heap[bx]? = some (.cells (encAb (x1, d)).toArray 134 (0, 0)) := by
            rw [hg9'.block bx (by simp; omega) (fun e => HR.out.2.2 e.symm)]
            exact (Below.heap_alloc _ _ _ hbx3).trans HR.out.2.1
          have hob9 : v9.ownBlock ≠ some bx := by
            rw [hv9]
            intro e
            have e' : g9 = bx := by simpa [Value.ownBlock] using e
            rcases ho9 with h | h
            · exact HR.out.2.2 (by rw [h, e'])
            · simp at h
              omega
          have HX9 := Lib.hid (And.intro hI9 (And.intro hbx9 hob9))
          have hd9 : (d : Int) + 1 ≤ 200000000 := by omega
          have hwd : IntKind.i64.wrap ((d : Int) + 1) = (d : Int) + 1 := IntWalk.i64_in _ (by omega)
          have ha9 : (a : Int) < (x1.len : Int) := by omega
          have hl9 : wr.heap.size ≠ bx := by omega
          have hbl9 : bx < wr.heap.size := hbx3
          have hb99 : b9 < wr.heap.size := by omega
          rw [show (((a + 1 : Nat) : Int) - 1) = (a : Int) by omega]
          clear hI9 hbx9 hob9 hne hg9' ho9 hblk hR9 hv9 hc9 hc9' hdrop ht9 hbw hlen
          obtain ⟨xk, xn, xs, xA, xl, xc⟩ := x1
          simp only at hA9 d3 d4 ha9 ha
          subst hA9
          go_wp2_with fail
          go_region_law (first | (refine step_run rfl (.tmp 39) (.tmp 50) 135 rfl (by rfl) (by rfl) hr9 ?_))
          all_goals
            go_wp2_with fail
            go_roundw
            case rel => exact ⟨a, _, by omega, rfl, HX9⟩
            case measure => simp [intOf]

def Meas.none : Meas := ⟨false, 0, 0⟩
theorem meas_all (t : Tm) : Meas.none.all [(t, 1)] = ⟨!t.may, t.size, t.deep⟩ := by
  have := deep_pos t
  have e : max 0 (max (1 + t.deep - 1) 0) = t.deep := by omega
  simp only [Meas.none, Meas.all, pdMay, pdSize, pdDeep, Bool.and_true, Bool.false_or, Nat.zero_add, Nat.add_zero, e]

set_option maxHeartbeats 4000000 in
theorem measured_any (w : World) (x : TV) (t : Tm) (hx : TermAt w w.heap.size x t) (hsz : t.size ≤ 10000000) :
    Calls Tryd.prog 41 #[tvV x] w fun e w' => e = .returned (.agg #[.bool (!t.may), .int .i64 t.size, .int .i64 t.deep]) ∧ Below w.heap.size w w' := by
  have HX := Lib.hid hx
  have hmm := meas_all t
  generalize (!t.may) = q at hmm ⊢
  have HMM := Lib.hid hmm
  clear hx hmm
  rw [tvV_lit]
  go_enter Tryd.func41, Tryd.ntmps41
  go_wp2_with fail
  generalize hW : World.alloc (World.alloc (World.alloc w (.cells #[.int .i64 x.k, .int .i64 x.n, .string ⟨x.s.toArray⟩, .slice x.A x.len x.cap] 25)) (.cells #[.bool false, .int .i64 0, .int .i64 0] 103)) (.cells #[.bool false, .int .i64 0, .int .i64 0] 103) = W
  have hbW : MeasAt W (w.heap.size + 1 + 1) Meas.none := by
    unfold MeasAt
    rw [← hW]
    have := heap_alloc_new ((w.alloc (.cells #[.int .i64 x.k, .int .i64 x.n, .string ⟨x.s.toArray⟩, .slice x.A x.len x.cap] 25)).alloc (.cells #[.bool false, .int .i64 0, .int .i64 0] 103)) (.cells #[.bool false, .int .i64 0, .int .i64 0] 103)
    simpa [Meas.none] using this
  have hrW : W.heap[w.heap.size + 1]? = some (.cells #[.bool false, .int .i64 0, .int .i64 0] 103 (0, 0)) := by
    rw [← hW, Below.heap_alloc _ _ _ (by simp)]
    have := heap_alloc_new (w.alloc (.cells #[.int .i64 x.k, .int .i64 x.n, .string ⟨x.s.toArray⟩, .slice x.A x.len x.cap] 25)) (.cells #[.bool false, .int .i64 0, .int .i64 0] 103)
    simpa using this
  have hfW : Below w.heap.size w W := by rw [← hW]; exact (((Below.refl _ w).alloc (Nat.le_refl _) _).alloc (by simp) _).alloc (by simp; omega) _
  refine (walkM_any W (w.heap.size + 1 + 1) w.heap.size Meas.none x t (HX.out.blw hfW) (by omega) hbW (by simp only [Meas.none]; omega)).mono ?_
  rintro e w2 ⟨rfl, hb2, hf2⟩
  rw [HMM.out] at hb2
  have hB2 := Lib.hid (hfW.trans (hf2.below (B := w.heap.size) hfW.size (fun k hk => by omega)))
  obtain ⟨c0, c1, c2, hf⟩ := meas_cells hb2
  obtain ⟨d0, d1, d2, df⟩ := meas_cells ((hf2.block (w.heap.size + 1) (Array.getElem?_eq_some_iff.1 hrW).1 (by omega)).trans hrW)
  clear hb2 hf2 hfW hbW hW hrW
  go_wp2_with fail
  refine bodyPost_ret (v := .agg #[.bool q, .int .i64 t.size, .int .i64 t.deep]) (by simp [results, Tryd.results41, go_sem, d0, d1, d2]) rfl ⟨rfl, ?_⟩
  repeat (refine Below.setCell ?_ (by simp; try omega) _)
  exact hB2.out

/-- What Check answers. -/
def checkT (t : Tm) : Int := if t.may = false then 2 else if 2000 < t.deep then 4 else if 20000 < t.size then 3 else 0
theorem meas_size (a : Bool) (b c : Int) (w : World) : (Instr.field 103 (.agg #[.bool a, .int .i64 b, .int .i64 c]) 1).run Tryd.prog w = .ok (.int .i64 b) w := by kernel_rfl


set_option maxHeartbeats 4000000 in
theorem check_any (w : World) (x : TV) (t : Tm) (hx : TermAt w w.heap.size x t) (hsz : t.size ≤ 10000000) (hdp : t.deep ≤ 10000000) :
    Calls Tryd.prog 17 #[tvV x] w fun e w' => e = .returned (.int .i64 (checkT t)) ∧ Below w.heap.size w w' := by
  have HM : Hid (∀ o, Calls Tryd.prog 41 #[tvV x] (w.alloc o) fun e w' => e = .returned (.agg #[.bool (!t.may), .int .i64 t.size, .int .i64 t.deep]) ∧ Below (w.alloc o).heap.size (w.alloc o) w') :=
    Lib.hid fun o => measured_any _ x t (hx.later ((Below.refl _ _).alloc (Nat.le_refl _) _)) hsz
  clear hx
  rw [tvV_lit] at *
  obtain ⟨r, hr⟩ : ∃ r, r = checkT t := ⟨_, rfl⟩
  rw [← hr]
  have HR := Lib.hid hr
  unfold checkT at HR
  clear hr
  generalize t.may = q at *
  generalize t.size = n at *
  generalize t.deep = d at *
  cases q
  · go_enter Tryd.func17, Tryd.ntmps17
    go_wp2_with fail
    refine (HM.out _).mono ?_
    rintro e w1 ⟨rfl, hb⟩
    have HB := Lib.hid (((Below.refl w.heap.size w).alloc (Nat.le_refl _) _).trans (hb.mono (by simp)))
    clear hb
    go_wp2_with fail
    go_ret
    exact ⟨by rw [HR.out]; simp, HB.out.alloc HB.out.size _⟩
  · go_enter Tryd.func17, Tryd.ntmps17
    go_wp2_with fail
    refine (HM.out _).mono ?_
    rintro e w1 ⟨rfl, hb⟩
    have HB := Lib.hid (((Below.refl w.heap.size w).alloc (Nat.le_refl _) _).trans (hb.mono (by simp)))
    clear hb
    go_wp2_with fail
    all_goals
      go_ret
      refine ⟨?_, HB.out.alloc HB.out.size _⟩
      have e9 : r = if 2000 < d then 4 else if 20000 < n then 3 else 0 := by have h := HR.out; simpa using h
      rw [e9]
      show Ending.returned (Value.int .i64 _) = _
      congr 2
      (repeat' split) <;> omega
end Go.Proofs.YtmgidfndifhcoaaDoor
