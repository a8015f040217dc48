import Derived.Test.YtmgidfndifhcoaaDoorJReadInts00
import Derived.Test.YtmgidfndifhcoaaDoorJReadBrackets30
import Derived.Test.YtmgidfndifhcoaaDoorJReadBrackets31
import Derived.Test.YtmgidfndifhcoaaDoorJReadBrackets35
import Derived.Test.YtmgidfndifhcoaaDoorCards
import Derived.Test.YtmgidfndifhcoaaDoorTie
import Derived.HandedShaped
import Derived.Shelf.Vars
import Derived.Deep.DeepWitnessRowRef
import Derived.LaidMore
import Derived.Stop.LaidErr
import Derived.Lib.LaidTab
import Derived.MakeChecks
import Derived.Lay
/-
  The closure of ReadInts: a text and a Stop are lexed and the first clause read; a number's digits. Conditions: the text is short; the tables are laid.
-/
namespace Go.Proofs.YtmgidfndifhcoaaDoor
open Go.RowKit Go.Maps
set_option maxRecDepth 100000

def PowAt (w : World) : Prop := Lib.TabIs Tryd.prog w "internal/strconv.uint64pow10" .u64 Lib.pow10Tab
theorem PowAt.keep {w w' : World} (h : PowAt w) (hb : w'.heap[4]? = w.heap[4]?) : PowAt w' := by
  unfold PowAt Lib.TabIs World.var? at h ⊢
  have hg : Tryd.prog.globalNamed "internal/strconv.uint64pow10" = some 4 := by kernel_rfl
  rw [hg] at h ⊢
  simp only [Option.bind_some] at h ⊢
  rw [hb]
  exact h
theorem PowAt.lt {w : World} (h : PowAt w) : 4 < w.heap.size := by
  unfold PowAt Lib.TabIs World.var? at h
  have hg : Tryd.prog.globalNamed "internal/strconv.uint64pow10" = some 4 := by kernel_rfl
  rw [hg] at h
  simp only [Option.bind_some] at h
  rcases Nat.lt_or_ge 4 w.heap.size with hlt | hge
  · exact hlt
  · rw [Array.getElem?_eq_none hge] at h
    cases h
theorem PowAt.later {w w' : World} (h : PowAt w) (hb : Below w.heap.size w w') : PowAt w' := h.keep (hb.block _ h.lt)
theorem below_grow (w : World) (k : Nat) (os : Array Obj) : Below w.heap.size w (Sort.grow (w.drewN k) os) := by
  refine ⟨rfl, rfl, rfl, ?_, fun i hi => ?_⟩
  · show w.heap.size ≤ (w.heap ++ os).size
    rw [Array.size_append]
    omega
  · show (w.heap ++ os)[i]? = w.heap[i]?
    rw [Array.getElem?_append_left hi]

set_option maxHeartbeats 1000000 in
theorem print_any (w : World) (hP : PowAt w) (n : Int) (h0 : -9223372036854775808 ≤ n) (h1 : n ≤ 9223372036854775807) :
    Calls Tryd.prog 20 #[.int .i64 n] w fun e w' => e = .returned (.string ⟨(Lib.itoa n).toArray⟩) ∧ Below w.heap.size w w' := by
  go_enter Tryd.func20, Tryd.ntmps20
  go_wp2_with fail
  refine (Tryd.strconv_FormatInt_10 n h0 h1 w hP).mono ?_
  rintro e w1 ⟨rfl, k, os, rfl⟩
  have hb := below_grow w k os
  generalize Sort.grow (w.drewN k) os = w1 at hb ⊢
  go_wp2_with fail
  go_ret
  exact ⟨rfl, hb⟩

/-- What the closure answers. -/
def SureOut (w w' : World) (c : ClauseF × Int) (e : Ending) : Prop :=
  Below w.heap.size w w' ∧ ∃ x, TermAt w' w'.heap.size x c.1.t ∧ e = .returned (.tuple #[.agg #[.int .i64 x.k, .int .i64 x.n, .string ⟨x.s.toArray⟩, .slice x.A x.len x.cap], .bool (c.2 == 0)])
/-- A block whose one term is none is none of a term's blocks. -/
theorem TermS.off {w : World} {S : Nat → Prop} {x : TV} {t : Tm} (h : TermS w S x t) {b0 : Nat} {c1 c2 c3 : Value} {ty : TypeId} (hb : w.heap[b0]? = some (.cells #[.int .i64 0, c1, c2, c3] ty (0, 0))) (hm : Tm.mays t.args = true) : TermS w (fun b => S b ∧ b ≠ b0) x t := by
  induction h with
  | mk x args xs h1 h2 h3 hc ht ih =>
    have hall : ∀ (l : List Tm), Tm.mays l = true → ∀ (i : Nat) (u : Tm), l[i]? = some u → u.may = true := by
      intro l
      induction l with
      | nil => intro _ i u hu; simp at hu
      | cons a l ih =>
        intro hl i u hu
        rw [Tm.mays, Bool.and_eq_true] at hl
        cases i with
        | zero => simp at hu; subst hu; exact hl.1
        | succ i => exact ih hl.2 i u (by simpa using hu)
    have hargs : ∀ (i : Nat) (u : Tm), args[i]? = some u → u.may = true := hall args hm
    refine .mk x args xs h1 h2 h3 (fun i y hy => ?_) fun i y u hy hu => ih i y u hy hu ?_
    · obtain ⟨b, off, e1, e2, e3⟩ := hc i y hy
      refine ⟨b, off, e1, ⟨e2, ?_⟩, e3⟩
      rintro rfl
      have hi : i < args.length := by rw [h2, ← h1]; exact (List.getElem?_eq_some_iff.1 hy).1
      have hmay := hargs i _ (List.getElem?_eq_getElem hi)
      have hk := ht i y _ hy (List.getElem?_eq_getElem hi)
      have g0 := e3 0 _ rfl
      have g3 := e3 3 _ rfl
      rw [cell_of_row w b _ _ ty (0, 0) hb] at g0 g3
      have hz : off + i * 4 = 0 := by
        have := (Array.getElem?_eq_some_iff.1 g3).1
        simp at this
        omega
      rw [hz] at g0
      have hk0 : y.k = 0 := by
        simp at g0
        exact g0.symm
      generalize args[i] = u at hmay hk
      cases hk with
      | mk _ a2 xs2 _ _ _ _ _ =>
        rw [Tm.may, hk0] at hmay
        unfold mayP at hmay
        simp at hmay
    · have := hargs i u hu
      cases u
      rw [Tm.may, Bool.and_eq_true] at this
      exact this.2
theorem readF_mays (o : OpsF) (ts : List Tok) (i : Int) : Tm.mays (readF o ts i).1.t.args = true := by
  unfold readF
  split
  · rfl
  · split
    · rfl
    · rename_i a _
      rw [(failed_t ts a).1]
      rfl
    · rename_i s _
      split
      · rfl
      · rename_i hm
        split
        · rfl
        · split
          · rfl
          · have hm : s.t.may = true := by simpa using hm
            simp only
            generalize s.t = t at hm ⊢
            cases t
            rw [Tm.may, Bool.and_eq_true] at hm
            exact hm.2
theorem cat_i (a b : List UInt8) : (⟨a.toArray⟩ ++ ⟨b.toArray⟩ : ByteArray) = ⟨(a ++ b).toArray⟩ := by
  apply ByteArray.ext
  simp
theorem sure_done {w W : World} {x : TV} {ft : Tm} (hB : Below w.heap.size w W) (hc : W.heap[w.heap.size]? = some (.cells #[.int .i64 0, .int .i64 0, .string ⟨#[]⟩, .slice none 0 0] 25 (0, 0)))
    (hx : TermS W (TyB W 25) x ft) (hm : Tm.mays ft.args = true) :
    ∃ WF, ((((W.setCell ⟨w.heap.size, 0, none⟩ (.int .i64 x.k)).setCell ⟨w.heap.size, 1, none⟩ (.int .i64 x.n)).setCell ⟨w.heap.size, 2, none⟩ (.string ⟨x.s.toArray⟩)).setCell ⟨w.heap.size, 3, none⟩ (.slice x.A x.len x.cap)) = WF ∧
      Below w.heap.size w WF ∧ TermAt WF WF.heap.size x ft ∧ WF.heap[w.heap.size]? = some (.cells #[.int .i64 x.k, .int .i64 x.n, .string ⟨x.s.toArray⟩, .slice x.A x.len x.cap] 25 (0, 0)) := by
  have hbw := (((hB.setCell (p := ⟨w.heap.size, 0, none⟩) (Nat.le_refl _) (.int .i64 x.k)).setCell (p := ⟨w.heap.size, 1, none⟩) (Nat.le_refl _) (.int .i64 x.n)).setCell (p := ⟨w.heap.size, 2, none⟩) (Nat.le_refl _) (.string ⟨x.s.toArray⟩)).setCell (p := ⟨w.heap.size, 3, none⟩) (Nat.le_refl _) (.slice x.A x.len x.cap)
  refine ⟨_, rfl, hbw, ?_, blk_set4 hc rfl _ _ _ _⟩
  have h1 := hx.off hc hm
  refine (h1.keep (S' := fun b => b < W.heap.size) (fun b hb => hb.1.lt) fun b hb => blk_set4_ne _ _ _ _ hb.2).at fun b hb => ?_
  simpa using hb

set_option maxHeartbeats 8000000 in
theorem sure_any (w : World) (hE : RdEnv w) (T : List UInt8) (hT : T.length ≤ 1500) :
    Calls Tryd.prog 19 #[.string ⟨T.toArray⟩] w fun e w' => SureOut w w' (sureF T) e := by
  obtain ⟨R, hR⟩ : ∃ R : Ending → World → Prop, R = fun e w' => SureOut w w' (sureF T) e := ⟨_, rfl⟩
  rw [← hR]
  have hS : sureF T = readF (opsOf opsInit) (lexB (T ++ [32, 46])).1 0 := rfl
  rw [hS] at hR
  clear hS
  have HRR := Lib.hid hR
  have HE := Lib.hid hE
  have HTK := Lib.hid (tokOk_lex (T := T ++ [32, 46]) (by simp only [List.length_append, List.length_cons, List.length_nil]; omega))
  have hTi : ((T ++ [32, 46]).length : Int) ≤ 16000 := by simp only [List.length_append, List.length_cons, List.length_nil]; omega
  clear hR hE
  go_enter Tryd.func19, Tryd.ntmps19
  go_wp2_with fail
  rw [show (⟨T.toArray⟩ ++ ⟨#[32, 46]⟩ : ByteArray) = ⟨(T ++ [32, 46]).toArray⟩ from cat_i T [32, 46]]
  refine (lex_any _ (T ++ [32, 46]) hTi (HE.out.later ((Below.refl _ _).alloc (Nat.le_refl _) _)).max).mono ?_
  rintro e w2 ⟨v2, rfl, hr2, hb2⟩
  have hb2' : Below w.heap.size w w2 := ((Below.refl _ _).alloc (Nat.le_refl _) _).trans (hb2.mono (by rw [World.size_alloc]; omega))
  have hcb := (hb2.block w.heap.size (by rw [World.size_alloc]; omega)).trans (heap_alloc_new w _)
  have hs2 : w.heap.size < w2.heap.size := by have := hb2.size; rw [World.size_alloc] at this; omega
  have HB2 := Lib.hid hb2'
  have HR2 := Lib.hid hr2
  have HCB := Lib.hid hcb
  clear hr2 hb2 hb2' hcb
  generalize lexB (T ++ [32, 46]) = L at HTK HR2 HRR ⊢
  obtain ⟨ts, ln, er⟩ := L
  dsimp only at HTK HR2 HRR ⊢
  obtain ⟨An, cn, rfl⟩ := HR2.out.shape
  go_wp2_with fail
  refine (new_any _ (HE.out.later HB2.out).kinds (HE.out.later HB2.out).tab).mono ?_
  rintro e w3 ⟨bt, bm, rfl, hT3, hbt, hbm, hne, hb3⟩
  have hr3 := HR2.out.later hb3
  have hcb3 := (hb3.block w.heap.size hs2).trans HCB.out
  have hE3 : RdEnv w3 := HE.out.later (HB2.out.trans (hb3.mono HB2.out.size))
  have HB3 := Lib.hid (HB2.out.trans (hb3.mono HB2.out.size))
  have hs3 : w.heap.size < w3.heap.size := Nat.lt_of_lt_of_le hs2 hb3.size
  have HRE := Lib.hid (read_any w3 An ts.length cn ts (toks_row hr3) HTK.out 0 bt bm opsInit hT3 hE3.kinds)
  have HCB3 := Lib.hid hcb3
  clear hr3 hcb3 hE3 hb3 hT3
  go_wp2_with fail
  refine HRE.out.mono ?_
  rintro e w4 ⟨hb4, x, nv, B, rfl, hx4, hn4⟩
  have hcb4 := (hb4.block w.heap.size hs3).trans HCB3.out
  have HB4 := Lib.hid (HB3.out.trans (hb4.mono HB3.out.size))
  have hs4 : w.heap.size < w4.heap.size := Nat.lt_of_lt_of_le hs3 hb4.size
  obtain ⟨An4, cn4, rfl⟩ := hn4.shape
  have hm4 := readF_mays (opsOf opsInit) ts 0
  generalize readF (opsOf opsInit) ts 0 = F at hx4 hn4 HRR hm4 ⊢
  obtain ⟨⟨ft, fn, fl, fx⟩, fe⟩ := F
  dsimp only at hx4 hn4 HRR hm4 ⊢
  have HX4 := Lib.hid hx4
  have HM4 := Lib.hid hm4
  have HCB4 := Lib.hid hcb4
  clear hx4 hn4 hm4 hcb4 hb4 HRE HR2 HCB HCB3
  unfold clV
  go_upto_region 3 with fail
  have hn5 := heap_alloc_new w4 (.cells #[.int .i64 x.k, .int .i64 x.n, .string ⟨x.s.toArray⟩, .slice x.A x.len x.cap, .slice An4 fn.length cn4, .int .i64 fl, .int .i64 fx] 28)
  have hk5 : ∀ k, k < w4.heap.size → (w4.alloc (.cells #[.int .i64 x.k, .int .i64 x.n, .string ⟨x.s.toArray⟩, .slice x.A x.len x.cap, .slice An4 fn.length cn4, .int .i64 fl, .int .i64 fx] 28)).heap[k]? = w4.heap[k]? := fun k hk => Below.heap_alloc _ _ _ hk
  have hb5 := HB4.out.trans ((Below.refl _ _).alloc HB4.out.size (.cells #[.int .i64 x.k, .int .i64 x.n, .string ⟨x.s.toArray⟩, .slice x.A x.len x.cap, .slice An4 fn.length cn4, .int .i64 fl, .int .i64 fx] 28))
  generalize hW5 : w4.alloc (.cells #[.int .i64 x.k, .int .i64 x.n, .string ⟨x.s.toArray⟩, .slice x.A x.len x.cap, .slice An4 fn.length cn4, .int .i64 fl, .int .i64 fx] 28) = W5 at hn5 hk5 hb5 ⊢
  have HX5 : Hid (TermS W5 (TyB W5 25) x ft) := Lib.hid (HX4.out.keep (fun b hb => hb.keep (hk5 b hb.lt)) fun b hb => hk5 b hb.lt)
  have HB5 := Lib.hid hb5
  have hcb5 := (hk5 w.heap.size hs4).trans HCB4.out
  have HCB5 := Lib.hid hcb5
  have hne5 : w4.heap.size ≠ w.heap.size := by omega
  clear hW5 hk5 hb5 HX4 HCB4 HB4 hs4 hs3 hs2 HB3 HB2
  generalize w4.heap.size = g at hn5 hne5 ⊢
  obtain ⟨z0, z1, z2, z3, zf⟩ := four_at hcb5
  obtain ⟨y0, y1, y2, y3, y4, y5, y6, yf⟩ := seven_at hn5
  clear hn5 hcb5 yf
  go_wp2_with fail
  obtain ⟨WF, hWF, hbF, hxF, hcF⟩ := sure_done HB5.out HCB5.out HX5.out HM4.out
  rw [hWF]
  clear hWF z0 z1 z2 z3 zf
  obtain ⟨z0, z1, z2, z3, zf⟩ := four_at hcF
  refine ⟨rfl, .tuple #[.agg #[.int .i64 x.k, .int .i64 x.n, .string ⟨x.s.toArray⟩, .slice x.A x.len x.cap], .bool (fe == 0)], by simp [results, Tryd.results19, go_sem, z0, z1, z2, z3], ?_⟩
  rw [HRR.out]
  exact ⟨hbF, x, hxF, rfl⟩
end Go.Proofs.YtmgidfndifhcoaaDoor
/-
  The law of ReadInts answers true. Conditions: the tables are laid; the number is of 64 bits.
-/
namespace Go.Proofs.YtmgidfndifhcoaaDoor
open Go.RowKit Go.Maps
set_option maxRecDepth 100000

/-- A term that the closure answers, in a block of its own. -/
theorem sure_put {u u' : World} {T : List UInt8} {t : Tm} {e : Ending} (ho : SureOut u u' (sureF T) e) (hr : readsAs T t) :
    ∃ x, e = .returned (.tuple #[.agg #[.int .i64 x.k, .int .i64 x.n, .string ⟨x.s.toArray⟩, .slice x.A x.len x.cap], .bool true]) ∧
      ∀ U, U = u'.alloc (.cells #[.int .i64 x.k, .int .i64 x.n, .string ⟨x.s.toArray⟩, .slice x.A x.len x.cap] 25) →
      Below u.heap.size u U ∧ TermAt U U.heap.size x t ∧ u'.heap.size < U.heap.size ∧
      U.heap[u'.heap.size]? = some (.cells #[.int .i64 x.k, .int .i64 x.n, .string ⟨x.s.toArray⟩, .slice x.A x.len x.cap] 25 (0, 0)) := by
  obtain ⟨hb, x, hx, rfl⟩ := ho
  rw [hr.2] at hx
  refine ⟨x, by rw [hr.1]; rfl, fun U hU => ?_⟩
  subst hU
  exact ⟨hb.trans ((Below.refl _ _).alloc hb.size _), hx.later ((Below.refl _ _).alloc (Nat.le_refl _) _), by rw [World.size_alloc]; omega, heap_alloc_new _ _⟩
theorem itoa_len (n : Int) (h0 : -9223372036854775808 ≤ n) (h1 : n ≤ 9223372036854775807) : (Lib.itoa n).length ≤ 22 := by
  have hd : ∀ u : Nat, u ≤ 9223372036854775808 → (Lib.decDigits u).length ≤ 21 := by
    intro u hu
    rw [Lib.decDigits_length]
    have : ∀ (k v : Nat), v < 10 ^ (k + 1) → Lib.nDigits v ≤ k + 1 := by
      intro k
      induction k with
      | zero => intro v hv; rw [Lib.nDigits_small (by omega)]; omega
      | succ k ih =>
        intro v hv
        by_cases hs : v < 10
        · rw [Lib.nDigits_small hs]; omega
        · rw [Lib.nDigits_big hs]
          have := ih (v / 10) (by rw [Nat.pow_succ] at hv; omega)
          omega
    exact this 20 u (by omega)
  by_cases hn : n < 0
  · obtain ⟨u, rfl⟩ : ∃ u : Nat, n = -(u : Int) := ⟨n.natAbs, by omega⟩
    rw [Lib.itoa_neg u (by omega), List.length_cons]
    have := hd u (by omega)
    omega
  · obtain ⟨u, rfl⟩ : ∃ u : Nat, n = (u : Int) := ⟨n.natAbs, by omega⟩
    rw [Lib.itoa_nonneg]
    have := hd u (by omega)
    omega

set_option maxHeartbeats 8000000 in
theorem ints_any (w : World) (hE : RdEnv w) (hP : PowAt w) (n : Int) (h0 : -9223372036854775808 ≤ n) (h1 : n ≤ 9223372036854775807) :
    Calls Tryd.prog 6 #[.int .i64 n] w fun e w' => e = .returned (.bool true) ∧ Below w.heap.size w w' := by
  have HE := Lib.hid hE
  have HP := Lib.hid hP
  have HLEN := Lib.hid (itoa_len n h0 h1)
  obtain ⟨i1, i2, i3⟩ := ints n h0 h1
  have HI1 := Lib.hid i1
  have HI2 := Lib.hid i2
  have HI3 := Lib.hid i3
  have HW : Hid (-9223372036854775808 ≤ n ∧ n ≤ 9223372036854775807) := Lib.hid ⟨h0, h1⟩
  have hlen9 := HLEN.out
  clear hE hP i1 i2 i3
  go_enter Tryd.func6, Tryd.ntmps6
  go_wp2_with fail
  refine (alive_any w HE.out).mono ?_
  rintro e w1 ⟨rfl, hb1⟩
  have HB1 := Lib.hid hb1
  have HE1 : Hid (RdEnv w1) := Lib.hid (HE.out.later hb1)
  have HP1 : Hid (PowAt w1) := Lib.hid (HP.out.later hb1)
  clear hb1 HE HP
  go_wp2_with fail
  refine (print_any w1 HP1.out n h0 h1).mono ?_
  rintro e w2 ⟨rfl, hb2⟩
  have HB2 := Lib.hid (HB1.out.trans (hb2.mono HB1.out.size))
  have HE2 : Hid (RdEnv w2) := Lib.hid (HE1.out.later hb2)
  have HP2 : Hid (PowAt w2) := Lib.hid (HP1.out.later hb2)
  clear hb2 HE1 HP1 HB1
  go_wp2_with fail
  refine (sure_any w2 HE2.out (Lib.itoa n) (by have := HLEN.out; omega)).mono ?_
  rintro e v0 ho
  obtain ⟨x0, rfl, hU⟩ := sure_put ho HI1.out
  go_upto_region 5 with fail
  obtain ⟨U0, hU0⟩ : ∃ U, U = v0.alloc (.cells #[.int .i64 x0.k, .int .i64 x0.n, .string ⟨x0.s.toArray⟩, .slice x0.A x0.len x0.cap] 25) := ⟨_, rfl⟩
  rw [← hU0]
  obtain ⟨hb, ht, hl, hc⟩ := hU U0 hU0
  clear hU0 hU ho
  generalize v0.heap.size = g0 at hl hc ⊢
  obtain ⟨k1, k2, -, -, -, -⟩ := ht.open
  have hc : U0.heap[g0]? = some (.cells #[.int .i64 2, .int .i64 n, .string ⟨x0.s.toArray⟩, .slice x0.A x0.len x0.cap] 25 (0, 0)) := by rw [hc, ← k1, ← k2]; rfl
  have HC0 := Lib.hid hc
  have HL0 := Lib.hid hl
  have HB3 := Lib.hid (HB2.out.trans (hb.mono HB2.out.size))
  have HE3 : Hid (RdEnv U0) := Lib.hid (HE2.out.later hb)
  have HP3 : Hid (PowAt U0) := Lib.hid (HP2.out.later hb)
  clear hb ht hl hc k1 k2 HB2 HE2 HP2
  go_wp2_with fail
  refine (print_any U0 HP3.out n h0 h1).mono ?_
  rintro e w4 ⟨rfl, hb4⟩
  have HC4 := Lib.hid ((hb4.block g0 HL0.out).trans HC0.out)
  have HL4 := Lib.hid (Nat.lt_of_lt_of_le HL0.out hb4.size)
  have HB4 := Lib.hid (HB3.out.trans (hb4.mono HB3.out.size))
  have HE4 : Hid (RdEnv w4) := Lib.hid (HE3.out.later hb4)
  have HP4 : Hid (PowAt w4) := Lib.hid (HP3.out.later hb4)
  clear hb4 HE3 HP3 HB3 HC0 HL0
  go_wp2_with fail
  rw [show (⟨#[97, 32, 45, 32]⟩ ++ ⟨(Lib.itoa n).toArray⟩ : ByteArray) = ⟨([97, 32, 45, 32] ++ Lib.itoa n).toArray⟩ from cat_i [97, 32, 45, 32] (Lib.itoa n)]
  refine (sure_any w4 HE4.out ([97, 32, 45, 32] ++ Lib.itoa n) (by have := HLEN.out; simp only [List.length_append, List.length_cons, List.length_nil]; omega)).mono ?_
  rintro e v1 ho
  obtain ⟨x1, rfl, hU⟩ := sure_put ho HI2.out
  go_upto_region 6 with fail
  obtain ⟨U1, hU1⟩ : ∃ U, U = v1.alloc (.cells #[.int .i64 x1.k, .int .i64 x1.n, .string ⟨x1.s.toArray⟩, .slice x1.A x1.len x1.cap] 25) := ⟨_, rfl⟩
  rw [← hU1]
  obtain ⟨hb, ht, hl, hc⟩ := hU U1 hU1
  clear hU1 hU ho
  generalize v1.heap.size = g1 at hl hc ⊢
  obtain ⟨k1, k2, k3, k4, -, k6⟩ := ht.open
  obtain ⟨y1, d1, o1, eA, -, hy1, z1⟩ := k6 1 (intT n) rfl
  obtain ⟨j1, j2, -, -, -, -⟩ := hy1.open
  have hlen1 : x1.len = 2 := k4.symm
  have hs1 : x1.s = [45] := k3.symm
  have e1 : U1.cell? ⟨d1, o1 + 4 + 1, none⟩ = some (.int .i64 n) := by
    have := z1 1 _ rfl
    rw [← j2, show (intT n).n = n from rfl] at this
    simpa using this
  rw [eA, hlen1, hs1] at hc
  have f2 : U1.cell? ⟨g1, 2, none⟩ = some (.string ⟨#[45]⟩) := by rw [cell_of_row U1 g1 2 _ _ (0, 0) hc]; rfl
  have f3 : U1.cell? ⟨g1, 3, none⟩ = some (.slice (some ⟨d1, o1, none⟩) 2 x1.cap) := by rw [cell_of_row U1 g1 3 _ _ (0, 0) hc]; rfl
  have hc0 := (hb.block g0 HL4.out).trans HC4.out
  have f0 : U1.cell? ⟨g0, 0, none⟩ = some (.int .i64 2) := by rw [cell_of_row U1 g0 0 _ _ (0, 0) hc0]; rfl
  have f1 : U1.cell? ⟨g0, 1, none⟩ = some (.int .i64 n) := by rw [cell_of_row U1 g0 1 _ _ (0, 0) hc0]; rfl
  have HB5 := Lib.hid (HB4.out.trans (hb.mono HB4.out.size))
  have HE5 : Hid (RdEnv U1) := Lib.hid (HE4.out.later hb)
  have HP5 : Hid (PowAt U1) := Lib.hid (HP4.out.later hb)
  have hnn : (n != n) = false := by simp
  clear hb ht hl hc hc0 k1 k2 k3 k4 k6 j1 j2 hy1 z1 eA hlen1 hs1 HB4 HE4 HP4 HC4 HL4
  by_cases hneg : n < 0
  · go_wp2_with fail
    go_ret
    exact ⟨rfl, HB5.out⟩
  have hpos : ¬ n < 0 := hneg
  obtain ⟨i4, i5⟩ := HI3.out (by omega)
  have HI4 := Lib.hid i4
  have HI5 := Lib.hid i5
  clear i4 i5
  go_wp2_with fail
  clear f0 f1 f2 f3 e1
  refine (print_any U1 HP5.out n h0 h1).mono ?_
  rintro e w6 ⟨rfl, hb6⟩
  have HB6 := Lib.hid (HB5.out.trans (hb6.mono HB5.out.size))
  have HE6 : Hid (RdEnv w6) := Lib.hid (HE5.out.later hb6)
  have HP6 : Hid (PowAt w6) := Lib.hid (HP5.out.later hb6)
  clear hb6 HE5 HP5 HB5
  go_wp2_with fail
  rw [show (⟨#[45, 32]⟩ ++ ⟨(Lib.itoa n).toArray⟩ : ByteArray) = ⟨([45, 32] ++ Lib.itoa n).toArray⟩ from cat_i [45, 32] (Lib.itoa n)]
  refine (sure_any w6 HE6.out ([45, 32] ++ Lib.itoa n) (by have := HLEN.out; simp only [List.length_append, List.length_cons, List.length_nil]; omega)).mono ?_
  rintro e v2 ho
  obtain ⟨x2, rfl, hU⟩ := sure_put ho HI4.out
  go_upto_region 11 with fail
  obtain ⟨U2, hU2⟩ : ∃ U, U = v2.alloc (.cells #[.int .i64 x2.k, .int .i64 x2.n, .string ⟨x2.s.toArray⟩, .slice x2.A x2.len x2.cap] 25) := ⟨_, rfl⟩
  rw [← hU2]
  obtain ⟨hb, ht, hl, hc⟩ := hU U2 hU2
  clear hU2 hU ho
  generalize v2.heap.size = g2 at hl hc ⊢
  have HC2 := Lib.hid hc
  have HL2 := Lib.hid hl
  have HT2 := Lib.hid ht
  have HB7 := Lib.hid (HB6.out.trans (hb.mono HB6.out.size))
  have HE7 : Hid (RdEnv U2) := Lib.hid (HE6.out.later hb)
  have HP7 : Hid (PowAt U2) := Lib.hid (HP6.out.later hb)
  clear hb ht hl hc HB6 HE6 HP6
  go_wp2_with fail
  refine (print_any U2 HP7.out n h0 h1).mono ?_
  rintro e w8 ⟨rfl, hb8⟩
  have HC8 := Lib.hid ((hb8.block g2 HL2.out).trans HC2.out)
  have HL8 := Lib.hid (Nat.lt_of_lt_of_le HL2.out hb8.size)
  have HT8 := Lib.hid (HT2.out.later hb8)
  have HB8 := Lib.hid (HB7.out.trans (hb8.mono HB7.out.size))
  have HE8 : Hid (RdEnv w8) := Lib.hid (HE7.out.later hb8)
  clear hb8 HE7 HP7 HB7 HC2 HL2 HT2
  go_wp2_with fail
  rw [show (⟨#[45]⟩ ++ ⟨(Lib.itoa n).toArray⟩ : ByteArray) = ⟨([45] ++ Lib.itoa n).toArray⟩ from cat_i [45] (Lib.itoa n)]
  refine (sure_any w8 HE8.out ([45] ++ Lib.itoa n) (by have := HLEN.out; simp only [List.length_append, List.length_cons, List.length_nil]; omega)).mono ?_
  rintro e v3 ho
  obtain ⟨x3, rfl, hU⟩ := sure_put ho HI5.out
  go_upto_region 12 with fail
  obtain ⟨U3, hU3⟩ : ∃ U, U = v3.alloc (.cells #[.int .i64 x3.k, .int .i64 x3.n, .string ⟨x3.s.toArray⟩, .slice x3.A x3.len x3.cap] 25) := ⟨_, rfl⟩
  rw [← hU3]
  obtain ⟨hb, ht, hl, hc⟩ := hU U3 hU3
  clear hU3 hU ho
  generalize v3.heap.size = g3 at hl hc ⊢
  obtain ⟨k1, k2, -, -, -, -⟩ := ht.open
  obtain ⟨m1, m2, m3, m4, -, m6⟩ := (HT8.out.later hb).open
  obtain ⟨y2, d2, o2, eA, -, hy2, z2⟩ := m6 0 (intT n) rfl
  obtain ⟨j1, j2, -, -, -, -⟩ := hy2.open
  have hlen2 : x2.len = 1 := m4.symm
  have hs2 : x2.s = [45] := m3.symm
  have hk2 : x2.k = 4 := m1.symm
  have hk3 : x3.k = 2 := k1.symm
  have hn3 : x3.n = -n := k2.symm
  have e1 : U3.cell? ⟨d2, o2 + 1, none⟩ = some (.int .i64 n) := by
    have := z2 1 _ rfl
    rw [← j2, show (intT n).n = n from rfl] at this
    simpa using this
  have hc2 := (hb.block g2 HL8.out).trans HC8.out
  rw [eA, hlen2, hs2, hk2] at hc2
  rw [hk3, hn3] at hc
  have f0 : U3.cell? ⟨g2, 0, none⟩ = some (.int .i64 4) := by rw [cell_of_row U3 g2 0 _ _ (0, 0) hc2]; rfl
  have f2 : U3.cell? ⟨g2, 2, none⟩ = some (.string ⟨#[45]⟩) := by rw [cell_of_row U3 g2 2 _ _ (0, 0) hc2]; rfl
  have f3 : U3.cell? ⟨g2, 3, none⟩ = some (.slice (some ⟨d2, o2, none⟩) 1 x2.cap) := by rw [cell_of_row U3 g2 3 _ _ (0, 0) hc2]; rfl
  have f4 : U3.cell? ⟨g3, 0, none⟩ = some (.int .i64 2) := by rw [cell_of_row U3 g3 0 _ _ (0, 0) hc]; rfl
  have f5 : U3.cell? ⟨g3, 1, none⟩ = some (.int .i64 (-n)) := by rw [cell_of_row U3 g3 1 _ _ (0, 0) hc]; rfl
  have HB9 := Lib.hid (HB8.out.trans (hb.mono HB8.out.size))
  have hneg' : wrap64 (-n) = -n := by unfold wrap64; omega
  clear hb ht hl hc hc2 k1 k2 m1 m2 m3 m4 m6 j1 j2 hy2 z2 eA hlen2 hs2 hk2 hk3 hn3 HB8 HE8 HC8 HL8 HT8
  go_wp2_with fail
  go_ret
  exact ⟨rfl, HB9.out⟩
end Go.Proofs.YtmgidfndifhcoaaDoor
/-
  ReadInts holds: for every number the law answers true, and the argument reads behind the call as it read before. The row lists six package-level variables; the card ties them to the program's text.
-/
namespace Go.Proofs.YtmgidfndifhcoaaDoor.ReadIntsC
set_option maxRecDepth 100000
open Go.ChangeShapes Go.WideShapes Go.ChangeAt Go.RowKit Go.Deep
open Go.ChangeMaps (open_string)

theorem gPow : Tryd.prog.globalNamed "internal/strconv.uint64pow10" = some 4 := by kernel_rfl
theorem gPowType : (Tryd.prog.globals[4]?).map (·.type) = some 183 := by kernel_rfl
theorem powCells : Tryd.prog.cellsOf 162 = 1 := by kernel_rfl
theorem powsCells : Tryd.prog.cellsOf 183 = 20 := by kernel_rfl
theorem pow_of_laid {W : World} {rest : List (String × DataW Unit)} (h : laidMet Tryd.prog (("internal/strconv.uint64pow10", Rows.laid_internal_strconv_uint64pow10) :: rest) W) : PowAt W :=
  Lib.tabIs_of_head (rest := rest) gPow gPowType Tryd.underlying183 Tryd.underlying162 powCells powsCells h
theorem own : ownKnob Tryd.prog.godebug = none := by kernel_rfl
theorem laidOut : laidOutB Tryd.prog = true := by kernel_rfl
theorem params_ok : ∀ t ∈ Tryd.f6.params.toList, Tryd.prog.readableRec t = true ∧ t < Tryd.prog.types.size := by
  intro t ht
  have h : t ∈ [2] := ht
  simp only [List.mem_cons, List.mem_nil_iff, or_false] at h
  subst h
  exact ⟨by kernel_rfl, of_decide_eq_true (by kernel_rfl)⟩

theorem contract (H : Type) (enc : TypeId × Value → H) (W : World) (base : Nat) (args : Array Value) (ds gs : List (DataW H)) (before : List MemPlace)
    (hval : ∀ (j : Nat) t v, Tryd.f6.params[j]? = some t → args[j]? = some v → Value.okWide Tryd.prog W .any base t v)
    (hW : DataW.Whole enc Tryd.prog Tryd.f6.params.toList Rows.readIntsSpec.vars false W args.toList ds gs before) (hL : laidMetH Tryd.prog Rows.readIntsRow.laid W) (hsh : W.ShapedOpen Tryd.prog) :
    Calls Tryd.prog 6 args W fun e W' => ∃ v, e = .returned v ∧ Rows.readIntsSpec.post enc Tryd.prog Tryd.f6 false true false false W args v W' := by
  have hW' := hW
  obtain ⟨p, q, hA0, hV, rfl, hfz, hnd⟩ := hW
  have hA : DataW.TrodAll enc Tryd.prog W 0 (fun _ => true) true Tryd.f6.params.toList args.toList ds p := hA0
  rw [Tryd.params6] at hA hval
  obtain ⟨v0, vs0, d0, ds0, p0, q0, hargs, rfl, rfl, h0, r0⟩ := trodAll_cons hA
  obtain ⟨rfl, rfl, rfl⟩ := trodAll_nil r0
  obtain rfl : args = #[v0] := by cases args; simp_all
  obtain ⟨rfl, rfl⟩ := trodVars_none hV
  obtain ⟨n, rfl, rfl, rfl, wn⟩ := open_int Tryd.underlying2 (hval 0 2 v0 rfl rfl) h0
  have bn : -9223372036854775808 ≤ n ∧ n ≤ 9223372036854775807 := bounds_i64 wn
  obtain ⟨m, hm⟩ := cell_of_shapedOpen_int (P := Tryd.prog) (g := 3) (t := 3) (zero := #[.int .i64 0]) hsh (of_decide_eq_true (by kernel_rfl)) (by kernel_rfl) rfl (by kernel_rfl) (by kernel_rfl) Tryd.underlying3
  rw [MakeChecks.laidMetH_plain _ _ _ (by kernel_rfl)] at hL
  have hP := pow_of_laid hL.tail.tail
  have hL1 := hL.tail.tail.tail.tail
  have walk := ints_any W ⟨⟨m, hm⟩, kinds_of_laid hL1.tail, space_of_laid hL1⟩ hP n bn.1 bn.2
  refine walk.mono fun e W' ⟨he, hb⟩ => ?_
  subst he
  exact ⟨_, rfl, law_post laidOut Tryd.underlying4 rfl rfl hW' hb params_ok rfl rfl rfl⟩

theorem laid_met (os : Os) (args : Array Value) : laidMetH Tryd.prog Rows.readIntsRow.laid (((World.laidAll Tryd.prog os Rows.readIntsRow.laid).forCall (fun _ _ => 0) ⟨#[], args, []⟩).memory) := by
  rw [MakeChecks.laidMetH_plain _ _ _ (by kernel_rfl)]
  exact laidMet_laidAll _ (by kernel_rfl) (by kernel_rfl)
theorem reads (os : Os) {H : Type} (enc : TypeId × Value → H) : ∃ places, DataW.whole enc Tryd.prog ((World.laidAll Tryd.prog os Rows.readIntsRow.laid).forCall (fun _ _ => 0) ⟨#[], #[.int .i64 0], []⟩).memory Tryd.f6.params.toList Rows.readIntsSpec.vars false #[.int .i64 0].toList 8 = some ([.lit (.int .i64 0)], [], places) :=
  ⟨[], by kernel_rfl⟩

theorem lifted (os : Os) (started : os.Started) (H : Type) (enc : TypeId × Value → H) (F : Stop.Interp) :
    ReturnsInHanded {} Tryd.checked os 6 .any ((OpenSpec.ofChange Rows.readIntsSpec).preRow enc Tryd.prog Tryd.f6 Rows.readIntsRow.domain false Rows.readIntsRow.laid) (((OpenSpec.ofChange Rows.readIntsSpec).at F).post enc Tryd.prog Tryd.f6 false true false false) := by
  obtain ⟨places, hx⟩ := reads os enc
  refine returnsInHanded_of_row (C := Tryd.checked) (s := OpenSpec.ofChange Rows.readIntsSpec) own started (by kernel_rfl) Tryd.func6
    (witness_row_atRef (enc := enc) (C := Tryd.checked) false (World.laidAll Tryd.prog os Rows.readIntsRow.laid) #[.int .i64 0] (World.laidAll_os _ _ _) (by kernel_rfl) (by kernel_rfl) (by kernel_rfl)
      (OpenSpec.preRow_of_cond 8 hx (by kernel_rfl) (fun k hk => by cases hk) (by kernel_rfl) (laid_met os _))) ?_
  intro W base args ds gs before hval hW _ _ _ hL hsh _
  exact contract H enc W base args ds gs before hval hW hL hsh

theorem said : Rows.ReadIntsSaid :=
  OpenClaim.holds_of_cond 6 Tryd.f6 rfl rfl rfl rfl rfl rfl rfl ⟨rfl, rfl, rfl, rfl, rfl⟩ rfl rfl rfl rfl rfl (by kernel_rfl) Tryd.func6 (by kernel_rfl)
    (of_decide_eq_true (by kernel_rfl)) (by unfold Func.isWrapper; first | (rw [if_pos (by decide +kernel)]; kernel_rfl) | (rw [if_neg (by decide +kernel)]; exact ⟨rfl, rfl⟩))
    (fun os started H enc _ F => by rw [OpenClaim.pre_eq_preRow]; exact lifted os started H enc F)

theorem plain (f : FuncId) (fn : Func) (hf : Tryd.pinned.checked.prog.funcNamed "prolix/prolixlaw06.ReadInts" = some f) (hfn : Tryd.pinned.checked.prog.funcs[f]? = some fn) :
    false = Tryd.pinned.checked.prog.looks [] ∧ ∀ (j : Nat) t, fn.params[j]? = some t → Tryd.pinned.checked.prog.wantsStandIn t = false := by
  obtain rfl : f = 6 := Option.some.inj ((show Tryd.prog.funcNamed "prolix/prolixlaw06.ReadInts" = some 6 by kernel_rfl).symm.trans hf) |>.symm
  obtain rfl : fn = Tryd.f6 := (Option.some.inj (Tryd.func6.symm.trans hfn)).symm
  refine ⟨by kernel_rfl, fun j t ht => ?_⟩
  rw [Tryd.params6] at ht
  have hm : t ∈ [2] := by simpa using Array.mem_of_getElem? ht
  have hall : ([2].all fun u => !Tryd.prog.wantsStandIn u) = true := by kernel_rfl
  exact (show Tryd.prog.wantsStandIn t = false by simpa using List.all_eq_true.1 hall t hm)

theorem card : Rows.ReadIntsCardSaid :=
  Claim7.holds_tied_plain_at .later [] _ _ _ _ said (fun _ h => by cases h) (by kernel_rfl) (fun _ h => by cases h) readInts_row_tie rfl ⟨rfl, rfl⟩ (by kernel_rfl) rfl plain (by kernel_rfl)
end Go.Proofs.YtmgidfndifhcoaaDoor.ReadIntsC
