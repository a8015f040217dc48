/-
  What db.number makes of a clause without variables: its two terms in memory of their own. Condition: each term is one part, or a part with one argument that has none.
-/
import Derived.Test.YtiaajpfebcccfaaDbM
import Derived.Test.YtiaajpfebcccfaaRowRun
namespace Go.Proofs.Ytiaajpfebcccfaa
open Go.RowKit
set_option maxRecDepth 100000

/-- A term of one part, or of a part with one argument that has none. -/
structure SrcAt (w : World) (x : TV) (arg : Option (Int × Int × List UInt8)) : Prop where
  nvar : x.k ≠ 1
  str : x.s.length ≤ maxLen
  rest : match arg with
    | none => x.len = 0
    | some a => x.len = 1 ∧ a.1 ≠ 1 ∧ a.2.2.length ≤ maxLen ∧ ∃ b off A2 c2, x.A = some ⟨b, off, none⟩ ∧ b < w.heap.size ∧ ∀ j u, (encTV ⟨a.1, a.2.1, a.2.2, A2, 0, c2⟩)[j]? = some u → w.cell? ⟨b, off + j, none⟩ = some u
theorem SrcAt.later {w w' : World} {x : TV} {arg : Option (Int × Int × List UInt8)} (h : SrcAt w x arg) (hb : Below w.heap.size w w') : SrcAt w' x arg := by
  refine ⟨h.nvar, h.str, ?_⟩
  have hr := h.rest
  cases arg with
  | none => exact hr
  | some a =>
    obtain ⟨h1, h2, h3, b, off, A2, c2, h4, h5, h6⟩ := hr
    exact ⟨h1, h2, h3, b, off, A2, c2, h4, Nat.lt_of_lt_of_le h5 hb.size, fun j u hu => (hb.cell (p := ⟨b, off + j, none⟩) h5).trans (h6 j u hu)⟩
def tmOf (x : TV) (arg : Option (Int × Int × List UInt8)) : Tm := .mk x.k x.n x.s (match arg with | none => [] | some a => [.mk a.1 a.2.1 a.2.2 []])
theorem SrcAt.tm {w : World} {x : TV} {arg : Option (Int × Int × List UInt8)} (h : SrcAt w x arg) : TermAt w w.heap.size x (tmOf x arg) := by
  have hr := h.rest
  cases arg with
  | none =>
    obtain ⟨k, n, s, A, l, c⟩ := x
    simp only at hr
    subst hr
    exact TermAt.leaf w _ k n s A c h.str
  | some a =>
    obtain ⟨h1, h2, h3, b, off, A2, c2, h4, h5, h6⟩ := hr
    refine .mk x _ [⟨a.1, a.2.1, a.2.2, A2, 0, c2⟩] (by rw [h1]; rfl) (by rw [h1]; rfl) h.str (fun i y hy => ?_) (fun i y t hy ht => ?_)
    · obtain ⟨rfl, rfl⟩ : i = 0 ∧ y = ⟨a.1, a.2.1, a.2.2, A2, 0, c2⟩ := by
        rcases Nat.eq_zero_or_pos i with rfl | h0
        · simp at hy; exact ⟨rfl, hy.symm⟩
        · rw [List.getElem?_eq_none (by simp; omega)] at hy; cases hy
      exact ⟨b, off, h4, h5, fun j u hu => by rw [Nat.zero_mul, Nat.add_zero]; exact h6 j u hu⟩
    · rcases Nat.eq_zero_or_pos i with rfl | h0
      · simp at hy ht
        subst hy ht
        exact TermAt.leaf w _ _ _ _ _ _ h3
      · rw [List.getElem?_eq_none (by simp; omega)] at hy; cases hy
theorem SrcAt.noVar {w : World} {x : TV} {arg : Option (Int × Int × List UInt8)} (h : SrcAt w x arg) : (tmOf x arg).noVar = true ∧ (tmOf x arg).size ≤ 2 ∧ (tmOf x arg).deep ≤ 2 := by
  have hr := h.rest
  have h1 := h.nvar
  cases arg with
  | none => simp [tmOf, Tm.noVar, Tm.noVars, Tm.size, Tm.sizes, Tm.deep, Tm.deeps, h1]
  | some a => simp [tmOf, Tm.noVar, Tm.noVars, Tm.size, Tm.sizes, Tm.deep, Tm.deeps, h1, hr.2.1]

/-- Its copy in memory of its own, from block B on. -/
def CopyAt (B : Nat) (w : World) (x x' : TV) (arg : Option (Int × Int × List UInt8)) : Prop :=
  match arg with
  | none => x' = leafTV x.k x.n x.s
  | some a => ∃ g, x' = ⟨x.k, x.n, x.s, some ⟨g, 0, none⟩, 1, 1⟩ ∧ B ≤ g ∧ w.heap[g]? = some (.cells (encTV (leafTV a.1 a.2.1 a.2.2)).toArray 33 (0, 0))
theorem CopyAt.keep {B B' : Nat} {w w' : World} {x x' : TV} {arg : Option (Int × Int × List UInt8)} (h : CopyAt B w x x' arg) (hB : B' ≤ B) (hb : ∀ k cs, w.heap[k]? = some (.cells cs 33 (0, 0)) → B ≤ k → w'.heap[k]? = w.heap[k]?) : CopyAt B' w' x x' arg := by
  cases arg with
  | none => exact h
  | some a =>
    obtain ⟨g, h1, h2, h3⟩ := h
    exact ⟨g, h1, by omega, (hb g _ h3 h2).trans h3⟩
theorem CopyAt.later {B B' : Nat} {w w' : World} {x x' : TV} {arg : Option (Int × Int × List UInt8)} (h : CopyAt B w x x' arg) (hB : B' ≤ B) (hb : Below w.heap.size w w') : CopyAt B' w' x x' arg :=
  h.keep hB fun k _ hk _ => hb.block k (Array.getElem?_eq_some_iff.1 hk).1
theorem CopyAt.shape {B : Nat} {w : World} {x x' : TV} {arg : Option (Int × Int × List UInt8)} (h : CopyAt B w x x' arg) : x'.k = x.k ∧ x'.n = x.n ∧ x'.s = x.s ∧ x'.len = (match arg with | none => 0 | some _ => 1) := by
  cases arg with
  | none =>
    have h' : x' = leafTV x.k x.n x.s := h
    subst h'
    exact ⟨rfl, rfl, rfl, rfl⟩
  | some a =>
    obtain ⟨g, rfl, _⟩ := h
    exact ⟨rfl, rfl, rfl, rfl⟩

theorem made_src (w : World) (x : TV) (arg : Option (Int × Int × List UInt8)) (h : SrcAt w x arg) (F : FuncId) (rc cs : Array Value) :
    Calls Try.prog 27 #[tvV x, .func (.func F) rc cs] w fun e w' => ∃ x', e = .returned (tvV x') ∧ CopyAt w.heap.size w' x x' arg ∧ Below w.heap.size w w' := by
  have hr := h.rest
  have hk := h.nvar
  obtain ⟨k, n, s, A, l, c⟩ := x
  cases arg with
  | none =>
    simp only at hr hk
    subst hr
    refine (made_leaf w k n s A c _ hk).mono ?_
    rintro e w' ⟨rfl, hb⟩
    exact ⟨_, rfl, rfl, hb⟩
  | some a =>
    obtain ⟨h1, h2, _, b, off, A2, c2, h4, _, h6⟩ := hr
    simp only at h1 h4 hk
    subst h1 h4
    refine (made_one w k n s b off c a.1 a.2.1 a.2.2 A2 c2 F rc cs hk h2 (h6 0 _ rfl) (h6 1 _ rfl) (h6 2 _ rfl) (h6 3 _ rfl)).mono ?_
    rintro e w' ⟨g, rfl, hg, hc, hb⟩
    exact ⟨_, rfl, ⟨g, rfl, hg, hc⟩, hb⟩
theorem own_src (w : World) (x : TV) (arg : Option (Int × Int × List UInt8)) (h : SrcAt w x arg) :
    Calls Try.prog 22 #[tvV x] w fun e w' => ∃ x', e = .returned (tvV x') ∧ CopyAt w.heap.size w' x x' arg ∧ Below w.heap.size w w' := by
  have hr := h.rest
  have hk := h.nvar
  obtain ⟨k, n, s, A, l, c⟩ := x
  cases arg with
  | none =>
    simp only at hr hk
    subst hr
    refine (own_leaf w k n s A c hk).mono ?_
    rintro e w' ⟨rfl, hb⟩
    exact ⟨_, rfl, rfl, hb⟩
  | some a =>
    obtain ⟨h1, h2, _, b, off, A2, c2, h4, _, h6⟩ := hr
    simp only at h1 h4 hk
    subst h1 h4
    refine (own_one w k n s b off c a.1 a.2.1 a.2.2 A2 c2 hk h2 (h6 0 _ rfl) (h6 1 _ rfl) (h6 2 _ rfl) (h6 3 _ rfl)).mono ?_
    rintro e w' ⟨g, rfl, hg, hc, hb⟩
    exact ⟨_, rfl, ⟨g, rfl, hg, hc⟩, hb⟩

/-- The two boxed arguments, as cells. -/
abbrev Flat (bx bz : Nat) (x y : TV) (u : World) : Prop :=
  u.cell? ⟨bx, 0, none⟩ = some (.int .i64 x.k) ∧ u.cell? ⟨bx, 1, none⟩ = some (.int .i64 x.n) ∧ u.cell? ⟨bx, 2, none⟩ = some (.string ⟨x.s.toArray⟩) ∧ u.cell? ⟨bx, 3, none⟩ = some (.slice x.A x.len x.cap) ∧
  u.cell? ⟨bz, 0, none⟩ = some (.int .i64 y.k) ∧ u.cell? ⟨bz, 1, none⟩ = some (.int .i64 y.n) ∧ u.cell? ⟨bz, 2, none⟩ = some (.string ⟨y.s.toArray⟩) ∧ u.cell? ⟨bz, 3, none⟩ = some (.slice y.A y.len y.cap)
theorem flat_of {bx bz : Nat} {x y : TV} {u : World} (h1 : u.heap[bx]? = some (.cells (encTV x).toArray 33 (0, 0))) (h2 : u.heap[bz]? = some (.cells (encTV y).toArray 33 (0, 0))) : Flat bx bz x y u := by
  obtain ⟨a0, a1, a2, a3, _⟩ := four_cells h1
  obtain ⟨b0, b1, b2, b3, _⟩ := four_cells h2
  exact ⟨a0, a1, a2, a3, b0, b1, b2, b3⟩
theorem flat_drew {bx bz : Nat} {x y : TV} {u : World} (h : Flat bx bz x y u) : Flat bx bz x y u.drew := h
theorem flat_later {bx bz : Nat} {x y : TV} {u u' : World} (h : Flat bx bz x y u) (hb : Below u.heap.size u u') : Flat bx bz x y u' := by
  obtain ⟨a0, a1, a2, a3, b0, b1, b2, b3⟩ := h
  have l1 := World.block_lt_of_cell? u _ a0
  have l2 := World.block_lt_of_cell? u _ b0
  exact ⟨(hb.cell (p := ⟨bx, 0, none⟩) l1).trans a0, (hb.cell (p := ⟨bx, 1, none⟩) l1).trans a1, (hb.cell (p := ⟨bx, 2, none⟩) l1).trans a2, (hb.cell (p := ⟨bx, 3, none⟩) l1).trans a3,
    (hb.cell (p := ⟨bz, 0, none⟩) l2).trans b0, (hb.cell (p := ⟨bz, 1, none⟩) l2).trans b1, (hb.cell (p := ⟨bz, 2, none⟩) l2).trans b2, (hb.cell (p := ⟨bz, 3, none⟩) l2).trans b3⟩

theorem flat_put {bx bz k o : Nat} {x y : TV} {u : World} (h : Flat bx bz x y u) (hp : k ≠ bx ∧ k ≠ bz) (v : Value) : Flat bx bz x y (u.setCell ⟨k, o, none⟩ v) := by
  obtain ⟨a0, a1, a2, a3, b0, b1, b2, b3⟩ := h
  have e1 := Deep.blk_setCell_other u ⟨k, o, none⟩ v bx (fun e => hp.1 e.symm)
  have e2 := Deep.blk_setCell_other u ⟨k, o, none⟩ v bz (fun e => hp.2 e.symm)
  exact ⟨(World.cell?_of_block (a := ⟨bx, 0, none⟩) e1).trans a0, (World.cell?_of_block (a := ⟨bx, 1, none⟩) e1).trans a1, (World.cell?_of_block (a := ⟨bx, 2, none⟩) e1).trans a2, (World.cell?_of_block (a := ⟨bx, 3, none⟩) e1).trans a3,
    (World.cell?_of_block (a := ⟨bz, 0, none⟩) e2).trans b0, (World.cell?_of_block (a := ⟨bz, 1, none⟩) e2).trans b1, (World.cell?_of_block (a := ⟨bz, 2, none⟩) e2).trans b2, (World.cell?_of_block (a := ⟨bz, 3, none⟩) e2).trans b3⟩

set_option maxHeartbeats 4000000 in
theorem number_src (w : World) (x y : TV) (ax ay : Option (Int × Int × List UInt8)) (hx : SrcAt w x ax) (hy : SrcAt w y ay) :
    Calls Try.prog 15 #[tvV x, tvV y] w fun e w' => ∃ x' y', e = .returned (.tuple #[tvV x', tvV y']) ∧ CopyAt w.heap.size w' x x' ax ∧ CopyAt w.heap.size w' y y' ay ∧ Below w.heap.size w w' := by
  have hmm := @run_makeMap Try.prog
  obtain ⟨W0, hW0⟩ : ∃ W0, allocs w [.cells (encTV x).toArray 33, .cells (encTV y).toArray 33, .cells #[.int .i64 0, .int .i64 0, .string ⟨#[]⟩, .slice none 0 0] 33, .cells #[.int .i64 0, .int .i64 0, .string ⟨#[]⟩, .slice none 0 0] 33,
    .map #[] 0, .cells #[.map (some (w.heap.size + 1 + 1 + 1 + 1))] 67] = W0 := ⟨_, rfl⟩
  have hb0 : Below w.heap.size w W0 := by rw [← hW0]; exact allocs_below _ _
  have hs0 : W0.heap.size = w.heap.size + 6 := by rw [← hW0, allocs_size]; rfl
  have h0 : W0.heap[w.heap.size]? = some (.cells (encTV x).toArray 33 (0, 0)) := by rw [← hW0]; exact allocs_at w _ 0 _ rfl
  have h1 : W0.heap[w.heap.size + 1]? = some (.cells (encTV y).toArray 33 (0, 0)) := by rw [← hW0]; exact allocs_at w _ 1 _ rfl
  have h2 : W0.heap[w.heap.size + 1 + 1]? = some (.cells #[.int .i64 0, .int .i64 0, .string ⟨#[]⟩, .slice none 0 0] 33 (0, 0)) := by rw [← hW0]; exact allocs_at w _ 2 _ rfl
  have h3 : W0.heap[w.heap.size + 1 + 1 + 1]? = some (.cells #[.int .i64 0, .int .i64 0, .string ⟨#[]⟩, .slice none 0 0] 33 (0, 0)) := by rw [← hW0]; exact allocs_at w _ 3 _ rfl
  have HF := Lib.hid (flat_of h0 h1)
  have HX := Lib.hid (hx.later hb0)
  have HY := Lib.hid (hy.later hb0)
  have HB0 := Lib.hid hb0
  have H2 := Lib.hid h2
  have H3 := Lib.hid h3
  have HW0 := Lib.hid hW0
  have HVX : Hid (∀ u, SrcAt u x ax → Calls Try.prog 25 #[.agg #[.int .i64 x.k, .int .i64 x.n, .string ⟨x.s.toArray⟩, .slice x.A x.len x.cap]] u fun e w' => e = .returned (.slice none 0 0) ∧ Below u.heap.size u w') :=
    Lib.hid fun u h => vars_none u x _ h.tm h.noVar.1 (by have := h.noVar.2.1; omega)
  have HVY : Hid (∀ u, SrcAt u y ay → Calls Try.prog 25 #[.agg #[.int .i64 y.k, .int .i64 y.n, .string ⟨y.s.toArray⟩, .slice y.A y.len y.cap]] u fun e w' => e = .returned (.slice none 0 0) ∧ Below u.heap.size u w') :=
    Lib.hid fun u h => vars_none u y _ h.tm h.noVar.1 (by have := h.noVar.2.1; omega)
  have HMX : Hid (∀ (u : World) (F : FuncId) (rc cs : Array Value), SrcAt u x ax → Calls Try.prog 27 #[.agg #[.int .i64 x.k, .int .i64 x.n, .string ⟨x.s.toArray⟩, .slice x.A x.len x.cap], .func (.func F) rc cs] u fun e w' => ∃ x', e = .returned (tvV x') ∧ CopyAt u.heap.size w' x x' ax ∧ Below u.heap.size u w') :=
    Lib.hid fun u F rc cs h => made_src u x ax h F rc cs
  have HMY : Hid (∀ (u : World) (F : FuncId) (rc cs : Array Value), SrcAt u y ay → Calls Try.prog 27 #[.agg #[.int .i64 y.k, .int .i64 y.n, .string ⟨y.s.toArray⟩, .slice y.A y.len y.cap], .func (.func F) rc cs] u fun e w' => ∃ x', e = .returned (tvV x') ∧ CopyAt u.heap.size w' y x' ay ∧ Below u.heap.size u w') :=
    Lib.hid fun u F rc cs h => made_src u y ay h F rc cs
  have hs6 : w.heap.size + 6 ≤ W0.heap.size := by omega
  clear hx hy hb0 h0 h1 h2 h3 hW0 hs0
  rw [tvV_lit, tvV_lit]
  go_enter Try.func15, Try.ntmps15
  go_wp2_with fail
  change Code.wp _ _ _ _ (allocs w [.cells (encTV x).toArray 33, .cells (encTV y).toArray 33, .cells #[.int .i64 0, .int .i64 0, .string ⟨#[]⟩, .slice none 0 0] 33, .cells #[.int .i64 0, .int .i64 0, .string ⟨#[]⟩, .slice none 0 0] 33,
    .map #[] 0, .cells #[.map (some (w.heap.size + 1 + 1 + 1 + 1))] 67])
  rw [HW0.out]
  clear hmm HW0
  go_region_held3 (fun u => u.cell? ⟨w.heap.size, 0, none⟩ = some (.int .i64 x.k) ∧ u.cell? ⟨w.heap.size, 1, none⟩ = some (.int .i64 x.n) ∧ u.cell? ⟨w.heap.size, 2, none⟩ = some (.string ⟨x.s.toArray⟩) ∧ u.cell? ⟨w.heap.size, 3, none⟩ = some (.slice x.A x.len x.cap) ∧
  u.cell? ⟨w.heap.size + 1, 0, none⟩ = some (.int .i64 y.k) ∧ u.cell? ⟨w.heap.size + 1, 1, none⟩ = some (.int .i64 y.n) ∧ u.cell? ⟨w.heap.size + 1, 2, none⟩ = some (.string ⟨y.s.toArray⟩) ∧ u.cell? ⟨w.heap.size + 1, 3, none⟩ = some (.slice y.A y.len y.cap))
    (first | (with_reducible exact flat_drew HF.out) | (with_reducible exact HF.out) | (with_reducible exact flat_later (flat_drew HF.out) hb1) | (with_reducible exact flat_later (flat_later (flat_drew HF.out) hb1) hb2))
    (first | (go_at_call 25; with_reducible refine (HVX.out _ (HX.out.later (Below.refl _ _).drew)).mono ?_; rintro e u1 ⟨rfl, hb1⟩) | (go_at_call 25; with_reducible refine (HVY.out u1 ((HY.out.later (Below.refl _ _).drew).later hb1)).mono ?_; rintro e u2 ⟨rfl, hb2⟩))
  have HB2 := Lib.hid (((Below.refl W0.heap.size W0).drew).trans (hb1.trans (hb2.mono hb1.size)))
  obtain ⟨v2, rfl⟩ : ∃ v2 : World, v2 = u2 := ⟨_, rfl⟩
  clear hb1 hb2
  go_wp2_with fail
  go_loopw [19] (fun i u => i = .int .i64 0 ∧ u = v2) (fun _ _ => 0)
  case atStart => exact ⟨rfl, rfl⟩
  case round =>
    obtain ⟨rfl, rfl⟩ := hrel
    have HF2 := Lib.hid (flat_later HF.out HB2.out)
    have HX2 := Lib.hid (HX.out.later HB2.out)
    have HY2 := Lib.hid (HY.out.later HB2.out)
    have H22 := Lib.hid ((HB2.out.block _ (by omega)).trans H2.out)
    have H32 := Lib.hid ((HB2.out.block _ (by omega)).trans H3.out)
    have hz2 := HB2.out.size
    clear HF HX HY HVX HVY H2 H3
    go_wp2_with fail
    go_region_held3 (fun u => u.cell? ⟨w.heap.size, 0, none⟩ = some (.int .i64 x.k) ∧ u.cell? ⟨w.heap.size, 1, none⟩ = some (.int .i64 x.n) ∧ u.cell? ⟨w.heap.size, 2, none⟩ = some (.string ⟨x.s.toArray⟩) ∧ u.cell? ⟨w.heap.size, 3, none⟩ = some (.slice x.A x.len x.cap) ∧
      u.cell? ⟨w.heap.size + 1, 0, none⟩ = some (.int .i64 y.k) ∧ u.cell? ⟨w.heap.size + 1, 1, none⟩ = some (.int .i64 y.n) ∧ u.cell? ⟨w.heap.size + 1, 2, none⟩ = some (.string ⟨y.s.toArray⟩) ∧ u.cell? ⟨w.heap.size + 1, 3, none⟩ = some (.slice y.A y.len y.cap))
      (((repeat (with_reducible refine flat_put ?_ (by omega) _)); first | (with_reducible exact flat_drew HF2.out) | (with_reducible exact HF2.out) | (with_reducible exact flat_later (flat_drew HF2.out) hb3) | (with_reducible exact flat_later (flat_later (flat_drew HF2.out) hb3) hb4) | (with_reducible assumption)))
      (first | (go_at_call 27; with_reducible refine (HMX.out _ _ _ _ (HX2.out.later (Below.refl _ _).drew)).mono ?_; rintro e u3 ⟨x', rfl, hcx, hb3⟩) | (go_at_call 27; with_reducible refine (HMY.out u3 _ _ _ ((HY2.out.later (Below.refl _ _).drew).later hb3)).mono ?_; rintro e u4 ⟨y', rfl, hcy, hb4⟩; obtain ⟨r0, r1, r2, r3, rf⟩ := four_cells ((hb4.block _ (by have := hb3.size; simp at this; omega)).trans ((hb3.block _ (by simp; omega)).trans H22.out)); obtain ⟨s0, s1, s2, s3, sf⟩ := four_cells ((hb4.block _ (by have := hb3.size; simp at this; omega)).trans ((hb3.block _ (by simp; omega)).trans H32.out)); rw [tvV_lit, tvV_lit]))
    all_goals
      have hbz := hb3.size
      have hby := hb4.size
      have hcx4 := hcx.later (Nat.le_refl _) hb4
      have hw2 : w.heap.size ≤ wr.heap.size := by omega
      have hbA : Below w.heap.size w u4 := HB0.out.trans ((HB2.out.trans (((Below.refl wr.heap.size wr).drew.trans (hb3.trans (hb4.mono hb3.size))).mono hz2)).mono HB0.out.size)
      have HCX := Lib.hid hcx4
      have HCY := Lib.hid hcy
      have HBA := Lib.hid hbA
      have hy9 : wr.heap.size ≤ u3.heap.size := by simpa using hbz
      clear hcx hcy hb3 hb4 hcx4 hbA hbz hby
      go_wp2_with fail
      refine bodyPost_ret (v := .tuple #[tvV x', tvV y']) (by simp [results, Try.results15, go_sem, r0, r1, r2, r3, s0, s1, s2, s3, tvV]) rfl ⟨x', y', rfl, ?_, ?_, ?_⟩
      · exact HCX.out.keep (by simpa using hw2) (fun k _ _ hk => by
          have hk' : wr.heap.size ≤ k := by simpa using hk
          repeat (rw [Deep.blk_setCell_other _ _ _ _ (by first | omega | (simp only; omega))]))
      · exact HCY.out.keep (by omega) (fun k _ _ hk => by
          repeat (rw [Deep.blk_setCell_other _ _ _ _ (by first | omega | (simp only; omega))]))
      · repeat (refine Below.setCell ?_ (by simp only; omega) _)
        exact HBA.out
end Go.Proofs.Ytiaajpfebcccfaa
