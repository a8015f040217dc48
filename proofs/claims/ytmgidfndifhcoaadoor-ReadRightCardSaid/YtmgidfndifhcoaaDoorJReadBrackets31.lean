import Derived.Test.YtmgidfndifhcoaaDoorJReadBrackets30
import Derived.Test.YtmgidfndifhcoaaDoorJReadBrackets29
import Derived.Test.YtmgidfndifhcoaaDoorJReadBrackets08
import Derived.Test.YtmgidfndifhcoaaDoorJReadBrackets04
/-
  The text that the law tries first: its tokens, and what is read of them. Plain laws.
-/
namespace Go.Proofs.YtmgidfndifhcoaaDoor
set_option maxRecDepth 100000

def aliveT : List UInt8 := [97, 32, 58, 45, 32, 98, 44, 32, 92, 43, 32, 99, 46, 32, 45, 32, 49, 46, 32, 45, 49, 46, 32, 91, 97, 124, 84, 93, 46]
def aliveL : List Tok := [⟨1, 1, 0, [97], false, false⟩, ⟨1, 1, 0, [58, 45], false, false⟩, ⟨1, 1, 0, [98], false, false⟩,
  ⟨6, 1, 0, [44], false, true⟩, ⟨1, 1, 0, [92, 43], false, false⟩, ⟨1, 1, 0, [99], false, false⟩,
  ⟨7, 1, 0, [], false, true⟩, ⟨1, 1, 0, [45], false, false⟩, ⟨3, 1, 1, [], false, false⟩, ⟨7, 1, 0, [], false, true⟩,
  ⟨1, 1, 0, [45], false, false⟩, ⟨3, 1, 1, [], false, true⟩, ⟨7, 1, 0, [], false, true⟩, ⟨6, 1, 0, [91], false, false⟩,
  ⟨1, 1, 0, [97], false, true⟩, ⟨6, 1, 0, [124], false, true⟩, ⟨4, 1, 0, [84], false, true⟩,
  ⟨6, 1, 0, [93], false, true⟩, ⟨7, 1, 0, [], false, true⟩, ⟨0, 1, 0, [], false, false⟩]
theorem alive_lex : lexB aliveT = (aliveL, 0, 0) := by rfl
def ruleT : Tm := .mk 4 0 [58, 45] [.mk 3 0 [97] [], .mk 4 0 [44] [.mk 3 0 [98] [], .mk 4 0 [92, 43] [.mk 3 0 [99] []]]]
theorem alive_0 : readF (opsOf opsInit) aliveL 0 = (⟨ruleT, [], 1, 7⟩, 0) := by kernel_rfl
theorem alive_7 : readF (opsOf opsInit) aliveL 7 = (⟨.mk 4 0 [45] [.mk 2 1 [] []], [], 1, 10⟩, 0) := by kernel_rfl
theorem alive_10 : readF (opsOf opsInit) aliveL 10 = (⟨.mk 2 (-1) [] [], [], 1, 13⟩, 0) := by kernel_rfl
theorem alive_13 : ∃ t, readF (opsOf opsInit) aliveL 13 = (⟨t, [([84], 0)], 1, 19⟩, 0) := ⟨.mk 4 0 [46] [.mk 3 0 [97] [], .mk 1 0 [] []], by kernel_rfl⟩
theorem alive_19 : readF (opsOf opsInit) aliveL 19 = (⟨noTm, [], 0, 0⟩, 7) := by kernel_rfl
theorem alive_same : sameTm ruleT ruleT = true := sameTm_self _
end Go.Proofs.YtmgidfndifhcoaaDoor
/-
  What the law tries first: a text of five clauses is lexed and read. Conditions: the tables are laid.
-/
namespace Go.Proofs.YtmgidfndifhcoaaDoor
open Go.RowKit Go.Maps
set_option maxRecDepth 100000

/-- The worlds between the readings. -/
structure Alv (w u : World) (A : Option Addr) (bt bm : Nat) : Prop where
  below : Below w.heap.size w u
  tab : TabAt u bt bm opsInit
  kinds : KindsAt u
  toks : ToksAt u u.heap.size A 20 aliveL
theorem Alv.later {w u u' : World} {A : Option Addr} {bt bm : Nat} (h : Alv w u A bt bm) (hb : Below u.heap.size u u') : Alv w u' A bt bm :=
  ⟨h.below.trans (hb.mono h.below.size), h.tab.later hb, h.kinds.later hb, (h.toks.keep hb.block).up hb.size⟩
theorem aliveL_ok : TokOk aliveL := by
  have h := tokOk_lex (T := aliveT) (by decide)
  rwa [alive_lex] at h
theorem Alv.read {w u : World} {A : Option Addr} {bt bm : Nat} (h : Alv w u A bt bm) (c : Nat) (i : Int) {r : ClauseF × Int} (hr : readF (opsOf opsInit) aliveL i = r) :
    Calls Tryd.prog 10 #[.slice A 20 c, .int .i64 i, .pointer (some ⟨bt, 0, none⟩)] u fun e u' => ReadOut u u' r e := by
  rw [← hr]
  exact read_any u A 20 c aliveL h.toks aliveL_ok i bt bm opsInit h.tab h.kinds
/-- A clause in a block of its own. -/
theorem Alv.put {w u u' : World} {A : Option Addr} {bt bm : Nat} (h : Alv w u A bt bm) {c : ClauseF × Int} {e : Ending} (ho : ReadOut u u' c e) :
    ∃ x An m, e = .returned (.tuple #[clV x (.slice An c.1.names.length m) c.1.line c.1.next, .int .i64 c.2]) ∧
      ∀ U, U = u'.alloc (.cells #[.int .i64 x.k, .int .i64 x.n, .string ⟨x.s.toArray⟩, .slice x.A x.len x.cap, .slice An c.1.names.length m, .int .i64 c.1.line, .int .i64 c.1.next] 28) →
      Alv w U A bt bm ∧ Below u.heap.size u U ∧ TermAt U U.heap.size x c.1.t ∧ (∃ B, Row U B 57 2 encB (.slice An c.1.names.length m) c.1.names) ∧ u'.heap.size < U.heap.size ∧
      U.heap[u'.heap.size]? = some (.cells #[.int .i64 x.k, .int .i64 x.n, .string ⟨x.s.toArray⟩, .slice x.A x.len x.cap, .slice An c.1.names.length m, .int .i64 c.1.line, .int .i64 c.1.next] 28 (0, 0)) := by
  obtain ⟨hb, x, nv, B, rfl, hx, hn⟩ := ho
  obtain ⟨An, m, rfl⟩ := hn.shape
  refine ⟨x, An, m, rfl, fun U hU => ?_⟩
  subst hU
  have hb' := hb.trans ((Below.refl _ _).alloc hb.size (.cells #[.int .i64 x.k, .int .i64 x.n, .string ⟨x.s.toArray⟩, .slice x.A x.len x.cap, .slice An c.1.names.length m, .int .i64 c.1.line, .int .i64 c.1.next] 28))
  refine ⟨h.later hb', hb', ?_, ⟨B, Row.keep hn fun k hk => Below.heap_alloc _ _ _ (hn.lt k hk).2⟩, by rw [World.size_alloc]; omega, heap_alloc_new _ _⟩
  exact ((hx.at fun b hb => hb.lt) : TermAt u' u'.heap.size x c.1.t).later ((Below.refl _ _).alloc (Nat.le_refl _) _)

set_option maxHeartbeats 1000000 in
theorem latom_any (w : World) (s : List UInt8) : Calls Tryd.prog 21 #[.string ⟨s.toArray⟩] w fun e w' => e = .returned (.agg #[.int .i64 3, .int .i64 0, .string ⟨s.toArray⟩, .slice none 0 0]) ∧ Below w.heap.size w w' := by
  go_enter Tryd.func21, Tryd.ntmps21
  go_wp2_with fail
  obtain ⟨z0, z1, z2, z3, -⟩ := four_at (heap_alloc_new w (.cells #[.int .i64 3, .int .i64 0, .string ⟨s.toArray⟩, .slice none 0 0] 25))
  exact ⟨rfl, _, by simp [results, Tryd.results21, go_sem, z0, z1, z2, z3], rfl, (Below.refl _ _).alloc (Nat.le_refl _) _⟩

/-- The rule that the law lays beside it. -/
theorem rule_made (V W : World) (hW : W = (((V.alloc (.cells #[.int .i64 3, .int .i64 0, .string ⟨#[99]⟩, .slice none 0 0] 25)).alloc (.cells #[.int .i64 3, .int .i64 0, .string ⟨#[98]⟩, .slice none 0 0, .int .i64 4, .int .i64 0, .string ⟨#[92, 43]⟩, .slice (some ⟨V.heap.size, 0, none⟩) 1 1] 25)).alloc (.cells #[.int .i64 3, .int .i64 0, .string ⟨#[97]⟩, .slice none 0 0, .int .i64 4, .int .i64 0, .string ⟨#[44]⟩, .slice (some ⟨V.heap.size + 1, 0, none⟩) 2 2] 25)).alloc (.cells #[.int .i64 4, .int .i64 0, .string ⟨#[58, 45]⟩, .slice (some ⟨V.heap.size + 1 + 1, 0, none⟩) 2 2] 25)) :
    TermAt W W.heap.size ⟨4, 0, [58, 45], some ⟨V.heap.size + 1 + 1, 0, none⟩, 2, 2⟩ ruleT ∧ W.heap[V.heap.size + 1 + 1 + 1]? = some (.cells #[.int .i64 4, .int .i64 0, .string ⟨#[58, 45]⟩, .slice (some ⟨V.heap.size + 1 + 1, 0, none⟩) 2 2] 25 (0, 0)) ∧ Below V.heap.size V W ∧ V.heap.size + 1 + 1 + 1 < W.heap.size := by
  have ha : W = allocs V [.cells #[.int .i64 3, .int .i64 0, .string ⟨#[99]⟩, .slice none 0 0] 25, .cells #[.int .i64 3, .int .i64 0, .string ⟨#[98]⟩, .slice none 0 0, .int .i64 4, .int .i64 0, .string ⟨#[92, 43]⟩, .slice (some ⟨V.heap.size, 0, none⟩) 1 1] 25, .cells #[.int .i64 3, .int .i64 0, .string ⟨#[97]⟩, .slice none 0 0, .int .i64 4, .int .i64 0, .string ⟨#[44]⟩, .slice (some ⟨V.heap.size + 1, 0, none⟩) 2 2] 25, .cells #[.int .i64 4, .int .i64 0, .string ⟨#[58, 45]⟩, .slice (some ⟨V.heap.size + 1 + 1, 0, none⟩) 2 2] 25] := hW
  have hs : W.heap.size = V.heap.size + 4 := by rw [ha, allocs_size]; rfl
  have h0 : W.heap[V.heap.size]? = some (.cells #[.int .i64 3, .int .i64 0, .string ⟨#[99]⟩, .slice none 0 0] 25 (0, 0)) := by rw [ha]; exact allocs_at V _ 0 _ rfl
  have h1 : W.heap[V.heap.size + 1]? = some (.cells #[.int .i64 3, .int .i64 0, .string ⟨#[98]⟩, .slice none 0 0, .int .i64 4, .int .i64 0, .string ⟨#[92, 43]⟩, .slice (some ⟨V.heap.size, 0, none⟩) 1 1] 25 (0, 0)) := by rw [ha]; exact allocs_at V _ 1 _ rfl
  have h2 : W.heap[V.heap.size + 1 + 1]? = some (.cells #[.int .i64 3, .int .i64 0, .string ⟨#[97]⟩, .slice none 0 0, .int .i64 4, .int .i64 0, .string ⟨#[44]⟩, .slice (some ⟨V.heap.size + 1, 0, none⟩) 2 2] 25 (0, 0)) := by rw [ha]; exact allocs_at V _ 2 _ rfl
  have h3 : W.heap[V.heap.size + 1 + 1 + 1]? = some (.cells #[.int .i64 4, .int .i64 0, .string ⟨#[58, 45]⟩, .slice (some ⟨V.heap.size + 1 + 1, 0, none⟩) 2 2] 25 (0, 0)) := by rw [ha]; exact allocs_at V _ 3 _ rfl
  refine ⟨?_, h3, by rw [ha]; exact allocs_below V _, by omega⟩
  have leaf : ∀ s : List UInt8, s.length ≤ maxLen → TermS W (· < W.heap.size) ⟨3, 0, s, none, 0, 0⟩ (.mk 3 0 s []) := fun s h => TermS.leaf W _ 3 0 s none 0 h
  have m1 : ([] : List UInt8).length + 2 ≤ maxLen := by unfold maxLen; simp
  have tc : TermS W (· < W.heap.size) ⟨4, 0, [92, 43], some ⟨V.heap.size, 0, none⟩, 1, 1⟩ (.mk 4 0 [92, 43] [.mk 3 0 [99] []]) :=
    TermsS.block (xs := [⟨3, 0, [99], none, 0, 0⟩]) ((TermsS.nil W _).snoc (leaf [99] (by unfold maxLen; simp))) h0 (by omega) [92, 43] m1 4 0 1
  have tb : TermS W (· < W.heap.size) ⟨4, 0, [44], some ⟨V.heap.size + 1, 0, none⟩, 2, 2⟩ (.mk 4 0 [44] [.mk 3 0 [98] [], .mk 4 0 [92, 43] [.mk 3 0 [99] []]]) :=
    TermsS.block (xs := [⟨3, 0, [98], none, 0, 0⟩, ⟨4, 0, [92, 43], some ⟨V.heap.size, 0, none⟩, 1, 1⟩]) (((TermsS.nil W _).snoc (leaf [98] (by unfold maxLen; simp))).snoc tc) h1 (by omega) [44] (by unfold maxLen; simp) 4 0 2
  have ta : TermS W (· < W.heap.size) ⟨4, 0, [58, 45], some ⟨V.heap.size + 1 + 1, 0, none⟩, 2, 2⟩ ruleT :=
    TermsS.block (xs := [⟨3, 0, [97], none, 0, 0⟩, ⟨4, 0, [44], some ⟨V.heap.size + 1, 0, none⟩, 2, 2⟩]) (((TermsS.nil W _).snoc (leaf [97] (by unfold maxLen; simp))).snoc tb) h2 (by omega) [58, 45] m1 4 0 2
  exact ta.at fun b hb => hb

set_option maxHeartbeats 8000000 in
theorem alive_any (w : World) (hE : RdEnv w) :
    Calls Tryd.prog 7 #[] w fun e w' => e = .returned (.bool true) ∧ Below w.heap.size w w' := by
  have HE := Lib.hid hE
  clear hE
  go_enter Tryd.func7, Tryd.ntmps7
  go_wp2_with fail
  refine (lex_any _ aliveT (by decide) HE.out.max).mono ?_
  rintro e w2 ⟨v2, rfl, hr2, hb2⟩
  rw [alive_lex] at hr2 ⊢
  dsimp only at hr2 ⊢
  obtain ⟨An, cn, rfl⟩ := hr2.shape
  have HR2 := Lib.hid hr2
  have HB2 := Lib.hid hb2
  clear hr2 hb2
  have h20 : aliveL.length = 20 := rfl
  rw [h20]
  go_wp2_with fail
  refine (new_any _ (HE.out.later HB2.out).kinds (HE.out.later HB2.out).tab).mono ?_
  rintro e w3 ⟨bt, bm, rfl, hT3, hbt, hbm, hne, hb3⟩
  have HA3 : Hid (Alv w w3 An bt bm) := Lib.hid ⟨HB2.out.trans (hb3.mono HB2.out.size), hT3, ((HE.out.later HB2.out).later hb3).kinds, toks_row (HR2.out.later hb3)⟩
  clear HR2 HB2 hT3 hbt hbm hne hb3
  go_wp2_with fail
  refine (HA3.out.read cn 0 alive_0).mono ?_
  rintro e v0 ho
  obtain ⟨x0, N0, m0, rfl, hU⟩ := HA3.out.put ho
  have HU := Lib.hid hU
  clear ho hU
  dsimp only
  unfold clV
  go_upto_region 6 with fail
  obtain ⟨U0, hU0⟩ : ∃ U, U = v0.alloc (.cells #[.int .i64 x0.k, .int .i64 x0.n, .string ⟨x0.s.toArray⟩, .slice x0.A x0.len x0.cap, .slice N0 0 m0, .int .i64 1, .int .i64 7] 28) := ⟨_, rfl⟩
  rw [← hU0]
  obtain ⟨ha, hb, ht, hn, hl, hc⟩ := HU.out U0 hU0
  clear hU0 HU
  generalize v0.heap.size = g0 at hl hc ⊢
  have HV0 := Lib.hid ha
  have HB0 := Lib.hid hb
  have HT0 := Lib.hid ht
  have HN0 := Lib.hid hn
  have HC0 := Lib.hid hc
  have HL0 := Lib.hid hl
  have y0 : U0.cell? ⟨g0, 6, none⟩ = some (.int .i64 7) := by rw [cell_of_row U0 g0 6 _ _ (0, 0) hc]; rfl
  clear ha hb ht hn hl hc
  go_wp2_with fail
  clear y0
  refine (HV0.out.read cn 7 alive_7).mono ?_
  rintro e v1 ho
  obtain ⟨x1, N1, m1, rfl, hU⟩ := HV0.out.put ho
  have HU := Lib.hid hU
  clear ho hU
  dsimp only
  unfold clV
  go_upto_region 7 with fail
  obtain ⟨U1, hU1⟩ : ∃ U, U = v1.alloc (.cells #[.int .i64 x1.k, .int .i64 x1.n, .string ⟨x1.s.toArray⟩, .slice x1.A x1.len x1.cap, .slice N1 0 m1, .int .i64 1, .int .i64 10] 28) := ⟨_, rfl⟩
  rw [← hU1]
  obtain ⟨ha, hb, ht, hn, hl, hc⟩ := HU.out U1 hU1
  clear hU1 HU
  generalize v1.heap.size = g1 at hl hc ⊢
  have HV1 := Lib.hid ha
  have HB1 := Lib.hid hb
  have HT1 := Lib.hid ht
  have HN1 := Lib.hid hn
  have HC1 := Lib.hid hc
  have HL1 := Lib.hid hl
  have y1 : U1.cell? ⟨g1, 6, none⟩ = some (.int .i64 10) := by rw [cell_of_row U1 g1 6 _ _ (0, 0) hc]; rfl
  clear ha hb ht hn hl hc
  go_wp2_with fail
  clear y1
  refine (HV1.out.read cn 10 alive_10).mono ?_
  rintro e v2 ho
  obtain ⟨x2, N2, m2, rfl, hU⟩ := HV1.out.put ho
  have HU := Lib.hid hU
  clear ho hU
  dsimp only
  unfold clV
  go_upto_region 8 with fail
  obtain ⟨U2, hU2⟩ : ∃ U, U = v2.alloc (.cells #[.int .i64 x2.k, .int .i64 x2.n, .string ⟨x2.s.toArray⟩, .slice x2.A x2.len x2.cap, .slice N2 0 m2, .int .i64 1, .int .i64 13] 28) := ⟨_, rfl⟩
  rw [← hU2]
  obtain ⟨ha, hb, ht, hn, hl, hc⟩ := HU.out U2 hU2
  clear hU2 HU
  generalize v2.heap.size = g2 at hl hc ⊢
  have HV2 := Lib.hid ha
  have HB2 := Lib.hid hb
  have HT2 := Lib.hid ht
  have HN2 := Lib.hid hn
  have HC2 := Lib.hid hc
  have HL2 := Lib.hid hl
  have y2 : U2.cell? ⟨g2, 6, none⟩ = some (.int .i64 13) := by rw [cell_of_row U2 g2 6 _ _ (0, 0) hc]; rfl
  clear ha hb ht hn hl hc
  go_wp2_with fail
  clear y2
  obtain ⟨t13, h13⟩ := alive_13
  refine (HV2.out.read cn 13 h13).mono ?_
  rintro e v3 ho
  obtain ⟨x3, N3, m3, rfl, hU⟩ := HV2.out.put ho
  have HU := Lib.hid hU
  clear ho hU h13
  dsimp only
  unfold clV
  go_upto_region 9 with fail
  obtain ⟨U3, hU3⟩ : ∃ U, U = v3.alloc (.cells #[.int .i64 x3.k, .int .i64 x3.n, .string ⟨x3.s.toArray⟩, .slice x3.A x3.len x3.cap, .slice N3 1 m3, .int .i64 1, .int .i64 19] 28) := ⟨_, rfl⟩
  rw [← hU3]
  obtain ⟨ha, hb, ht, hn, hl, hc⟩ := HU.out U3 hU3
  clear hU3 HU
  generalize v3.heap.size = g3 at hl hc ⊢
  have HV3 := Lib.hid ha
  have HB3 := Lib.hid hb
  have HT3 := Lib.hid ht
  have HN3 := Lib.hid hn
  have HC3 := Lib.hid hc
  have HL3 := Lib.hid hl
  have y3 : U3.cell? ⟨g3, 6, none⟩ = some (.int .i64 19) := by rw [cell_of_row U3 g3 6 _ _ (0, 0) hc]; rfl
  clear ha hb ht hn hl hc
  go_wp2_with fail
  clear y3
  refine (HV3.out.read cn 19 alive_19).mono ?_
  rintro e v4 ho
  obtain ⟨x4, N4, m4, rfl, hU⟩ := HV3.out.put ho
  have HU := Lib.hid hU
  clear ho hU
  dsimp only
  unfold clV
  go_upto_region 10 with fail
  obtain ⟨U4, hU4⟩ : ∃ U, U = v4.alloc (.cells #[.int .i64 x4.k, .int .i64 x4.n, .string ⟨x4.s.toArray⟩, .slice x4.A x4.len x4.cap, .slice N4 0 m4, .int .i64 0, .int .i64 0] 28) := ⟨_, rfl⟩
  rw [← hU4]
  obtain ⟨ha, hb, ht, hn, hl, hc⟩ := HU.out U4 hU4
  clear hU4 HU
  generalize v4.heap.size = g4 at hl hc ⊢
  have HV4 := Lib.hid ha
  have HB4 := Lib.hid hb
  have HT4 := Lib.hid ht
  have HN4 := Lib.hid hn
  have HC4 := Lib.hid hc
  have HL4 := Lib.hid hl
  have y4 : U4.cell? ⟨g4, 6, none⟩ = some (.int .i64 0) := by rw [cell_of_row U4 g4 6 _ _ (0, 0) hc]; rfl
  clear ha hb ht hn hl hc
  clear y4
  go_wp2_with fail
  refine (latom_any U4 [97]).mono ?_
  rintro e V0 ⟨rfl, hv0⟩
  have HV0' := Lib.hid hv0
  clear hv0
  go_wp2_with fail
  refine (latom_any V0 [98]).mono ?_
  rintro e V1 ⟨rfl, hv1⟩
  have HV1' := Lib.hid (HV0'.out.trans (hv1.mono HV0'.out.size))
  clear hv1 HV0'
  go_wp2_with fail
  refine (latom_any V1 [99]).mono ?_
  rintro e V2 ⟨rfl, hv2⟩
  have HV2' := Lib.hid (HV1'.out.trans (hv2.mono HV1'.out.size))
  clear hv2 HV1'
  go_upto_region 11 with fail
  obtain ⟨W5, hW5⟩ : ∃ W5, W5 = (((V2.alloc (.cells #[.int .i64 3, .int .i64 0, .string ⟨#[99]⟩, .slice none 0 0] 25)).alloc (.cells #[.int .i64 3, .int .i64 0, .string ⟨#[98]⟩, .slice none 0 0, .int .i64 4, .int .i64 0, .string ⟨#[92, 43]⟩, .slice (some ⟨V2.heap.size, 0, none⟩) 1 1] 25)).alloc (.cells #[.int .i64 3, .int .i64 0, .string ⟨#[97]⟩, .slice none 0 0, .int .i64 4, .int .i64 0, .string ⟨#[44]⟩, .slice (some ⟨V2.heap.size + 1, 0, none⟩) 2 2] 25)).alloc (.cells #[.int .i64 4, .int .i64 0, .string ⟨#[58, 45]⟩, .slice (some ⟨V2.heap.size + 1 + 1, 0, none⟩) 2 2] 25) := ⟨_, rfl⟩
  rw [← hW5]
  obtain ⟨hrt, hrc, hrb, hrl⟩ := rule_made V2 W5 hW5
  clear hW5
  have b4 : Below U4.heap.size U4 W5 := HV2'.out.trans (hrb.mono HV2'.out.size)
  have b3 : Below U3.heap.size U3 W5 := HB4.out.trans (b4.mono HB4.out.size)
  have b2 : Below U2.heap.size U2 W5 := HB3.out.trans (b3.mono HB3.out.size)
  have b1 : Below U1.heap.size U1 W5 := HB2.out.trans (b2.mono HB2.out.size)
  have b0 : Below U0.heap.size U0 W5 := HB1.out.trans (b1.mono HB1.out.size)
  have HW5 : Hid (Below w.heap.size w W5) := Lib.hid (HV0.out.below.trans (b0.mono HV0.out.below.size))
  have c0 := (b0.block g0 HL0.out).trans HC0.out
  have c1 := (b1.block g1 HL1.out).trans HC1.out
  have c2 := (b2.block g2 HL2.out).trans HC2.out
  have c3 := (b3.block g3 HL3.out).trans HC3.out
  have ht0 : TermAt W5 W5.heap.size x0 ruleT := HT0.out.keep b0.size b0.block
  have k1 : x1.k = 4 := HT1.out.open.1.symm
  have k2 : x2.k = 2 := HT2.out.open.1.symm
  have n2 : x2.n = -1 := HT2.out.open.2.1.symm
  obtain ⟨BN, hN3⟩ := HN3.out
  have hN5 : Row W5 BN 57 2 encB (.slice N3 1 m3) [([84], 0)] := Row.later hN3 b3
  obtain ⟨gN, capN, eN, -, -, -, kN⟩ := hN5.cells (enc := encB) (sz := 2) (fun _ => rfl) (by simp)
  have tN := (kN 0 ([84], 0) rfl 0 _ rfl).1
  injection eN with e1 e2 e3
  subst e1 e3
  rw [k1] at c1
  rw [k2, n2] at c2
  have hsame := same_any ruleT.size ruleT ruleT x0 ⟨4, 0, [58, 45], some ⟨V2.heap.size + 1 + 1, 0, none⟩, 2, 2⟩ W5 (Nat.le_refl _) (by decide) (by decide) ht0 hrt
  rw [sameTm_self] at hsame
  have HS := Lib.hid hsame
  obtain ⟨p0, p1, p2, p3, -⟩ := four_at hrc
  have q0 : W5.cell? ⟨g0, 0, none⟩ = some (.int .i64 x0.k) := by rw [cell_of_row W5 g0 0 _ _ (0, 0) c0]; rfl
  have q1 : W5.cell? ⟨g0, 1, none⟩ = some (.int .i64 x0.n) := by rw [cell_of_row W5 g0 1 _ _ (0, 0) c0]; rfl
  have q2 : W5.cell? ⟨g0, 2, none⟩ = some (.string ⟨x0.s.toArray⟩) := by rw [cell_of_row W5 g0 2 _ _ (0, 0) c0]; rfl
  have q3 : W5.cell? ⟨g0, 3, none⟩ = some (.slice x0.A x0.len x0.cap) := by rw [cell_of_row W5 g0 3 _ _ (0, 0) c0]; rfl
  have HC1' := Lib.hid c1
  have HC2' := Lib.hid c2
  have HC3' := Lib.hid c3
  have HTN := Lib.hid tN
  have l1 : g1 < W5.heap.size := Nat.lt_of_lt_of_le HL1.out b1.size
  have l2 : g2 < W5.heap.size := Nat.lt_of_lt_of_le HL2.out b2.size
  have l3 : g3 < W5.heap.size := Nat.lt_of_lt_of_le HL3.out b3.size
  have lN : gN < W5.heap.size := World.block_lt_of_cell? W5 _ tN
  clear c0 c1 c2 c3 tN kN e2 hN5 hN3 ht0 hrt hrc hrb hrl b0 b1 b2 b3 b4 k1 k2 n2 hsame HV0 HV1 HV2 HV3 HV4 HB1 HB2 HB3 HB4 HT0 HT1 HT2 HT3 HT4 HN0 HN1 HN2 HN3 HN4 HC0 HC1 HC2 HC3 HC4 HL0 HL1 HL2 HL3 HL4 HV2' HA3 HE
  go_wp2_with fail
  refine HS.out.mono ?_
  rintro e W6 ⟨rfl, hb6⟩
  have c1 := (hb6.block g1 l1).trans HC1'.out
  have c2 := (hb6.block g2 l2).trans HC2'.out
  have c3 := (hb6.block g3 l3).trans HC3'.out
  have tN : W6.cell? ⟨gN, 0, none⟩ = some (.string ⟨#[84]⟩) := (World.cell?_of_block (a := ⟨gN, 0, none⟩) (hb6.block gN lN)).trans HTN.out
  have q4 : W6.cell? ⟨g1, 0, none⟩ = some (.int .i64 4) := by rw [cell_of_row W6 g1 0 _ _ (0, 0) c1]; rfl
  have q5 : W6.cell? ⟨g2, 0, none⟩ = some (.int .i64 2) := by rw [cell_of_row W6 g2 0 _ _ (0, 0) c2]; rfl
  have q6 : W6.cell? ⟨g2, 1, none⟩ = some (.int .i64 (-1)) := by rw [cell_of_row W6 g2 1 _ _ (0, 0) c2]; rfl
  have q7 : W6.cell? ⟨g3, 4, none⟩ = some (.slice (some ⟨gN, 0, none⟩) 1 m3) := by rw [cell_of_row W6 g3 4 _ _ (0, 0) c3]; rfl
  have HB6 := Lib.hid (HW5.out.trans (hb6.mono HW5.out.size))
  clear c1 c2 c3 hb6 HC1' HC2' HC3' HTN HS HW5 p0 p1 p2 p3 q0 q1 q2 q3
  go_wp2_with fail
  go_ret
  exact ⟨rfl, HB6.out⟩
end Go.Proofs.YtmgidfndifhcoaaDoor
/-
  The reader among other tokens: what it reads of a text it reads of the same tokens between brackets. Plain laws; no condition.
-/
namespace Go.Proofs.YtmgidfndifhcoaaDoor

/-- Tokens that the reader can't tell apart, but for what stands right ahead of them. -/
def Tok.alike (a b : Tok) : Prop := b.kind = a.kind ∧ b.n = a.n ∧ b.s = a.s ∧ b.opn = a.opn
/-- The tokens of ts1 ahead of a Stop at m stand in ts2 from p on, behind them a bracket that closes. -/
structure InBr (ts1 ts2 : List Tok) (p m : Nat) : Prop where
  same : ∀ i, i < m → (peekF ts1 i).alike (peekF ts2 (p + i))
  tight : ∀ i, 0 < i → i < m → (peekF ts2 (p + i)).tight = (peekF ts1 i).tight
  stop : (peekF ts1 m).kind = 7
  close : (peekF ts2 (p + m)).kind = 6 ∧ ((peekF ts2 (p + m)).s = [41] ∨ (peekF ts2 (p + m)).s = [125])
def RdS.lift (s : RdS) (p : Nat) (W : List WaitF) : RdS := { s with at' := p + s.at', wait := s.wait ++ W }

section
variable {o : OpsF} {ts1 ts2 : List Tok} {p m : Nat} {W : List WaitF}
theorem InBr.mark (h : InBr ts1 ts2 p m) {i : Nat} (hi : i < m) (c : UInt8) : isP ts2 (p + i) c = isP ts1 i c := by
  obtain ⟨h1, _, h3, _⟩ := h.same i hi
  unfold isP
  rw [h1, h3]
theorem InBr.mark_stop (h : InBr ts1 ts2 p m) (c : UInt8) : isP ts1 m c = false := by
  unfold isP
  rw [h.stop]
  rfl
theorem InBr.mark_close (h : InBr ts1 ts2 p m) (c : UInt8) (h1 : c ≠ 41) (h2 : c ≠ 125) : isP ts2 (p + m) c = false := by
  unfold isP
  rcases h.close.2 with h3 | h3
  · rw [h3]
    simp [Ne.symm h1]
  · rw [h3]
    simp [Ne.symm h2]
theorem InBr.expect (h : InBr ts1 ts2 p m) {s s1 : RdS} {c : UInt8} (hl : s.at' ≤ m) (he : s.expect ts1 c = .ok s1) : (s.lift p W).expect ts2 c = .ok (s1.lift p W) ∧ s.at' < m ∧ s1 = s.go 1 := by
  unfold RdS.expect at he
  split at he
  · rename_i hp
    injection he with he
    subst he
    have hlt : s.at' < m := by
      rcases Nat.lt_or_ge s.at' m with h1 | h1
      · exact h1
      · rw [show s.at' = m by omega, h.mark_stop] at hp
        cases hp
    refine ⟨?_, hlt, rfl⟩
    unfold RdS.expect
    rw [show (s.lift p W).at' = p + s.at' from rfl, h.mark hlt, hp]
    rfl
  · cases he
theorem InBr.expect_map (h : InBr ts1 ts2 p m) {s s1 : RdS} {c : UInt8} {f : RdS → RdS} (hl : s.at' ≤ m) (hf : ∀ x : RdS, f (x.lift p W) = (f x).lift p W) (hf2 : ∀ x : RdS, (f x).at' = x.at') (he : (s.expect ts1 c).map f = .ok s1) :
    ((s.lift p W).expect ts2 c).map f = .ok (s1.lift p W) ∧ s1.at' ≤ m := by
  cases hx : s.expect ts1 c with
  | error a => rw [hx] at he; cases he
  | ok x =>
    rw [hx] at he
    obtain ⟨h1, h2, rfl⟩ := h.expect (W := W) hl hx
    have he' : f (s.go 1) = s1 := by injection he
    subst he'
    rw [h1]
    exact ⟨congrArg Except.ok (hf _), by rw [hf2]; exact h2⟩
theorem InBr.args (h : InBr ts1 ts2 p m) {s s1 : RdS} {n : List UInt8} (hl : s.at' ≤ m) (he : argsF ts1 s n = .ok s1) : argsF ts2 (s.lift p W) n = .ok (s1.lift p W) ∧ s1.at' ≤ m := by
  unfold argsF at he ⊢
  cases hx : s.expect ts1 40 with
  | error a => rw [hx] at he; cases he
  | ok x =>
    rw [hx] at he
    obtain ⟨h1, h2, rfl⟩ := h.expect (W := W) hl hx
    injection he with he
    subst he
    rw [h1]
    exact ⟨rfl, h2⟩
theorem var_lift (s : RdS) (x : List UInt8) : varF (s.lift p W) x = (varF s x).lift p W := by
  unfold varF
  rw [show (s.lift p W).vars = s.vars from rfl]
  cases s.vars.find? (fun y => decide (y.1 = x)) with
  | some y => rfl
  | none =>
    dsimp only
    by_cases hx : x = [95]
    · rw [if_pos hx, if_pos hx]; rfl
    · rw [if_neg hx, if_neg hx]; rfl
theorem InBr.pair (h : InBr ts1 ts2 p m) {s s1 : RdS} {c : UInt8} (hl : s.at' + 1 < m) (he : pairF ts1 s c = .ok s1) : pairF ts2 (s.lift p W) c = .ok (s1.lift p W) ∧ s1.at' ≤ m := by
  unfold pairF at he ⊢
  dsimp only at he ⊢
  obtain ⟨_, _, a3, _⟩ := h.same s.at' (by omega)
  obtain ⟨_, _, _, b4⟩ := h.same (s.at' + 1) hl
  rw [show (s.lift p W).at' = p + s.at' from rfl, Nat.add_assoc, a3, b4]
  split at he
  · rename_i ho
    rw [if_pos ho]
    exact h.args (s := s.go 2) (show s.at' + 2 ≤ m by omega) he
  · rename_i ho
    rw [if_neg ho]
    injection he with he
    subst he
    exact ⟨rfl, show s.at' + 2 ≤ m by omega⟩
/-- A round among the tokens is the same one, or comes to nothing. -/
def SimO (p m : Nat) (W : List WaitF) (s1 : RdS) (x : Except Nat RdS) : Prop := (x = .ok (s1.lift p W) ∧ s1.at' ≤ m) ∨ (s1.hv = false ∧ s1.at' = m)
theorem InBr.punct (h : InBr ts1 ts2 p m) {s s1 : RdS} {x : List UInt8} (hl : s.at' < m) (he : punctF ts1 s x = .ok s1) : SimO p m W s1 (punctF ts2 (s.lift p W) x) := by
  unfold punctF at he ⊢
  split at he
  · rename_i hx
    rw [if_pos hx]
    injection he with he
    subst he
    exact .inl ⟨rfl, hl⟩
  · rename_i hx
    rw [if_neg hx]
    split at he
    · rename_i hx2
      rw [if_pos hx2]
      rcases Nat.lt_or_ge (s.at' + 1) m with hm | hm
      · rw [show (s.lift p W).at' + 1 = p + (s.at' + 1) from rfl, h.mark hm]
        split at he
        · rename_i hp
          rw [if_pos hp]
          exact .inl (h.pair hm he)
        · rename_i hp
          rw [if_neg hp]
          injection he with he
          subst he
          exact .inl ⟨rfl, hl⟩
      · have hm' : s.at' + 1 = m := by omega
        rw [hm', h.mark_stop] at he
        rw [show (s.lift p W).at' + 1 = p + (s.at' + 1) from rfl, hm', h.mark_close 93 (by decide) (by decide)]
        rw [if_neg (by decide)] at he ⊢
        injection he with he
        subst he
        exact .inl ⟨rfl, hl⟩
    · rename_i hx2
      rw [if_neg hx2]
      split at he
      · rename_i hx3
        rw [if_pos hx3]
        rcases Nat.lt_or_ge (s.at' + 1) m with hm | hm
        · rw [show (s.lift p W).at' + 1 = p + (s.at' + 1) from rfl, h.mark hm]
          split at he
          · rename_i hp
            rw [if_pos hp]
            exact .inl (h.pair hm he)
          · rename_i hp
            rw [if_neg hp]
            injection he with he
            subst he
            exact .inl ⟨rfl, hl⟩
        · have hm' : s.at' + 1 = m := by omega
          rw [hm', h.mark_stop, if_neg (by decide)] at he
          injection he with he
          subst he
          exact .inr ⟨rfl, hm'⟩
      · cases he
theorem InBr.begins (h : InBr ts1 ts2 p m) (i : Nat) (hi : i ≤ m) : beginsF o (peekF ts2 (p + i)) = beginsF o (peekF ts1 i) := by
  rcases Nat.lt_or_ge i m with hm | hm
  · obtain ⟨a1, a2, a3, a4⟩ := h.same i hm
    unfold beginsF
    rw [a1, a3, a4]
  · obtain rfl : i = m := by omega
    have e1 : beginsF o (peekF ts1 i) = false := by
      unfold beginsF
      rw [h.stop]
      rfl
    have e2 : beginsF o (peekF ts2 (p + i)) = false := by
      unfold beginsF
      rw [h.close.1]
      rcases h.close.2 with h3 | h3 <;> rw [h3] <;> rfl
    rw [e1, e2]
theorem InBr.atom (h : InBr ts1 ts2 p m) {s s1 : RdS} {t t2 : Tok} (hl : s.at' < m) (ht : t.alike t2) (he : atomF o ts1 s t = .ok s1) : atomF o ts2 (s.lift p W) t2 = .ok (s1.lift p W) ∧ s1.at' ≤ m := by
  obtain ⟨a1, a2, a3, a4⟩ := ht
  unfold atomF at he ⊢
  dsimp only at he ⊢
  rw [a1, a3, a4, show (s.lift p W).at' + 1 = p + (s.at' + 1) from rfl, h.begins (s.at' + 1) hl, show (s.lift p W).most = s.most from rfl]
  have hneg : ((peekF ts2 (p + (s.at' + 1))).kind = 3 ∧ (peekF ts2 (p + (s.at' + 1))).tight = true) ↔ ((peekF ts1 (s.at' + 1)).kind = 3 ∧ (peekF ts1 (s.at' + 1)).tight = true) := by
    rcases Nat.lt_or_ge (s.at' + 1) m with hm | hm
    · rw [(h.same _ hm).1, h.tight _ (by omega) hm]
    · have hm' : s.at' + 1 = m := by omega
      rw [hm', h.stop, h.close.1]
      simp
  by_cases h1 : t.kind = 1 ∧ t.s = [45] ∧ (peekF ts1 (s.at' + 1)).kind = 3 ∧ (peekF ts1 (s.at' + 1)).tight = true
  · rw [if_pos h1] at he
    rw [if_pos ⟨h1.1, h1.2.1, hneg.2 h1.2.2⟩]
    have hm : s.at' + 1 < m := by
      rcases Nat.lt_or_ge (s.at' + 1) m with hm | hm
      · exact hm
      · have hm' : s.at' + 1 = m := by omega
        have h5 := h1.2.2.1
        rw [hm', h.stop] at h5
        cases h5
    injection he with he
    subst he
    rw [(h.same _ hm).2.1]
    exact ⟨rfl, hm⟩
  · rw [if_neg h1] at he
    rw [if_neg (fun hh => h1 ⟨hh.1, hh.2.1, hneg.1 hh.2.2⟩)]
    split at he
    · rename_i ho
      rw [if_pos ho]
      exact h.args (s := s.go 1) hl he
    · rename_i ho
      rw [if_neg ho]
      split at he
      · rename_i hpre
        rw [if_pos hpre]
        injection he with he
        subst he
        exact ⟨rfl, hl⟩
      · rename_i hpre
        rw [if_neg hpre]
        injection he with he
        subst he
        exact ⟨rfl, hl⟩
theorem InBr.primary (h : InBr ts1 ts2 p m) {s s1 : RdS} (hl : s.at' ≤ m) (he : primaryF o ts1 s = .ok s1) : SimO p m W s1 (primaryF o ts2 (s.lift p W)) := by
  rcases Nat.lt_or_ge s.at' m with hm | hm
  · obtain ⟨a1, a2, a3, a4⟩ := h.same s.at' hm
    unfold primaryF at he ⊢
    dsimp only at he ⊢
    rw [show (s.lift p W).at' = p + s.at' from rfl, a1, a2, a3]
    split at he
    · rename_i hk
      rw [if_pos hk]
      split at he
      · cases he
      · rename_i hn
        rw [if_neg hn]
        injection he with he
        subst he
        exact .inl ⟨rfl, hm⟩
    · rename_i hk
      rw [if_neg hk]
      split at he
      · rename_i hk2
        rw [if_pos hk2]
        injection he with he
        subst he
        exact .inl ⟨congrArg Except.ok (var_lift (s.go 1) _), by rw [(var_at _ _).1]; exact hm⟩
      · rename_i hk2
        rw [if_neg hk2]
        split at he
        · rename_i hk3
          rw [if_pos hk3]
          injection he with he
          subst he
          exact .inl ⟨rfl, hm⟩
        · rename_i hk3
          rw [if_neg hk3]
          split at he
          · rename_i hk4
            rw [if_pos hk4]
            exact h.punct hm he
          · rename_i hk4
            rw [if_neg hk4]
            split at he
            · rename_i hk5
              rw [if_pos hk5]
              exact .inl (h.atom hm ⟨a1, a2, a3, a4⟩ he)
            · cases he
  · have hm' : s.at' = m := by omega
    unfold primaryF at he
    dsimp only at he
    rw [hm', h.stop] at he
    simp at he
theorem InBr.operator (h : InBr ts1 ts2 p m) {s : RdS} (hl : s.at' ≤ m) : operatorF o ts2 (s.lift p W) = (operatorF o ts1 s).map (·.lift p W) ∧ ∀ s1, operatorF o ts1 s = some s1 → s1.at' ≤ m := by
  rcases Nat.lt_or_ge s.at' m with hm | hm
  · obtain ⟨a1, a2, a3, a4⟩ := h.same s.at' hm
    unfold operatorF
    dsimp only
    rw [show (s.lift p W).at' = p + s.at' from rfl, a1, a3, h.mark hm, show (s.lift p W).most = s.most from rfl, show (s.lift p W).pri = s.pri from rfl, show (s.lift p W).t = s.t from rfl]
    split
    · exact ⟨rfl, fun s1 h1 => by cases h1⟩
    · split
      · exact ⟨rfl, fun s1 h1 => by injection h1 with h1; subst h1; exact hm⟩
      · split
        · exact ⟨rfl, fun s1 h1 => by injection h1 with h1; subst h1; exact hm⟩
        · exact ⟨rfl, fun s1 h1 => by cases h1⟩
  · have hm' : s.at' = m := by omega
    have e1 : operatorF o ts1 s = none := by
      unfold operatorF
      dsimp only
      rw [hm', h.stop, h.mark_stop]
      rfl
    have e2 : operatorF o ts2 (s.lift p W) = none := by
      unfold operatorF
      dsimp only
      rw [show (s.lift p W).at' = p + s.at' from rfl, hm', h.close.1, h.mark_close 44 (by decide) (by decide)]
      rfl
    rw [e1, e2]
    exact ⟨rfl, fun s1 h1 => by cases h1⟩
theorem InBr.backs (h : InBr ts1 ts2 p m) {q s1 : RdS} {f : WaitF} (hq2 : q.at' ≤ m) (he : backG ts1 q f = .ok s1) : backG ts2 (q.lift p W) f = .ok (s1.lift p W) ∧ s1.at' ≤ m := by
  unfold backG at he ⊢
  rw [show (q.lift p W).t = q.t from rfl, show (q.lift p W).at' = p + q.at' from rfl]
  split at he
  · rename_i hu
    rw [if_pos hu]
    exact h.expect_map hq2 (fun _ => rfl) (fun _ => rfl) he
  · rename_i hu
    rw [if_neg hu]
    split at he
    · rename_i hu
      rw [if_pos hu]
      exact h.expect_map hq2 (fun _ => rfl) (fun _ => rfl) he
    · rename_i hu
      rw [if_neg hu]
      split at he
      · rename_i hu
        rw [if_pos hu]
        injection he with he
        subst he
        exact ⟨rfl, hq2⟩
      · rename_i hu
        rw [if_neg hu]
        split at he
        · rename_i hu
          rw [if_pos hu]
          injection he with he
          subst he
          exact ⟨rfl, hq2⟩
        · rename_i hu
          rw [if_neg hu]
          have hmark : ∀ c, c ≠ 41 → c ≠ 125 → isP ts2 (p + q.at') c = isP ts1 q.at' c := fun c h1 h2 => by
            rcases Nat.lt_or_ge q.at' m with hm | hm
            · exact h.mark hm c
            · rw [show q.at' = m by omega, h.mark_stop, h.mark_close c h1 h2]
          have hlt : ∀ c, isP ts1 q.at' c = true → q.at' < m := fun c hc => by
            rcases Nat.lt_or_ge q.at' m with hm | hm
            · exact hm
            · rw [show q.at' = m by omega, h.mark_stop] at hc
              cases hc
          split at he
          · rename_i hu
            rw [if_pos hu, hmark 44 (by decide) (by decide)]
            split at he
            · rename_i hp
              rw [if_pos hp]
              injection he with he
              subst he
              exact ⟨rfl, hlt _ hp⟩
            · rename_i hp
              rw [if_neg hp]
              exact h.expect_map hq2 (fun _ => rfl) (fun _ => rfl) he
          · rename_i hu
            rw [if_neg hu]
            split at he
            · rename_i hu
              rw [if_pos hu, hmark 44 (by decide) (by decide), hmark 124 (by decide) (by decide)]
              split at he
              · rename_i hp
                rw [if_pos hp]
                injection he with he
                subst he
                exact ⟨rfl, hlt _ hp⟩
              · rename_i hp
                rw [if_neg hp]
                split at he
                · rename_i hp
                  rw [if_pos hp]
                  injection he with he
                  subst he
                  exact ⟨rfl, hlt _ hp⟩
                · rename_i hp
                  rw [if_neg hp]
                  exact h.expect_map hq2 (fun _ => rfl) (fun _ => rfl) he
            · rename_i hu
              rw [if_neg hu]
              split at he
              · rename_i hu
                rw [if_pos hu]
                exact h.expect_map hq2 (fun _ => rfl) (fun _ => rfl) he
              · rename_i hu
                rw [if_neg hu]
                injection he with he
                subst he
                exact ⟨rfl, hq2⟩
theorem InBr.back (h : InBr ts1 ts2 p m) {s s1 : RdS} {f : WaitF} {r : List WaitF} (hl : s.at' ≤ m) (he : backF ts1 s f r = .ok s1) : backF ts2 (s.lift p W) f (r ++ W) = .ok (s1.lift p W) ∧ s1.at' ≤ m :=
  h.backs (W := W) (q := { s with wait := r, most := f.most }) hl he
theorem toO_on {x : Except Nat RdS} {s : RdS} (h : toO x = .on s) : x = .ok s := by
  cases x with
  | error a => cases h
  | ok y => injection h with h; rw [h]
theorem InBr.round (h : InBr ts1 ts2 p m) {s s1 : RdS} (hl : s.at' ≤ m) (he : roundF o ts1 s = .on s1) : (roundF o ts2 (s.lift p W) = .on (s1.lift p W) ∧ s1.at' ≤ m) ∨ (s1.hv = false ∧ s1.at' = m) := by
  unfold roundF at he ⊢
  rw [show (s.lift p W).hv = s.hv from rfl]
  split at he
  · rename_i hv
    rw [if_pos hv]
    rcases h.primary (W := W) hl (toO_on he) with ⟨h1, h2⟩ | h1
    · exact .inl ⟨by rw [h1]; rfl, h2⟩
    · exact .inr h1
  · rename_i hv
    rw [if_neg hv]
    obtain ⟨h1, h2⟩ := h.operator (o := o) (W := W) (s := s) hl
    rw [h1]
    cases ho : operatorF o ts1 s with
    | some x =>
      rw [ho] at he
      have hx : x = s1 := by injection he
      subst hx
      exact .inl ⟨rfl, h2 _ ho⟩
    | none =>
      rw [ho] at he
      simp only [Option.map_none] at he ⊢
      rw [show (s.lift p W).wait = s.wait ++ W from rfl]
      cases hw : s.wait with
      | nil =>
        rw [hw] at he
        simp only at he
        split at he <;> cases he
      | cons f r =>
        rw [hw] at he
        obtain ⟨h3, h4⟩ := h.back (W := W) hl (toO_on he)
        exact .inl ⟨by simp only [List.cons_append]; rw [h3]; rfl, h4⟩
theorem round_fin {ts : List Tok} {s s1 : RdS} (h : roundF o ts s = .fin s1) : s1 = s ∧ s.hv = true ∧ operatorF o ts s = none ∧ s.wait = [] ∧ (peekF ts s.at').kind = 7 := by
  unfold roundF at h
  split at h
  · cases hp : primaryF o ts s <;> rw [hp] at h <;> cases h
  · rename_i hv
    split at h
    · cases h
    · rename_i ho
      split at h
      · rename_i f r hw
        cases hb : backF ts s f r <;> rw [hb] at h <;> cases h
      · rename_i hw
        split at h
        · cases h
        · rename_i hk
          injection h with h
          exact ⟨h.symm, by simpa using hv, ho, hw, by simpa using hk⟩
/-- What comes to its end ahead of the Stop comes to the same between the brackets. -/
theorem InBr.run (h : InBr ts1 ts2 p m) : ∀ (n : Nat) (s sf : RdS), leftF ts1 s ≤ n → s.at' ≤ m → endF o ts1 s = .fin sf → sf.at' = m → endF o ts2 (s.lift p W) = endF o ts2 (sf.lift p W) ∧ sf.hv = true ∧ sf.wait = [] := by
  intro n
  induction n with
  | zero =>
    intro s sf hn hl he hf
    rw [end_step] at he
    cases hr : roundF o ts1 s with
    | on s1 => have := round_less hr; omega
    | bad a => rw [hr] at he; cases he
    | fin s1 =>
      rw [hr] at he
      have hx : s1 = sf := by injection he
      subst hx
      obtain ⟨rfl, h2, _, h4, _⟩ := round_fin hr
      exact ⟨rfl, h2, h4⟩
  | succ n ih =>
    intro s sf hn hl he hf
    have he0 := he
    rw [end_step] at he
    cases hr : roundF o ts1 s with
    | on s1 =>
      rw [hr] at he
      simp only at he
      have hlt := round_less hr
      rcases h.round (W := W) hl hr with ⟨h1, h2⟩ | ⟨h1, h2⟩
      · rw [end_step o ts2 (s.lift p W), h1]
        exact ih s1 sf (by omega) h2 he hf
      · rw [end_step] at he
        have hb : roundF o ts1 s1 = .bad m := by
          unfold roundF
          rw [if_pos h1]
          unfold primaryF
          dsimp only
          rw [h2, h.stop]
          rfl
        rw [hb] at he
        cases he
    | bad a => rw [hr] at he; cases he
    | fin s1 =>
      rw [hr] at he
      have hx : s1 = sf := by injection he
      subst hx
      obtain ⟨rfl, h2, _, h4, _⟩ := round_fin hr
      exact ⟨rfl, h2, h4⟩
end
end Go.Proofs.YtmgidfndifhcoaaDoor
