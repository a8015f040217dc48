import Derived.Test.YtmgidfndifhcoaaDoorJReadBrackets33
/-
  The law of ReadBrackets answers true. Conditions: the tables are laid.
-/
namespace Go.Proofs.YtmgidfndifhcoaaDoor
open Go.RowKit Go.Maps
set_option maxRecDepth 100000

theorem cat_l (a b : List UInt8) : (⟨a.toArray⟩ ++ ⟨b.toArray⟩ : ByteArray) = ⟨(a ++ b).toArray⟩ := by
  apply ByteArray.ext
  simp

theorem brackets_small {text : List UInt8} (hlen : text.length ≤ 600) (h : (oneF (text ++ [10, 46])).2 = 0) : (oneF (text ++ [10, 46])).1.t.size ≤ 10000000 := by
  obtain ⟨ts, ln, h1, h2, h3⟩ := oneF_zero h
  have := brk_small hlen (show lexB (text ++ [10] ++ [46]) = (ts, ln, 0) by rw [List.append_assoc]; exact h1) h2
  omega
/-- A clause that the closure answers, in a block of its own. -/
theorem out_put {u u' : World} {c : ClauseF × Int} {e : Ending} (ho : ReadOut u u' c e) :
    ∃ x An m, e = .returned (.tuple #[clV x (.slice An c.1.names.length m) c.1.line c.1.next, .int .i64 c.2]) ∧
      ∀ U, U = u'.alloc (.cells #[.int .i64 x.k, .int .i64 x.n, .string ⟨x.s.toArray⟩, .slice x.A x.len x.cap, .slice An c.1.names.length m, .int .i64 c.1.line, .int .i64 c.1.next] 28) →
      Below u.heap.size u U ∧ TermAt U U.heap.size x c.1.t ∧ u'.heap.size < U.heap.size ∧
      U.heap[u'.heap.size]? = some (.cells #[.int .i64 x.k, .int .i64 x.n, .string ⟨x.s.toArray⟩, .slice x.A x.len x.cap, .slice An c.1.names.length m, .int .i64 c.1.line, .int .i64 c.1.next] 28 (0, 0)) := by
  obtain ⟨hb, x, nv, B, rfl, hx, hn⟩ := ho
  obtain ⟨An, m, rfl⟩ := hn.shape
  refine ⟨x, An, m, rfl, fun U hU => ?_⟩
  subst hU
  have hb' := hb.trans ((Below.refl _ _).alloc hb.size (.cells #[.int .i64 x.k, .int .i64 x.n, .string ⟨x.s.toArray⟩, .slice x.A x.len x.cap, .slice An c.1.names.length m, .int .i64 c.1.line, .int .i64 c.1.next] 28))
  refine ⟨hb', ?_, by rw [World.size_alloc]; omega, heap_alloc_new _ _⟩
  exact ((hx.at fun b hb => hb.lt) : TermAt u' u'.heap.size x c.1.t).later ((Below.refl _ _).alloc (Nat.le_refl _) _)

set_option maxHeartbeats 8000000 in
theorem brackets_any (w : World) (hE : RdEnv w) (text : List UInt8) :
    Calls Tryd.prog 3 #[.string ⟨text.toArray⟩] w fun e w' => e = .returned (.bool true) ∧ Below w.heap.size w w' := by
  have HE := Lib.hid hE
  clear hE
  have hA := Lib.hid (alive_any w HE.out)
  by_cases hlen : 600 < text.length
  · have h6 : (600 : Int) < (text.length : Int) := by omega
    go_enter Tryd.func3, Tryd.ntmps3
    go_wp2_with fail
    refine hA.out.mono ?_
    rintro e w1 ⟨rfl, hb1⟩
    go_wp2_with fail
    go_ret
    exact ⟨rfl, hb1⟩
  have h6 : ¬ (600 : Int) < (text.length : Int) := by omega
  have hl : text.length ≤ 600 := by omega
  have HL := Lib.hid (fun h => And.intro (brackets_small hl h) (@brackets text hl h))
  have hT : Hid (∀ a b : List UInt8, a.length ≤ 10 → b.length ≤ 10 → (a ++ text ++ b).length ≤ 1600) := Lib.hid fun a b h1 h2 => by rw [List.length_append, List.length_append]; omega
  go_enter Tryd.func3, Tryd.ntmps3
  go_wp2_with fail
  refine hA.out.mono ?_
  rintro e w1 ⟨rfl, hb1⟩
  have HE1 : Hid (RdEnv w1) := Lib.hid (HE.out.later hb1)
  have HK1 := Lib.hid hb1
  clear hb1 hA HE
  go_wp2_with fail
  rw [show (⟨text.toArray⟩ ++ ⟨#[10, 46]⟩ : ByteArray) = ⟨(text ++ [10, 46]).toArray⟩ from cat_l text [10, 46]]
  refine (one_any w1 HE1.out (text ++ [10, 46]) (by rw [List.length_append]; simp only [List.length_cons, List.length_nil]; omega)).mono ?_
  rintro e v0 ho
  generalize hO : oneF (text ++ [10, 46]) = O at ho HL
  obtain ⟨⟨t0, nm0, ln0, nx0⟩, e0⟩ := O
  clear hO
  obtain ⟨x0, N0, m0, rfl, hU⟩ := out_put ho
  dsimp only at hU ⊢
  unfold clV
  go_upto_region 7 with fail
  obtain ⟨U0, hU0⟩ : ∃ U, U = v0.alloc (.cells #[.int .i64 x0.k, .int .i64 x0.n, .string ⟨x0.s.toArray⟩, .slice x0.A x0.len x0.cap, .slice N0 nm0.length m0, .int .i64 ln0, .int .i64 nx0] 28) := ⟨_, rfl⟩
  rw [← hU0]
  obtain ⟨hb, ht, hl, hc⟩ := hU U0 hU0
  clear hU0 hU ho
  generalize v0.heap.size = g0 at hl hc ⊢
  have HB0 := Lib.hid hb
  have HKU0 := Lib.hid (HK1.out.trans (hb.mono HK1.out.size))
  have HT0 := Lib.hid ht
  have HC0 := Lib.hid hc
  have HL0 := Lib.hid hl
  have HD0 : Hid (RdEnv U0) := Lib.hid (HE1.out.later hb)
  clear hb ht hl hc
  by_cases he0 : e0 ≠ 0
  · have h' : (e0 == 0) = false := beq_eq_false_iff_ne.2 he0
    have h'' : (e0 != 0) = true := by simpa using he0
    go_wp2_with fail
    go_ret
    exact ⟨rfl, HKU0.out⟩
  obtain rfl := Classical.not_not.1 he0
  clear he0
  obtain ⟨hz0, ⟨C1, q1, r1⟩, ⟨C2, q2, r2⟩, ⟨C3, q3, r3⟩, ⟨C4, q4, r4⟩⟩ := HL.out rfl
  have HZ0 := Lib.hid hz0
  have HQ1 := Lib.hid q1
  have HQ2 := Lib.hid q2
  have HQ3 := Lib.hid q3
  have HQ4 := Lib.hid q4
  have HR1 := Lib.hid r1
  have HR2 := Lib.hid r2
  have HR3 := Lib.hid r3
  have HR4 := Lib.hid r4
  clear hz0 q1 q2 q3 q4 r1 r2 r3 r4 HL
  go_wp2_with fail
  rw [show (⟨#[40]⟩ ++ ⟨text.toArray⟩ ++ ⟨#[10, 41, 46]⟩ : ByteArray) = ⟨([40] ++ text ++ [10, 41, 46]).toArray⟩ from (congrArg (· ++ (⟨#[10, 41, 46]⟩ : ByteArray)) (cat_l [40] text)).trans (cat_l ([40] ++ text) [10, 41, 46])]
  refine (one_any U0 HD0.out ([40] ++ text ++ [10, 41, 46]) (hT.out _ _ (by decide) (by decide))).mono ?_
  rintro e v1 ho
  rw [HQ1.out] at ho
  obtain ⟨x1, N1, m1, rfl, hU⟩ := out_put ho
  dsimp only at hU ⊢
  unfold clV
  go_upto_region 10 with fail
  obtain ⟨U1, hU1⟩ : ∃ U, U = v1.alloc (.cells #[.int .i64 x1.k, .int .i64 x1.n, .string ⟨x1.s.toArray⟩, .slice x1.A x1.len x1.cap, .slice N1 C1.names.length m1, .int .i64 C1.line, .int .i64 C1.next] 28) := ⟨_, rfl⟩
  rw [← hU1]
  obtain ⟨hb, ht, hl, hc⟩ := hU U1 hU1
  clear hU1 hU ho
  generalize v1.heap.size = g1 at hl hc ⊢
  have HB1 := Lib.hid hb
  have HKU1 := Lib.hid (HKU0.out.trans (hb.mono HKU0.out.size))
  have HT1 := Lib.hid ht
  have HC1 := Lib.hid hc
  have HL1 := Lib.hid hl
  have HD1 : Hid (RdEnv U1) := Lib.hid (HD0.out.later hb)
  clear hb ht hl hc
  go_wp2_with fail
  rw [show (⟨#[102, 40, 40]⟩ ++ ⟨text.toArray⟩ ++ ⟨#[10, 41, 41, 46]⟩ : ByteArray) = ⟨([102, 40, 40] ++ text ++ [10, 41, 41, 46]).toArray⟩ from (congrArg (· ++ (⟨#[10, 41, 41, 46]⟩ : ByteArray)) (cat_l [102, 40, 40] text)).trans (cat_l ([102, 40, 40] ++ text) [10, 41, 41, 46])]
  refine (one_any U1 HD1.out ([102, 40, 40] ++ text ++ [10, 41, 41, 46]) (hT.out _ _ (by decide) (by decide))).mono ?_
  rintro e v2 ho
  rw [HQ2.out] at ho
  obtain ⟨x2, N2, m2, rfl, hU⟩ := out_put ho
  dsimp only at hU ⊢
  unfold clV
  go_upto_region 11 with fail
  obtain ⟨U2, hU2⟩ : ∃ U, U = v2.alloc (.cells #[.int .i64 x2.k, .int .i64 x2.n, .string ⟨x2.s.toArray⟩, .slice x2.A x2.len x2.cap, .slice N2 C2.names.length m2, .int .i64 C2.line, .int .i64 C2.next] 28) := ⟨_, rfl⟩
  rw [← hU2]
  obtain ⟨hb, ht, hl, hc⟩ := hU U2 hU2
  clear hU2 hU ho
  generalize v2.heap.size = g2 at hl hc ⊢
  have HB2 := Lib.hid hb
  have HKU2 := Lib.hid (HKU1.out.trans (hb.mono HKU1.out.size))
  have HT2 := Lib.hid ht
  have HC2 := Lib.hid hc
  have HL2 := Lib.hid hl
  have HD2 : Hid (RdEnv U2) := Lib.hid (HD1.out.later hb)
  clear hb ht hl hc
  go_wp2_with fail
  rw [show (⟨#[91, 40]⟩ ++ ⟨text.toArray⟩ ++ ⟨#[10, 41, 124, 116, 93, 46]⟩ : ByteArray) = ⟨([91, 40] ++ text ++ [10, 41, 124, 116, 93, 46]).toArray⟩ from (congrArg (· ++ (⟨#[10, 41, 124, 116, 93, 46]⟩ : ByteArray)) (cat_l [91, 40] text)).trans (cat_l ([91, 40] ++ text) [10, 41, 124, 116, 93, 46])]
  refine (one_any U2 HD2.out ([91, 40] ++ text ++ [10, 41, 124, 116, 93, 46]) (hT.out _ _ (by decide) (by decide))).mono ?_
  rintro e v3 ho
  rw [HQ3.out] at ho
  obtain ⟨x3, N3, m3, rfl, hU⟩ := out_put ho
  dsimp only at hU ⊢
  unfold clV
  go_upto_region 12 with fail
  obtain ⟨U3, hU3⟩ : ∃ U, U = v3.alloc (.cells #[.int .i64 x3.k, .int .i64 x3.n, .string ⟨x3.s.toArray⟩, .slice x3.A x3.len x3.cap, .slice N3 C3.names.length m3, .int .i64 C3.line, .int .i64 C3.next] 28) := ⟨_, rfl⟩
  rw [← hU3]
  obtain ⟨hb, ht, hl, hc⟩ := hU U3 hU3
  clear hU3 hU ho
  generalize v3.heap.size = g3 at hl hc ⊢
  have HB3 := Lib.hid hb
  have HKU3 := Lib.hid (HKU2.out.trans (hb.mono HKU2.out.size))
  have HT3 := Lib.hid ht
  have HC3 := Lib.hid hc
  have HL3 := Lib.hid hl
  have HD3 : Hid (RdEnv U3) := Lib.hid (HD2.out.later hb)
  clear hb ht hl hc
  go_wp2_with fail
  rw [show (⟨#[123]⟩ ++ ⟨text.toArray⟩ ++ ⟨#[10, 125, 46]⟩ : ByteArray) = ⟨([123] ++ text ++ [10, 125, 46]).toArray⟩ from (congrArg (· ++ (⟨#[10, 125, 46]⟩ : ByteArray)) (cat_l [123] text)).trans (cat_l ([123] ++ text) [10, 125, 46])]
  refine (one_any U3 HD3.out ([123] ++ text ++ [10, 125, 46]) (hT.out _ _ (by decide) (by decide))).mono ?_
  rintro e v4 ho
  rw [HQ4.out] at ho
  obtain ⟨x4, N4, m4, rfl, hU⟩ := out_put ho
  dsimp only at hU ⊢
  unfold clV
  go_upto_region 13 with fail
  obtain ⟨U4, hU4⟩ : ∃ U, U = v4.alloc (.cells #[.int .i64 x4.k, .int .i64 x4.n, .string ⟨x4.s.toArray⟩, .slice x4.A x4.len x4.cap, .slice N4 C4.names.length m4, .int .i64 C4.line, .int .i64 C4.next] 28) := ⟨_, rfl⟩
  rw [← hU4]
  obtain ⟨hb, ht, hl, hc⟩ := hU U4 hU4
  clear hU4 hU ho
  generalize v4.heap.size = g4 at hl hc ⊢
  have HB4 := Lib.hid hb
  have HKU4 := Lib.hid (HKU3.out.trans (hb.mono HKU3.out.size))
  have HT4 := Lib.hid ht
  have HC4 := Lib.hid hc
  have HL4 := Lib.hid hl
  have HD4 : Hid (RdEnv U4) := Lib.hid (HD3.out.later hb)
  clear hb ht hl hc
  go_upto_region 15 with fail
  have b4 : Below U4.heap.size U4 U4 := Below.refl _ _
  have b3 : Below U3.heap.size U3 U4 := HB4.out
  have b2 : Below U2.heap.size U2 U4 := HB3.out.trans (b3.mono HB3.out.size)
  have b1 : Below U1.heap.size U1 U4 := HB2.out.trans (b2.mono HB2.out.size)
  have b0 : Below U0.heap.size U0 U4 := HB1.out.trans (b1.mono HB1.out.size)
  have c0 := (b0.block g0 HL0.out).trans HC0.out
  have c1 := (b1.block g1 HL1.out).trans HC1.out
  have c2 := (b2.block g2 HL2.out).trans HC2.out
  have c3 := (b3.block g3 HL3.out).trans HC3.out
  have c4 := (b4.block g4 HL4.out).trans HC4.out
  have ht0 : TermAt U4 U4.heap.size x0 t0 := HT0.out.keep b0.size b0.block
  have ht1 : TermAt U4 U4.heap.size x1 t0 := by have h := HT1.out.keep b1.size b1.block; rw [HR1.out] at h; exact h
  have ht2 : TermAt U4 U4.heap.size x2 (compT [102] [t0]) := by have h := HT2.out.keep b2.size b2.block; rw [HR2.out] at h; exact h
  have ht3 : TermAt U4 U4.heap.size x3 (compT [46] [t0, atomT [116]]) := by have h := HT3.out.keep b3.size b3.block; rw [HR3.out] at h; exact h
  have ht4 : TermAt U4 U4.heap.size x4 (compT [123, 125] [t0]) := by have h := HT4.out; rw [HR4.out] at h; exact h
  obtain ⟨-, -, -, l2, -, a2⟩ := ht2.open
  obtain ⟨-, -, s3, l3, -, a3⟩ := ht3.open
  obtain ⟨-, -, s4, l4, -, a4⟩ := ht4.open
  obtain ⟨y2, d2, o2, eA2, -, hy2, z2⟩ := a2 0 t0 rfl
  obtain ⟨y3, d3, o3, eA3, -, hy3, z3⟩ := a3 0 t0 rfl
  obtain ⟨y4, d4, o4, eA4, -, hy4, z4⟩ := a4 0 t0 rfl
  have l2' : x2.len = 1 := l2.symm
  have l3' : x3.len = 2 := l3.symm
  have l4' : x4.len = 1 := l4.symm
  have s3' : x3.s = [46] := s3.symm
  have s4' : x4.s = [123, 125] := s4.symm
  rw [eA2, l2'] at c2
  rw [eA3, l3', s3'] at c3
  rw [eA4, l4', s4'] at c4
  have f00 : U4.cell? ⟨g0, 0, none⟩ = some (.int .i64 x0.k) := by rw [cell_of_row U4 g0 0 _ _ (0, 0) c0]; rfl
  have f01 : U4.cell? ⟨g0, 1, none⟩ = some (.int .i64 x0.n) := by rw [cell_of_row U4 g0 1 _ _ (0, 0) c0]; rfl
  have f02 : U4.cell? ⟨g0, 2, none⟩ = some (.string ⟨x0.s.toArray⟩) := by rw [cell_of_row U4 g0 2 _ _ (0, 0) c0]; rfl
  have f03 : U4.cell? ⟨g0, 3, none⟩ = some (.slice x0.A x0.len x0.cap) := by rw [cell_of_row U4 g0 3 _ _ (0, 0) c0]; rfl
  have f10 : U4.cell? ⟨g1, 0, none⟩ = some (.int .i64 x1.k) := by rw [cell_of_row U4 g1 0 _ _ (0, 0) c1]; rfl
  have f11 : U4.cell? ⟨g1, 1, none⟩ = some (.int .i64 x1.n) := by rw [cell_of_row U4 g1 1 _ _ (0, 0) c1]; rfl
  have f12 : U4.cell? ⟨g1, 2, none⟩ = some (.string ⟨x1.s.toArray⟩) := by rw [cell_of_row U4 g1 2 _ _ (0, 0) c1]; rfl
  have f13 : U4.cell? ⟨g1, 3, none⟩ = some (.slice x1.A x1.len x1.cap) := by rw [cell_of_row U4 g1 3 _ _ (0, 0) c1]; rfl
  have f23 : U4.cell? ⟨g2, 3, none⟩ = some (.slice (some ⟨d2, o2, none⟩) 1 x2.cap) := by rw [cell_of_row U4 g2 3 _ _ (0, 0) c2]; rfl
  have f32 : U4.cell? ⟨g3, 2, none⟩ = some (.string ⟨#[46]⟩) := by rw [cell_of_row U4 g3 2 _ _ (0, 0) c3]; rfl
  have f33 : U4.cell? ⟨g3, 3, none⟩ = some (.slice (some ⟨d3, o3, none⟩) 2 x3.cap) := by rw [cell_of_row U4 g3 3 _ _ (0, 0) c3]; rfl
  have f42 : U4.cell? ⟨g4, 2, none⟩ = some (.string ⟨#[123, 125]⟩) := by rw [cell_of_row U4 g4 2 _ _ (0, 0) c4]; rfl
  have f43 : U4.cell? ⟨g4, 3, none⟩ = some (.slice (some ⟨d4, o4, none⟩) 1 x4.cap) := by rw [cell_of_row U4 g4 3 _ _ (0, 0) c4]; rfl
  have e20 : U4.cell? ⟨d2, o2, none⟩ = some (.int .i64 y2.k) := by simpa using z2 0 _ rfl
  have e21 : U4.cell? ⟨d2, o2 + 1, none⟩ = some (.int .i64 y2.n) := by simpa using z2 1 _ rfl
  have e22 : U4.cell? ⟨d2, o2 + 2, none⟩ = some (.string ⟨y2.s.toArray⟩) := by simpa using z2 2 _ rfl
  have e23 : U4.cell? ⟨d2, o2 + 3, none⟩ = some (.slice y2.A y2.len y2.cap) := by simpa using z2 3 _ rfl
  have e30 : U4.cell? ⟨d3, o3, none⟩ = some (.int .i64 y3.k) := by simpa using z3 0 _ rfl
  have e31 : U4.cell? ⟨d3, o3 + 1, none⟩ = some (.int .i64 y3.n) := by simpa using z3 1 _ rfl
  have e32 : U4.cell? ⟨d3, o3 + 2, none⟩ = some (.string ⟨y3.s.toArray⟩) := by simpa using z3 2 _ rfl
  have e33 : U4.cell? ⟨d3, o3 + 3, none⟩ = some (.slice y3.A y3.len y3.cap) := by simpa using z3 3 _ rfl
  have e40 : U4.cell? ⟨d4, o4, none⟩ = some (.int .i64 y4.k) := by simpa using z4 0 _ rfl
  have e41 : U4.cell? ⟨d4, o4 + 1, none⟩ = some (.int .i64 y4.n) := by simpa using z4 1 _ rfl
  have e42 : U4.cell? ⟨d4, o4 + 2, none⟩ = some (.string ⟨y4.s.toArray⟩) := by simpa using z4 2 _ rfl
  have e43 : U4.cell? ⟨d4, o4 + 3, none⟩ = some (.slice y4.A y4.len y4.cap) := by simpa using z4 3 _ rfl
  have cc : ∀ (p : Addr) (v : Value), U4.cell? p = some v → ∀ u, Below U4.heap.size U4 u → u.cell? p = some v := fun p v h u hb => (World.cell?_of_block (hb.block _ (World.block_lt_of_cell? U4 _ h))).trans h
  have HS : Hid (∀ u, Below U4.heap.size U4 u → u.cell? ⟨g0, 0, none⟩ = some (.int .i64 x0.k) ∧ u.cell? ⟨g0, 1, none⟩ = some (.int .i64 x0.n) ∧ u.cell? ⟨g0, 2, none⟩ = some (.string ⟨x0.s.toArray⟩) ∧ u.cell? ⟨g0, 3, none⟩ = some (.slice x0.A x0.len x0.cap) ∧ u.cell? ⟨g1, 0, none⟩ = some (.int .i64 x1.k) ∧ u.cell? ⟨g1, 1, none⟩ = some (.int .i64 x1.n) ∧ u.cell? ⟨g1, 2, none⟩ = some (.string ⟨x1.s.toArray⟩) ∧ u.cell? ⟨g1, 3, none⟩ = some (.slice x1.A x1.len x1.cap) ∧ u.cell? ⟨g2, 3, none⟩ = some (.slice (some ⟨d2, o2, none⟩) 1 x2.cap) ∧ u.cell? ⟨g3, 2, none⟩ = some (.string ⟨#[46]⟩) ∧ u.cell? ⟨g3, 3, none⟩ = some (.slice (some ⟨d3, o3, none⟩) 2 x3.cap) ∧ u.cell? ⟨g4, 2, none⟩ = some (.string ⟨#[123, 125]⟩) ∧ u.cell? ⟨g4, 3, none⟩ = some (.slice (some ⟨d4, o4, none⟩) 1 x4.cap) ∧ u.cell? ⟨d2, o2, none⟩ = some (.int .i64 y2.k) ∧ u.cell? ⟨d2, o2 + 1, none⟩ = some (.int .i64 y2.n) ∧ u.cell? ⟨d2, o2 + 2, none⟩ = some (.string ⟨y2.s.toArray⟩) ∧ u.cell? ⟨d2, o2 + 3, none⟩ = some (.slice y2.A y2.len y2.cap) ∧ u.cell? ⟨d3, o3, none⟩ = some (.int .i64 y3.k) ∧ u.cell? ⟨d3, o3 + 1, none⟩ = some (.int .i64 y3.n) ∧ u.cell? ⟨d3, o3 + 2, none⟩ = some (.string ⟨y3.s.toArray⟩) ∧ u.cell? ⟨d3, o3 + 3, none⟩ = some (.slice y3.A y3.len y3.cap) ∧ u.cell? ⟨d4, o4, none⟩ = some (.int .i64 y4.k) ∧ u.cell? ⟨d4, o4 + 1, none⟩ = some (.int .i64 y4.n) ∧ u.cell? ⟨d4, o4 + 2, none⟩ = some (.string ⟨y4.s.toArray⟩) ∧ u.cell? ⟨d4, o4 + 3, none⟩ = some (.slice y4.A y4.len y4.cap)) := Lib.hid fun u hb => ⟨cc _ _ f00 u hb, cc _ _ f01 u hb, cc _ _ f02 u hb, cc _ _ f03 u hb, cc _ _ f10 u hb, cc _ _ f11 u hb, cc _ _ f12 u hb, cc _ _ f13 u hb, cc _ _ f23 u hb, cc _ _ f32 u hb, cc _ _ f33 u hb, cc _ _ f42 u hb, cc _ _ f43 u hb, cc _ _ e20 u hb, cc _ _ e21 u hb, cc _ _ e22 u hb, cc _ _ e23 u hb, cc _ _ e30 u hb, cc _ _ e31 u hb, cc _ _ e32 u hb, cc _ _ e33 u hb, cc _ _ e40 u hb, cc _ _ e41 u hb, cc _ _ e42 u hb, cc _ _ e43 u hb⟩
  have hsm : ∀ (y : TV), TermAt U4 U4.heap.size y t0 → ∀ u, Below U4.heap.size U4 u → Calls Tryd.prog 12 #[tvV y, tvV x0] u fun e u' => e = .returned (.bool true) ∧ Below U4.heap.size U4 u' := fun y hy u hb => by
    refine (same_any t0.size t0 t0 y x0 u (Nat.le_refl _) HZ0.out HZ0.out (hy.keep hb.size hb.block) (ht0.keep hb.size hb.block)).mono ?_
    rintro e u' ⟨rfl, hb'⟩
    exact ⟨by rw [sameTm_self], hb.trans (hb'.mono hb.size)⟩
  have HM1 := Lib.hid (hsm x1 ht1)
  have HM2 := Lib.hid (hsm y2 hy2)
  have HM3 := Lib.hid (hsm y3 hy3)
  have HM4 := Lib.hid (hsm y4 hy4)
  have hbr := Below.refl U4.heap.size U4
  have hbd : Below U4.heap.size U4 U4.drew := (Below.refl U4.heap.size U4).drew
  clear f00 f01 f02 f03 f10 f11 f12 f13 f23 f32 f33 f42 f43 e20 e21 e22 e23 e30 e31 e32 e33 e40 e41 e42 e43 cc hsm b0 b1 b2 b3 b4 c0 c1 c2 c3 c4 ht0 ht1 ht2 ht3 ht4 l2 a2 s3 l3 a3 s4 l4 a4 z2 z3 z4 hy2 hy3 hy4 eA2 eA3 eA4 l2' l3' l4' s3' s4' HB0 HB1 HB2 HB3 HB4 HT0 HT1 HT2 HT3 HT4 HC0 HC1 HC2 HC3 HC4 HL0 HL1 HL2 HL3 HL4 HD0 HD1 HD2 HD3 HD4 HQ1 HQ2 HQ3 HQ4 HR1 HR2 HR3 HR4 hT HE1 HZ0
  unfold tvV at HM1 HM2 HM3 HM4
  go_region_held3 (fun u => u.cell? ⟨g0, 0, none⟩ = some (.int .i64 x0.k) ∧ u.cell? ⟨g0, 1, none⟩ = some (.int .i64 x0.n) ∧ u.cell? ⟨g0, 2, none⟩ = some (.string ⟨x0.s.toArray⟩) ∧ u.cell? ⟨g0, 3, none⟩ = some (.slice x0.A x0.len x0.cap) ∧ u.cell? ⟨g1, 0, none⟩ = some (.int .i64 x1.k) ∧ u.cell? ⟨g1, 1, none⟩ = some (.int .i64 x1.n) ∧ u.cell? ⟨g1, 2, none⟩ = some (.string ⟨x1.s.toArray⟩) ∧ u.cell? ⟨g1, 3, none⟩ = some (.slice x1.A x1.len x1.cap) ∧ u.cell? ⟨g2, 3, none⟩ = some (.slice (some ⟨d2, o2, none⟩) 1 x2.cap) ∧ u.cell? ⟨g3, 2, none⟩ = some (.string ⟨#[46]⟩) ∧ u.cell? ⟨g3, 3, none⟩ = some (.slice (some ⟨d3, o3, none⟩) 2 x3.cap) ∧ u.cell? ⟨g4, 2, none⟩ = some (.string ⟨#[123, 125]⟩) ∧ u.cell? ⟨g4, 3, none⟩ = some (.slice (some ⟨d4, o4, none⟩) 1 x4.cap) ∧ u.cell? ⟨d2, o2, none⟩ = some (.int .i64 y2.k) ∧ u.cell? ⟨d2, o2 + 1, none⟩ = some (.int .i64 y2.n) ∧ u.cell? ⟨d2, o2 + 2, none⟩ = some (.string ⟨y2.s.toArray⟩) ∧ u.cell? ⟨d2, o2 + 3, none⟩ = some (.slice y2.A y2.len y2.cap) ∧ u.cell? ⟨d3, o3, none⟩ = some (.int .i64 y3.k) ∧ u.cell? ⟨d3, o3 + 1, none⟩ = some (.int .i64 y3.n) ∧ u.cell? ⟨d3, o3 + 2, none⟩ = some (.string ⟨y3.s.toArray⟩) ∧ u.cell? ⟨d3, o3 + 3, none⟩ = some (.slice y3.A y3.len y3.cap) ∧ u.cell? ⟨d4, o4, none⟩ = some (.int .i64 y4.k) ∧ u.cell? ⟨d4, o4 + 1, none⟩ = some (.int .i64 y4.n) ∧ u.cell? ⟨d4, o4 + 2, none⟩ = some (.string ⟨y4.s.toArray⟩) ∧ u.cell? ⟨d4, o4 + 3, none⟩ = some (.slice y4.A y4.len y4.cap))
    (first | (with_reducible exact HS.out _ (by assumption)))
    (first | (go_at_call 12; with_reducible refine (HM1.out _ (by assumption)).mono ?_; rintro e u1 ⟨rfl, hb1⟩) | (go_at_call 12; with_reducible refine (HM2.out _ (by assumption)).mono ?_; rintro e u2 ⟨rfl, hb2⟩) | (go_at_call 12; with_reducible refine (HM3.out _ (by assumption)).mono ?_; rintro e u3 ⟨rfl, hb3⟩) | (go_at_call 12; with_reducible refine (HM4.out _ (by assumption)).mono ?_; rintro e u4 ⟨rfl, hb4⟩))
  all_goals
    go_wp2_with fail
    go_ret
    exact ⟨rfl, HKU4.out.trans (hb4.mono HKU4.out.size)⟩
end Go.Proofs.YtmgidfndifhcoaaDoor
