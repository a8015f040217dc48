import Derived.Test.YtcallkljcjimiaaGreatDoorJW38
import Derived.Deep.Slices
import Derived.Lib.SmallJoins
import Derived.Test.YtcallkljcjimiaaGreatDoorRows
import Derived.WalkKit
import Derived.Deep.DeepWitnessRowRef
import Derived.LaidMore
import Derived.Stop.LaidErr
import Derived.Lib.LaidTab
import Derived.MakeChecks
import Derived.ProofKit
import Derived.OpenShut
import Derived.Laws.CopyRow
namespace Go.Proofs.YtcallkljcjimiaaGreatDoor
set_option maxRecDepth 100000
open Go.ChangeShapes Go.WideShapes Go.ChangeAt Go.RowKit Go.Deep
theorem exists_list {α : Type} {Q : Nat → α → Prop} : ∀ (n : Nat), (∀ i, i < n → ∃ x, Q i x) → ∃ l : List α, l.length = n ∧ ∀ i x, l[i]? = some x → Q i x
 | 0, _ => ⟨[], rfl, fun i x h => by simp at h⟩
 | n + 1, h => by
  obtain ⟨l, hl, hq⟩ := exists_list n (fun i hi => h i (by omega))
  obtain ⟨x, hx⟩ := h n (by omega)
  refine ⟨l ++ [x], by simp [hl], fun i y hy => ?_⟩
  by_cases hi : i < l.length
  ·rw [List.getElem?_append_left hi] at hy
   exact hq i y hy
  ·have : i = l.length := by
    have h1 := (List.getElem?_eq_some_iff.1 hy).1
    simp at h1
    omega
   subst this
   simp at hy
   subst hy
   rw [hl]
   exact hx
theorem addr_of_cell {w : World} {a : Addr} {v : Value} (h : w.cell? a = some v) : a = ⟨a.block, a.off, none⟩ := by
 obtain ⟨b, o, s⟩ := a
 cases s with
 | none => rfl
 | some x =>
  unfold World.cell? at h
  simp only at h
  split at h
  ·simp at h
  ·cases h
theorem add_lit' (b o i : Nat) : (⟨b, o, none⟩ : Addr).add i = ⟨b, o + i, none⟩ := by unfold Addr.add; split <;> simp_all
theorem rows_at {w : World} {base : Nat} {a : Addr} {k len : Nat} (hk : 0 < k) (h : ∀ i, i < len → ∃ cs, w.cells? base (a.add (i * k)) k = some cs) (hl : 0 < len) : a = ⟨a.block, a.off, none⟩ ∧ a.block < w.heap.size := by
 obtain ⟨cs, hc⟩ := h 0 hl
 obtain ⟨_, h1, h2⟩ := World.cells?_some hc
 have h3 := h2 0 hk
 have h4 : cs[0]? = some (cs[0]'(by omega)) := List.getElem?_eq_getElem _
 rw [h4] at h3
 have e : (a.add (0 * k)).add 0 = a := by simp [Addr.add]
 rw [e] at h3
 exact ⟨addr_of_cell h3, World.block_lt_of_cell? w _ h3⟩
open Go.ChangeShapes Go.WideShapes Go.ChangeAt Go.RowKit
def tab64 : List Int := [0, 1, 56, 2, 57, 49, 28, 3, 61, 58, 42, 50, 38, 29, 17, 4, 62, 47, 59, 36, 45, 43, 51, 22, 53, 39, 33, 30, 24, 18, 12, 5, 63, 55, 48, 27, 60, 41, 37, 16, 46, 35, 44, 21, 52, 32, 23, 11, 54, 26, 40, 15, 34, 20, 31, 10, 25, 14, 19, 9, 13, 8, 7, 6]
theorem gTab : Tryz.prog.globalNamed "math/bits.deBruijn64tab" = some 6 := by kernel_rfl
theorem gTabType : (Tryz.prog.globals[6]?).map (·.type) = some 235 := by kernel_rfl
theorem byteCells25 : Tryz.prog.cellsOf 5 = 1 := by kernel_rfl
theorem tabCells25 : Tryz.prog.cellsOf 235 = 64 := by kernel_rfl
theorem tab_of_laid {W : World} {rest : List (String × DataW Unit)} (h : laidMet Tryz.prog (("math/bits.deBruijn64tab", Rows.laid_math_bits_deBruijn64tab) :: rest) W) : W.cell? ⟨6, 15, none⟩ = some (.int .u8 4) :=
 (Lib.tabIs_of_head (zs := tab64) (rest := rest) gTab gTabType Tryz.underlying235 Tryz.underlying5 byteCells25 tabCells25 h).cell gTab 15 (by decide)
theorem gKinds : Tryz.prog.globalNamed "prolix/ops.kinds" = some 0 := by kernel_rfl
theorem gKindsType : (Tryz.prog.globals[0]?).map (·.type) = some 89 := by kernel_rfl
theorem gSpace : Tryz.prog.globalNamed "strings.asciiSpace" = some 1 := by kernel_rfl
theorem gSpaceType : (Tryz.prog.globals[1]?).map (·.type) = some 129 := by kernel_rfl
theorem kindCells : Tryz.prog.cellsOf 88 = 3 := by kernel_rfl
theorem byteCells : Tryz.prog.cellsOf 5 = 1 := by kernel_rfl
theorem spaceCells : Tryz.prog.cellsOf 129 = 256 := by kernel_rfl
theorem kindFields : ∃ f g k : Field, Tryz.prog.underlying 88 = some (.struct #[f, g, k]) ∧ f.type = 3 ∧ g.type = 3 ∧ k.type = 3 ∧ f.offset = 0 ∧ g.offset = 1 ∧ k.offset = 2 := ⟨_, _, _, Tryz.underlying88, rfl, rfl, rfl, rfl, rfl, rfl⟩
theorem space_of_laid {W : World} {rest : List (String × DataW Unit)} (h : laidMet Tryz.prog (("strings.asciiSpace", Rows.laid_strings_asciiSpace) :: rest) W) : Lib.TabIs Tryz.prog W "strings.asciiSpace" .u8 Lib.asciiSpaceTab :=
 Lib.tabIs_of_head (rest := rest) gSpace gSpaceType Tryz.underlying129 Tryz.underlying5 byteCells spaceCells h
theorem kinds_of_laid {W : World} {rest : List (String × DataW Unit)} (h : laidMet Tryz.prog (("prolix/ops.kinds", Rows.laid_prolix_ops_kinds) :: rest) W) : KindsAt W := by
 obtain ⟨ps, ⟨g', t', cs, fuel, p, q, hg', ht', hvar, hd, _, _⟩, _⟩ := h
 obtain rfl := Option.some.inj (gKinds.symm.trans hg')
 obtain rfl := Option.some.inj (gKindsType.symm.trans ht')
 obtain ⟨xs, m, _, hx, hlen, hn, hel⟩ := DataW.trod_array Tryz.underlying89 hd
 obtain ⟨f, g, k, hu, f1, g1, k1, f2, g2, k2⟩ := kindFields
 simp only [Prod.mk.injEq, Rows.laid_prolix_ops_kinds, DataW.agg.injEq] at hx
 intro t ht
 have hi := hel t (by omega)
 obtain ⟨x, hxt⟩ : ∃ x, xs[t]? = some x := ⟨_, List.getElem?_eq_getElem (by omega)⟩
 rw [hxt, kindCells] at hi
 obtain ⟨ys, _, _, hy, hl3, hyl, hf⟩ := DataW.trod_struct hu hi
 have hcs : ∀ i, i < 3 → W.cell? ⟨0, t * 3 + i, none⟩ = ((cs.toList.drop (t * 3)).take 3)[i]? := by
  intro i hi
  rw [World.var?_cell gKinds hvar (t * 3 + i), List.getElem?_take, if_pos hi, List.getElem?_drop]
  simp
 have hmap := congrArg (·[t]?) hx.1
 simp only [List.getElem?_map, hxt, Option.map_some, hy] at hmap
 rw [kindCells] at hl3
 generalize hz : (cs.toList.drop (t * 3)).take 3 = zs at *
 match zs, hl3 with
 | [c0, c1, c2], _ =>
  have e0 := hf 0 f rfl
  have e1 := hf 1 g rfl
  have e2 := hf 2 k rfl
  rw [f1, f2, intCells] at e0
  rw [g1, g2, intCells] at e1
  rw [k1, k2, intCells] at e2
  simp only [List.drop_zero, List.take_succ_cons, List.take_zero, List.drop_succ_cons] at e0 e1 e2
  have hyl' : ys.length = 3 := hyl
  match ys, hyl' with
  | [y0, y1, y2], _ =>
   simp only [List.getElem?_cons_zero, List.getElem?_cons_succ] at e0 e1 e2
   obtain ⟨n0, h0, h0', _⟩ := DataW.trod_int Tryz.underlying3 e0
   obtain ⟨n1, h1, h1', _⟩ := DataW.trod_int Tryz.underlying3 e1
   obtain ⟨n2, h2, h2', _⟩ := DataW.trod_int Tryz.underlying3 e2
   simp only [List.cons.injEq, and_true] at h0 h1 h2
   subst h0 h1 h2 h0' h1' h2'
   have a0 := hcs 0 (by omega)
   have a1 := hcs 1 (by omega)
   have a2 := hcs 2 (by omega)
   simp only [List.getElem?_cons_zero, List.getElem?_cons_succ, Nat.add_zero] at a0 a1 a2
   rw [a0, a1, a2]
   simp only [List.map_cons, List.map_nil] at hmap
   have : t = 0 ∨ t = 1 ∨ t = 2 ∨ t = 3 ∨ t = 4 ∨ t = 5 ∨ t = 6 ∨ t = 7 := by omega
   rcases this with rfl | rfl | rfl | rfl | rfl | rfl | rfl | rfl <;> simp at hmap <;> obtain ⟨rfl, rfl, rfl⟩ := hmap <;> exact ⟨rfl, rfl, rfl⟩
theorem partCells : Tryz.prog.cellsOf 93 = 4 := by kernel_rfl
theorem partFields : ∃ f g k h : Field, Tryz.prog.underlying 93 = some (.struct #[f, g, k, h]) ∧ f.type = 3 ∧ g.type = 2 ∧ k.type = 9 ∧ h.type = 5 ∧ f.offset = 0 ∧ g.offset = 1 ∧ k.offset = 2 ∧ h.offset = 3 := ⟨_, _, _, _, Tryz.underlying93, rfl, rfl, rfl, rfl, rfl, rfl, rfl, rfl⟩
theorem i64Cells : Tryz.prog.cellsOf 2 = 1 := by kernel_rfl
theorem u8Cells7 : Tryz.prog.cellsOf 5 = 1 := by kernel_rfl
theorem parts_of_trod {H : Type} {enc : TypeId × Value → H} {W : World} {base : Nat} {sp : Nat → Bool} {held : Bool} {n : Nat} {v : Value} {y : DataW H × List MemPlace} (h : DataW.trod enc Tryz.prog W base sp held n 22 [v] = some y) :
    ∃ (A : Option Addr) (k c : Nat), v = .slice A k c ∧ PartsIn W A k c := by
 rcases open_slice Tryz.underlying22 h with ⟨h0, _⟩ | ⟨a, len, cap, m, n', D, Pl, hcs, _, hlc, hcm, hm, _, hel⟩
 ·obtain rfl : v = .slice none 0 0 := by simpa using h0
  exact ⟨none, 0, 0, rfl, fun _ => ⟨[], rfl, Nat.le_refl _, ⟨fun i x h => (by simp at h), fun p hp => (by cases hp), Nat.zero_le _⟩, fun p hp => (by cases hp)⟩⟩
 ·obtain rfl : v = .slice (some a) len cap := by simpa using hcs
  have hlm : len ≤ m := by rw [hm]; split <;> omega
  rw [partCells] at hel
  obtain ⟨f, g, q, r, hu, f1, g1, q1, r1, f2, g2, q2, r2⟩ := partFields
  have key : ∀ i, i < len → ∃ x : PartT, (∃ b off, (some a : Option Addr) = some ⟨b, off, none⟩ ∧ b < W.heap.size ∧ ∀ (j : Nat) u, (encPart x)[j]? = some u → W.cell? ⟨b, off + i * 4 + j, none⟩ = some u) ∧ (x.s.length ≤ maxLen ∧ x.a < 256) ∧ (-9223372036854775808 ≤ x.n ∧ x.n ≤ 9223372036854775807) := by
   intro i hi
   obtain ⟨ha, hb⟩ := rows_at (w := W) (base := base) (a := a) (k := 4) (len := len) (by omega) (fun j hj => by obtain ⟨cs, h1, _⟩ := hel j (by omega); exact ⟨cs, h1⟩) (by omega)
   obtain ⟨cs, h1, h2⟩ := hel i (by omega)
   obtain ⟨_, hl3, hc⟩ := World.cells?_some h1
   obtain ⟨xs, _, _, _, _, hxl, hf⟩ := DataW.trod_struct hu h2
   match cs, hl3 with
   | [c0, c1, c2, c3], _ =>
    have e0 := hf 0 f rfl
    have e1 := hf 1 g rfl
    have e2 := hf 2 q rfl
    have e3 := hf 3 r rfl
    rw [f1, f2] at e0
    rw [g1, g2] at e1
    rw [q1, q2] at e2
    rw [r1, r2] at e3
    rw [show Tryz.prog.cellsOf 3 = 1 from intCells] at e0
    rw [i64Cells] at e1
    rw [show Tryz.prog.cellsOf 9 = 1 from stringCells] at e2
    rw [u8Cells7] at e3
    simp only [List.drop_zero, List.take_succ_cons, List.take_zero, List.drop_succ_cons] at e0 e1 e2 e3
    have hlen : xs.length = 4 := hxl
    obtain ⟨y0, hy0⟩ : ∃ y0, xs[0]? = some y0 := ⟨_, List.getElem?_eq_getElem (by omega)⟩
    obtain ⟨y1, hy1⟩ : ∃ y1, xs[1]? = some y1 := ⟨_, List.getElem?_eq_getElem (by omega)⟩
    obtain ⟨y2, hy2⟩ : ∃ y2, xs[2]? = some y2 := ⟨_, List.getElem?_eq_getElem (by omega)⟩
    obtain ⟨y3, hy3⟩ : ∃ y3, xs[3]? = some y3 := ⟨_, List.getElem?_eq_getElem (by omega)⟩
    rw [hy0] at e0
    rw [hy1] at e1
    rw [hy2] at e2
    rw [hy3] at e3
    obtain ⟨p, hp, _, _⟩ := DataW.trod_int Tryz.underlying3 e0
    obtain ⟨t, ht, _, wt⟩ := DataW.trod_int Tryz.underlying2 e1
    obtain ⟨s, hs, _, hsz⟩ := DataW.trod_string Tryz.underlying9 e2
    obtain ⟨o, ho, _, wo⟩ := DataW.trod_int Tryz.underlying5 e3
    simp only [List.cons.injEq, and_true] at hp ht hs ho
    subst hp ht hs ho
    have bo := bounds_u8 wo
    have bt := bounds_i64 wt
    have a0 := hc 0 (by omega)
    have a1 := hc 1 (by omega)
    have a2 := hc 2 (by omega)
    have a3 := hc 3 (by omega)
    rw [ha, add_lit', add_lit'] at a0 a1 a2 a3
    refine ⟨⟨p, t, s.data.toList, o.toNat⟩, ⟨a.block, a.off, by rw [← ha], hb, ?_⟩, ⟨?_, by show o.toNat < 256; omega⟩, bt⟩
    ·intro j u hu
     have ho : ((o.toNat : Nat) : Int) = o := by omega
     unfold encPart at hu
     rw [ho] at hu
     match j, hu with
     | 0, hu =>
      have hu : Value.int .i64 p = u := by simpa using hu
      rw [← hu]; simpa using a0
     | 1, hu =>
      have hu : Value.int .i64 t = u := by simpa using hu
      rw [← hu]; simpa using a1
     | 2, hu =>
      have hu : Value.string s = u := by simpa using hu
      rw [← hu]; simpa using a2
     | 3, hu =>
      have hu : Value.int .u8 o = u := by simpa using hu
      rw [← hu]; simpa using a3
     | j + 4, hu => simp at hu
    ·show s.data.toList.length ≤ maxLen
     rw [Array.length_toList]
     exact hsz
  obtain ⟨l, hl, hq⟩ := exists_list len key
  refine ⟨some a, len, cap, rfl, fun hn => ⟨l, hl, hlc, ⟨fun i p hp => (hq i p hp).1, fun p hp => ?_, by omega⟩, fun p hp => ?_⟩⟩
  ·obtain ⟨i, hi, rfl⟩ := List.getElem_of_mem hp
   exact (hq i _ (List.getElem?_eq_getElem hi)).2.1
  ·obtain ⟨i, hi, rfl⟩ := List.getElem_of_mem hp
   exact (hq i _ (List.getElem?_eq_getElem hi)).2.2
theorem gPow : Tryz.prog.globalNamed "internal/strconv.uint64pow10" = some 4 := by kernel_rfl
theorem gPowType : (Tryz.prog.globals[4]?).map (·.type) = some 228 := by kernel_rfl
theorem powCells : Tryz.prog.cellsOf 202 = 1 := by kernel_rfl
theorem powsCells : Tryz.prog.cellsOf 228 = 20 := by kernel_rfl
theorem pow_of_laid {W : World} {rest : List (String × DataW Unit)} (h : laidMet Tryz.prog (("internal/strconv.uint64pow10", Rows.laid_internal_strconv_uint64pow10) :: rest) W) : PowAt W :=
 Lib.tabIs_of_head (rest := rest) gPow gPowType Tryz.underlying228 Tryz.underlying202 powCells powsCells h
theorem env_of_laid {W : World} {m : Int} (hm : W.cell? ⟨3, 0, none⟩ = some (.int .i64 m))
    (hL : laidMet Tryz.prog [("math/bits.deBruijn32tab", Rows.laid_math_bits_deBruijn32tab), ("math/bits.deBruijn64tab", Rows.laid_math_bits_deBruijn64tab), ("internal/strconv.uint64pow10", Rows.laid_internal_strconv_uint64pow10), ("unicode.White_Space", Rows.laid_unicode_White_Space), ("strings.asciiSpace", Rows.laid_strings_asciiSpace), ("prolix/ops.kinds", Rows.laid_prolix_ops_kinds)] W) : WrEnv W := by
 have h1 := hL.tail
 have h2 := h1.tail
 have h4 := h2.tail.tail
 exact ⟨⟨⟨m, hm⟩, kinds_of_laid h4.tail, space_of_laid h4⟩, ⟨kinds_of_laid h4.tail, pow_of_laid h2, tab_of_laid h1⟩⟩
open Go.RowKit Go.Maps
def okB (B k : Nat) : Prop := B ≤ k ∧ k ≠ B + 1
abbrev Loc := Nat × Nat
def encPt (p : Loc) : List Value := [.pointer (some ⟨p.1, p.2, none⟩)]
structure Cells4 (w : World) (p : Loc) (k n : Int) (s : List UInt8) (sl : Value) : Prop where
 c0 : w.cell? ⟨p.1, p.2, none⟩ = some (.int .i64 k)
 c1 : w.cell? ⟨p.1, p.2 + 1, none⟩ = some (.int .i64 n)
 c2 : w.cell? ⟨p.1, p.2 + 2, none⟩ = some (.string ⟨s.toArray⟩)
 c3 : w.cell? ⟨p.1, p.2 + 3, none⟩ = some sl
theorem Cells4.keep {w w' : World} {p : Loc} {k n : Int} {s : List UInt8} {sl : Value} (h : Cells4 w p k n s sl) (hb : w'.heap[p.1]? = w.heap[p.1]?) : Cells4 w' p k n s sl :=
 ⟨(World.cell?_of_block (w := w) (a := ⟨p.1, p.2, none⟩) hb).trans h.c0, (World.cell?_of_block (w := w) (a := ⟨p.1, p.2 + 1, none⟩) hb).trans h.c1, (World.cell?_of_block (w := w) (a := ⟨p.1, p.2 + 2, none⟩) hb).trans h.c2, (World.cell?_of_block (w := w) (a := ⟨p.1, p.2 + 3, none⟩) hb).trans h.c3⟩
def DoneAt (w : World) (Dn : List (Loc × Tm)) (Pd : List (Loc × Tm × Tm)) (p : Loc) (T : Tm) : Prop :=
 T.s.length ≤ maxLen ∧ ∃ sl, Cells4 w p T.k T.n T.s sl ∧ ((T.args = [] ∧ sl = .slice none 0 0) ∨
  ∃ g c, sl = .slice (some ⟨g, 0, none⟩) T.args.length c ∧ ∀ i Ti, T.args[i]? = some Ti → ((g, i * 4), Ti) ∈ Dn ∨ ∃ t, ((g, i * 4), t, Ti) ∈ Pd)
structure RenAt (w : World) (B B0 : Nat) (Dn : List (Loc × Tm)) (Pd : List (Loc × Tm × Tm)) : Prop where
 nd : (Dn.map (·.1) ++ Pd.map (·.1)).Nodup
 loc : ∀ p, p ∈ Dn.map (·.1) ++ Pd.map (·.1) → okB B p.1 ∧ TyB w 28 p.1 ∧ p.2 % 4 = 0
 dn : ∀ p T, (p, T) ∈ Dn → DoneAt w Dn Pd p T
 pd : ∀ p t T, (p, t, T) ∈ Pd → ∃ x : TV, Cells4 w p x.k x.n x.s (.slice x.A x.len x.cap) ∧ TermAt w B0 x t
 low : B0 ≤ B
section
variable {w w' : World} {B B0 : Nat} {Dn : List (Loc × Tm)} {Pd : List (Loc × Tm × Tm)}
theorem Cells4.other {p q : Loc} {k n : Int} {s : List UInt8} {sl : Value} (h : Cells4 w q k n s sl) (hp : p.2 % 4 = 0) (hq : q.2 % 4 = 0) (hne : q ≠ p) (j : Nat) (hj : j < 4) (v : Value) : Cells4 (w.setCell ⟨p.1, p.2 + j, none⟩ v) q k n s sl := by
 have ho : ∀ i, i < 4 → (w.setCell ⟨p.1, p.2 + j, none⟩ v).cell? ⟨q.1, q.2 + i, none⟩ = w.cell? ⟨q.1, q.2 + i, none⟩ := fun i hi => World.cell?_setCell_other _ _ _ _ (by
  intro e
  injection e with e1 e2
  exact hne (Prod.ext (by first | exact e1 | exact e1.symm) (by omega)))
 exact ⟨(ho 0 (by omega)).trans h.c0, (ho 1 (by omega)).trans h.c1, (ho 2 (by omega)).trans h.c2, (ho 3 (by omega)).trans h.c3⟩
structure StepW (w w' : World) (B0 : Nat) (p : Loc) : Prop where
 other : ∀ (q : Loc) k n s sl, q ≠ p → q.2 % 4 = 0 → TyB w 28 q.1 → Cells4 w q k n s sl → Cells4 w' q k n s sl
 ty : ∀ k, TyB w 28 k → TyB w' 28 k
 low : ∀ k, k < B0 → w'.heap[k]? = w.heap[k]?
theorem RenAt.head {p : Loc} {t T : Tm} (h : RenAt w B B0 Dn ((p, t, T) :: Pd)) : p ∉ Dn.map (·.1) ∧ p ∉ Pd.map (·.1) ∧ (Dn.map (·.1) ++ Pd.map (·.1)).Nodup := by
 have h1 := h.nd
 rw [List.map_cons] at h1
 have h2 := (List.perm_middle (a := p) (l₁ := Dn.map (·.1)) (l₂ := Pd.map (·.1))).nodup_iff.1 h1
 rw [List.nodup_cons] at h2
 exact ⟨fun e => h2.1 (List.mem_append_left _ e), fun e => h2.1 (List.mem_append_right _ e), h2.2⟩
theorem RenAt.step {p : Loc} {t T : Tm} (h : RenAt w B B0 Dn ((p, t, T) :: Pd)) (hs : StepW w w' B0 p) (g c : Nat) (sl : Value) (hT : T.s.length ≤ maxLen) (hc : Cells4 w' p T.k T.n T.s sl)
    (hsl : (T.args = [] ∧ sl = .slice none 0 0) ∨ sl = .slice (some ⟨g, 0, none⟩) T.args.length c)
    (hg : T.args ≠ [] → okB B g ∧ TyB w' 28 g ∧ ∀ q, TyB w 28 q → q ≠ g)
    (hch : ∀ i, i < T.args.length → ∃ x : TV, Cells4 w' (g, i * 4) x.k x.n x.s (.slice x.A x.len x.cap) ∧ TermAt w' B0 x (t.args.getD i noTm)) :
    RenAt w' B B0 ((p, T) :: Dn) ((List.range T.args.length).map (fun i => ((g, i * 4), t.args.getD i noTm, T.args.getD i noTm)) ++ Pd) := by
 obtain ⟨n1, n2, n3⟩ := h.head
 have hp := h.loc p (List.mem_append_right _ (by simp))
 have hloc : ∀ q, q ∈ Dn.map (·.1) ++ Pd.map (·.1) → okB B q.1 ∧ TyB w 28 q.1 ∧ q.2 % 4 = 0 := fun q hq => h.loc q (by
  rcases List.mem_append.1 hq with e | e
  ·exact List.mem_append_left _ e
  ·exact List.mem_append_right _ (List.mem_cons_of_mem _ e))
 have hne : ∀ q, q ∈ Dn.map (·.1) ++ Pd.map (·.1) → q ≠ p := fun q hq e => by
  subst e
  rcases List.mem_append.1 hq with e | e
  ·exact n1 e
  ·exact n2 e
 have hmap : ((List.range T.args.length).map (fun i => (((g, i * 4), t.args.getD i noTm, T.args.getD i noTm) : Loc × Tm × Tm))).map (·.1) = (List.range T.args.length).map fun i => ((g, i * 4) : Loc) := by
  rw [List.map_map]
  rfl
 have hin : ∀ q, q ∈ (List.range T.args.length).map (fun i => ((g, i * 4) : Loc)) → q.1 = g ∧ q.2 % 4 = 0 ∧ T.args ≠ [] := fun q hq => by
  obtain ⟨i, hi, rfl⟩ := List.mem_map.1 hq
  have := List.mem_range.1 hi
  exact ⟨rfl, by show i * 4 % 4 = 0; omega, fun e => by rw [e] at this; simp at this⟩
 refine ⟨?_, ?_, ?_, ?_, h.low⟩
 ·rw [List.map_cons, List.map_append, hmap, List.cons_append, List.nodup_cons]
  have hch2 : ((List.range T.args.length).map fun i => ((g, i * 4) : Loc)).Nodup := by
   refine List.pairwise_map.2 (List.nodup_range.imp fun hij e => hij ?_)
   have := congrArg Prod.snd e
   simp only at this
   omega
  refine ⟨fun e => ?_, ?_⟩
  ·rcases List.mem_append.1 e with e | e
   ·exact n1 e
   ·rcases List.mem_append.1 e with e | e
    ·obtain ⟨e1, -, e3⟩ := hin p e
     exact (hg e3).2.2 p.1 hp.2.1 e1
    ·exact n2 e
  ·rw [List.nodup_append] at n3 ⊢
   refine ⟨n3.1, ?_, ?_⟩
   ·rw [List.nodup_append]
    refine ⟨hch2, n3.2.1, fun a ha b hb e => ?_⟩
    subst e
    obtain ⟨e1, -, e3⟩ := hin a ha
    exact (hg e3).2.2 a.1 (hloc a (List.mem_append_right _ hb)).2.1 e1
   ·intro a ha b hb e
    subst e
    rcases List.mem_append.1 hb with e | e
    ·obtain ⟨e1, -, e3⟩ := hin a e
     exact (hg e3).2.2 a.1 (hloc a (List.mem_append_left _ ha)).2.1 e1
    ·exact n3.2.2 a ha a e rfl
 ·intro q hq
  rw [List.map_cons, List.map_append, hmap, List.cons_append] at hq
  rcases List.mem_cons.1 hq with rfl | hq
  ·exact ⟨hp.1, hs.ty _ hp.2.1, hp.2.2⟩
  ·rcases List.mem_append.1 hq with e | e
   ·have := hloc q (List.mem_append_left _ e)
    exact ⟨this.1, hs.ty _ this.2.1, this.2.2⟩
   ·rcases List.mem_append.1 e with e | e
    ·obtain ⟨e1, e2, e3⟩ := hin q e
     exact ⟨by rw [e1]; exact (hg e3).1, by rw [e1]; exact (hg e3).2.1, e2⟩
    ·have := hloc q (List.mem_append_right _ e)
     exact ⟨this.1, hs.ty _ this.2.1, this.2.2⟩
 ·intro q Tq hq
  rcases List.mem_cons.1 hq with e | hq
  ·injection e with e1 e2
   subst e1 e2
   refine ⟨hT, sl, hc, ?_⟩
   rcases hsl with e | e
   ·exact .inl e
   ·refine .inr ⟨g, c, e, fun i Ti hi => .inr ⟨t.args.getD i noTm, List.mem_append_left _ (List.mem_map.2 ⟨i, List.mem_range.2 (List.getElem?_eq_some_iff.1 hi).1, ?_⟩)⟩⟩
    rw [show Tq.args.getD i noTm = Ti by rw [List.getD_eq_getElem?_getD, hi]; rfl]
  ·have hql := hloc q (List.mem_append_left _ (List.mem_map_of_mem hq))
   obtain ⟨h0, sq, h1, h2⟩ := h.dn q Tq hq
   refine ⟨h0, sq, hs.other q _ _ _ _ (hne q (List.mem_append_left _ (List.mem_map_of_mem hq))) hql.2.2 hql.2.1 h1, ?_⟩
   rcases h2 with h2 | ⟨g', c', h2, h3⟩
   ·exact .inl h2
   ·refine .inr ⟨g', c', h2, fun i Ti hi => ?_⟩
    rcases h3 i Ti hi with h4 | ⟨t', h4⟩
    ·exact .inl (List.mem_cons_of_mem _ h4)
    ·rcases List.mem_cons.1 h4 with e | h4
     ·injection e with e1 e2
      injection e2 with e2 e3
      exact .inl (by rw [e1, e3]; exact List.mem_cons_self)
     ·exact .inr ⟨t', List.mem_append_right _ h4⟩
 ·intro q t' T' hq
  rcases List.mem_append.1 hq with e | e
  ·obtain ⟨i, hi, e⟩ := List.mem_map.1 e
   injection e with e1 e2
   injection e2 with e2 e3
   subst e1 e2 e3
   exact hch i (List.mem_range.1 hi)
  ·obtain ⟨x, h1, h2⟩ := h.pd q t' T' (List.mem_cons_of_mem _ e)
   have hql := hloc q (List.mem_append_right _ (List.mem_map_of_mem e))
   exact ⟨x, hs.other q _ _ _ _ (hne q (List.mem_append_right _ (List.mem_map_of_mem e))) hql.2.2 hql.2.1 h1, h2.keep (Nat.le_refl _) hs.low⟩
end
end Go.Proofs.YtcallkljcjimiaaGreatDoor
