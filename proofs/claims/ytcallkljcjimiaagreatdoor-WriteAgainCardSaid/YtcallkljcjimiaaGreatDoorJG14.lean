import Derived.Test.YtcallkljcjimiaaGreatDoorJG13
import Derived.Test.YtcallkljcjimiaaGreatDoorJW35
import Derived.Deep.Slices
import Derived.Lib.SmallJoins
import Derived.Test.YtcallkljcjimiaaGreatDoorRows
import Derived.WalkKit
import Derived.Deep.DeepWitnessRowRef
import Derived.LaidMore
import Derived.Stop.LaidErr
import Derived.Lib.LaidTab
import Derived.MakeChecks
import Derived.ProofKit
import Derived.OpenShut
import Derived.Test.YtcallkljcjimiaaGreatDoorProg
import Derived.KernelRfl
import Derived.WalkSmall
import Derived.Lib.Hide
import Derived.Shelf.Small.Strs
import Derived.Shelf.Small.Wraps
import Derived.Shelf.LaysM
import Derived.Shelf.Strings.Fields
import Derived.Laws.AppendOwn
import Derived.Laws.MakeOwn
import Derived.Deep.OwnRows
import Derived.Laws.AppendOwnNone
import Derived.Deep.AppendLies
import Derived.Deep.RegionLaw
import Derived.WalkSpells
import Derived.BigQuiet
import Derived.Deep.QuietTactic
import Derived.StillTailTactics
import Derived.IntWalk
import Derived.Maps.Keyed
import Derived.StringKeys
import Derived.Lib.ItoaMem
import Derived.Lib.ItoaNum
import Derived.Deep.RegionHeld3
import Derived.Laws.OwnMore
import Derived.Deep.Cut
import Derived.Deep.CutRange
import Derived.Deep.DeepCutAuto
import Derived.Deep.DrawnRows
import Derived.Defers
import Derived.Recover
import Derived.LoopTactic
import Derived.Laws.IdiomStrings
import Derived.Laws.BytesArg
import Derived.Laws.DeepStrings4
import Derived.Shelf.Strings.Search1
import Derived.Shelf.Strings.Search2
import Derived.Shelf.Strings.Search3
import Derived.Shelf.Strings.Count
import Derived.Shelf.Strings.Shaped
import Derived.Shelf.Strings.Prefix
import Derived.Deep.LoopGhost
import Derived.Lib.Index
import Derived.Laws.EntriesVeiled
import Derived.LoopN
import Derived.Shelf.Strconv.Itoa4
import Derived.Lib.AppendStr
namespace Go.Proofs.YtcallkljcjimiaaGreatDoor
set_option maxRecDepth 100000
open Go.ChangeShapes Go.WideShapes Go.ChangeAt Go.RowKit Go.Deep
theorem exists_list {α : Type} {Q : Nat → α → Prop} : ∀ (n : Nat), (∀ i, i < n → ∃ x, Q i x) → ∃ l : List α, l.length = n ∧ ∀ i x, l[i]? = some x → Q i x
 | 0, _ => ⟨[], rfl, fun i x h => by simp at h⟩
 | n + 1, h => by
  obtain ⟨l, hl, hq⟩ := exists_list n (fun i hi => h i (by omega))
  obtain ⟨x, hx⟩ := h n (by omega)
  refine ⟨l ++ [x], by simp [hl], fun i y hy => ?_⟩
  by_cases hi : i < l.length
  ·rw [List.getElem?_append_left hi] at hy
   exact hq i y hy
  ·have : i = l.length := by
    have h1 := (List.getElem?_eq_some_iff.1 hy).1
    simp at h1
    omega
   subst this
   simp at hy
   subst hy
   rw [hl]
   exact hx
theorem addr_of_cell {w : World} {a : Addr} {v : Value} (h : w.cell? a = some v) : a = ⟨a.block, a.off, none⟩ := by
 obtain ⟨b, o, s⟩ := a
 cases s with
 | none => rfl
 | some x =>
  unfold World.cell? at h
  simp only at h
  split at h
  ·simp at h
  ·cases h
theorem add_lit' (b o i : Nat) : (⟨b, o, none⟩ : Addr).add i = ⟨b, o + i, none⟩ := by unfold Addr.add; split <;> simp_all
theorem rows_at {w : World} {base : Nat} {a : Addr} {k len : Nat} (hk : 0 < k) (h : ∀ i, i < len → ∃ cs, w.cells? base (a.add (i * k)) k = some cs) (hl : 0 < len) : a = ⟨a.block, a.off, none⟩ ∧ a.block < w.heap.size := by
 obtain ⟨cs, hc⟩ := h 0 hl
 obtain ⟨_, h1, h2⟩ := World.cells?_some hc
 have h3 := h2 0 hk
 have h4 : cs[0]? = some (cs[0]'(by omega)) := List.getElem?_eq_getElem _
 rw [h4] at h3
 have e : (a.add (0 * k)).add 0 = a := by simp [Addr.add]
 rw [e] at h3
 exact ⟨addr_of_cell h3, World.block_lt_of_cell? w _ h3⟩
open Go.ChangeShapes Go.WideShapes Go.ChangeAt Go.RowKit
def tab64 : List Int := [0, 1, 56, 2, 57, 49, 28, 3, 61, 58, 42, 50, 38, 29, 17, 4, 62, 47, 59, 36, 45, 43, 51, 22, 53, 39, 33, 30, 24, 18, 12, 5, 63, 55, 48, 27, 60, 41, 37, 16, 46, 35, 44, 21, 52, 32, 23, 11, 54, 26, 40, 15, 34, 20, 31, 10, 25, 14, 19, 9, 13, 8, 7, 6]
theorem gTab : Tryz.prog.globalNamed "math/bits.deBruijn64tab" = some 6 := by kernel_rfl
theorem gTabType : (Tryz.prog.globals[6]?).map (·.type) = some 235 := by kernel_rfl
theorem byteCells25 : Tryz.prog.cellsOf 5 = 1 := by kernel_rfl
theorem tabCells25 : Tryz.prog.cellsOf 235 = 64 := by kernel_rfl
theorem tab_of_laid {W : World} {rest : List (String × DataW Unit)} (h : laidMet Tryz.prog (("math/bits.deBruijn64tab", Rows.laid_math_bits_deBruijn64tab) :: rest) W) : W.cell? ⟨6, 15, none⟩ = some (.int .u8 4) :=
 (Lib.tabIs_of_head (zs := tab64) (rest := rest) gTab gTabType Tryz.underlying235 Tryz.underlying5 byteCells25 tabCells25 h).cell gTab 15 (by decide)
theorem gKinds : Tryz.prog.globalNamed "prolix/ops.kinds" = some 0 := by kernel_rfl
theorem gKindsType : (Tryz.prog.globals[0]?).map (·.type) = some 89 := by kernel_rfl
theorem gSpace : Tryz.prog.globalNamed "strings.asciiSpace" = some 1 := by kernel_rfl
theorem gSpaceType : (Tryz.prog.globals[1]?).map (·.type) = some 129 := by kernel_rfl
theorem kindCells : Tryz.prog.cellsOf 88 = 3 := by kernel_rfl
theorem byteCells : Tryz.prog.cellsOf 5 = 1 := by kernel_rfl
theorem spaceCells : Tryz.prog.cellsOf 129 = 256 := by kernel_rfl
theorem kindFields : ∃ f g k : Field, Tryz.prog.underlying 88 = some (.struct #[f, g, k]) ∧ f.type = 3 ∧ g.type = 3 ∧ k.type = 3 ∧ f.offset = 0 ∧ g.offset = 1 ∧ k.offset = 2 := ⟨_, _, _, Tryz.underlying88, rfl, rfl, rfl, rfl, rfl, rfl⟩
theorem space_of_laid {W : World} {rest : List (String × DataW Unit)} (h : laidMet Tryz.prog (("strings.asciiSpace", Rows.laid_strings_asciiSpace) :: rest) W) : Lib.TabIs Tryz.prog W "strings.asciiSpace" .u8 Lib.asciiSpaceTab :=
 Lib.tabIs_of_head (rest := rest) gSpace gSpaceType Tryz.underlying129 Tryz.underlying5 byteCells spaceCells h
theorem kinds_of_laid {W : World} {rest : List (String × DataW Unit)} (h : laidMet Tryz.prog (("prolix/ops.kinds", Rows.laid_prolix_ops_kinds) :: rest) W) : KindsAt W := by
 obtain ⟨ps, ⟨g', t', cs, fuel, p, q, hg', ht', hvar, hd, _, _⟩, _⟩ := h
 obtain rfl := Option.some.inj (gKinds.symm.trans hg')
 obtain rfl := Option.some.inj (gKindsType.symm.trans ht')
 obtain ⟨xs, m, _, hx, hlen, hn, hel⟩ := DataW.trod_array Tryz.underlying89 hd
 obtain ⟨f, g, k, hu, f1, g1, k1, f2, g2, k2⟩ := kindFields
 simp only [Prod.mk.injEq, Rows.laid_prolix_ops_kinds, DataW.agg.injEq] at hx
 intro t ht
 have hi := hel t (by omega)
 obtain ⟨x, hxt⟩ : ∃ x, xs[t]? = some x := ⟨_, List.getElem?_eq_getElem (by omega)⟩
 rw [hxt, kindCells] at hi
 obtain ⟨ys, _, _, hy, hl3, hyl, hf⟩ := DataW.trod_struct hu hi
 have hcs : ∀ i, i < 3 → W.cell? ⟨0, t * 3 + i, none⟩ = ((cs.toList.drop (t * 3)).take 3)[i]? := by
  intro i hi
  rw [World.var?_cell gKinds hvar (t * 3 + i), List.getElem?_take, if_pos hi, List.getElem?_drop]
  simp
 have hmap := congrArg (·[t]?) hx.1
 simp only [List.getElem?_map, hxt, Option.map_some, hy] at hmap
 rw [kindCells] at hl3
 generalize hz : (cs.toList.drop (t * 3)).take 3 = zs at *
 match zs, hl3 with
 | [c0, c1, c2], _ =>
  have e0 := hf 0 f rfl
  have e1 := hf 1 g rfl
  have e2 := hf 2 k rfl
  rw [f1, f2, intCells] at e0
  rw [g1, g2, intCells] at e1
  rw [k1, k2, intCells] at e2
  simp only [List.drop_zero, List.take_succ_cons, List.take_zero, List.drop_succ_cons] at e0 e1 e2
  have hyl' : ys.length = 3 := hyl
  match ys, hyl' with
  | [y0, y1, y2], _ =>
   simp only [List.getElem?_cons_zero, List.getElem?_cons_succ] at e0 e1 e2
   obtain ⟨n0, h0, h0', _⟩ := DataW.trod_int Tryz.underlying3 e0
   obtain ⟨n1, h1, h1', _⟩ := DataW.trod_int Tryz.underlying3 e1
   obtain ⟨n2, h2, h2', _⟩ := DataW.trod_int Tryz.underlying3 e2
   simp only [List.cons.injEq, and_true] at h0 h1 h2
   subst h0 h1 h2 h0' h1' h2'
   have a0 := hcs 0 (by omega)
   have a1 := hcs 1 (by omega)
   have a2 := hcs 2 (by omega)
   simp only [List.getElem?_cons_zero, List.getElem?_cons_succ, Nat.add_zero] at a0 a1 a2
   rw [a0, a1, a2]
   simp only [List.map_cons, List.map_nil] at hmap
   have : t = 0 ∨ t = 1 ∨ t = 2 ∨ t = 3 ∨ t = 4 ∨ t = 5 ∨ t = 6 ∨ t = 7 := by omega
   rcases this with rfl | rfl | rfl | rfl | rfl | rfl | rfl | rfl <;> simp at hmap <;> obtain ⟨rfl, rfl, rfl⟩ := hmap <;> exact ⟨rfl, rfl, rfl⟩
theorem gPow : Tryz.prog.globalNamed "internal/strconv.uint64pow10" = some 4 := by kernel_rfl
theorem gPowType : (Tryz.prog.globals[4]?).map (·.type) = some 228 := by kernel_rfl
theorem powCells : Tryz.prog.cellsOf 202 = 1 := by kernel_rfl
theorem powsCells : Tryz.prog.cellsOf 228 = 20 := by kernel_rfl
theorem pow_of_laid {W : World} {rest : List (String × DataW Unit)} (h : laidMet Tryz.prog (("internal/strconv.uint64pow10", Rows.laid_internal_strconv_uint64pow10) :: rest) W) : PowAt W :=
 Lib.tabIs_of_head (rest := rest) gPow gPowType Tryz.underlying228 Tryz.underlying202 powCells powsCells h
theorem env_of_laid {W : World} {m : Int} (hm : W.cell? ⟨3, 0, none⟩ = some (.int .i64 m))
    (hL : laidMet Tryz.prog [("math/bits.deBruijn32tab", Rows.laid_math_bits_deBruijn32tab), ("math/bits.deBruijn64tab", Rows.laid_math_bits_deBruijn64tab), ("internal/strconv.uint64pow10", Rows.laid_internal_strconv_uint64pow10), ("unicode.White_Space", Rows.laid_unicode_White_Space), ("strings.asciiSpace", Rows.laid_strings_asciiSpace), ("prolix/ops.kinds", Rows.laid_prolix_ops_kinds)] W) : WrEnv W := by
 have h1 := hL.tail
 have h2 := h1.tail
 have h4 := h2.tail.tail
 exact ⟨⟨⟨m, hm⟩, kinds_of_laid h4.tail, space_of_laid h4⟩, ⟨kinds_of_laid h4.tail, pow_of_laid h2, tab_of_laid h1⟩⟩
end Go.Proofs.YtcallkljcjimiaaGreatDoor
