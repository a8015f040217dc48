/-
  What the row's list of variables gives: the types' table of package ops and the table of blanks of package strings hold what the program lays. No condition.
-/
import Derived.Test.YtiaajpfebcccfaaDoorTabNew
import Derived.Test.YtiaajpfebcccfaaDoorRows
import Derived.ProofKit
import Derived.OpenShut
import Derived.Stop.LaidErr
import Derived.Lib.LaidTab
import Derived.MakeChecks
namespace Go.Proofs.YtiaajpfebcccfaaDoor
set_option maxRecDepth 100000
open Go.ChangeShapes Go.WideShapes Go.ChangeAt Go.RowKit

theorem gKinds : Tryd.prog.globalNamed "prolix/ops.kinds" = some 0 := by kernel_rfl
theorem gKindsType : (Tryd.prog.globals[0]?).map (·.type) = some 54 := by kernel_rfl
theorem gSpace : Tryd.prog.globalNamed "strings.asciiSpace" = some 1 := by kernel_rfl
theorem gSpaceType : (Tryd.prog.globals[1]?).map (·.type) = some 68 := by kernel_rfl
theorem kindCells : Tryd.prog.cellsOf 53 = 3 := by kernel_rfl
theorem byteCells : Tryd.prog.cellsOf 5 = 1 := by kernel_rfl
theorem spaceCells : Tryd.prog.cellsOf 68 = 256 := by kernel_rfl
theorem kindFields : ∃ f g k : Field, Tryd.prog.underlying 53 = some (.struct #[f, g, k]) ∧ f.type = 3 ∧ g.type = 3 ∧ k.type = 3 ∧ f.offset = 0 ∧ g.offset = 1 ∧ k.offset = 2 := ⟨_, _, _, Tryd.underlying53, rfl, rfl, rfl, rfl, rfl, rfl⟩

theorem space_of_laid {W : World} {rest : List (String × DataW Unit)} (h : laidMet Tryd.prog (("strings.asciiSpace", Rows.laid_strings_asciiSpace) :: rest) W) : Lib.TabIs Tryd.prog W "strings.asciiSpace" .u8 Lib.asciiSpaceTab :=
  Lib.tabIs_of_head (rest := rest) gSpace gSpaceType Tryd.underlying68 Tryd.underlying5 byteCells spaceCells h

theorem kinds_of_laid {W : World} {rest : List (String × DataW Unit)} (h : laidMet Tryd.prog (("prolix/ops.kinds", Rows.laid_prolix_ops_kinds) :: rest) W) : KindsAt W := by
  obtain ⟨ps, ⟨g', t', cs, fuel, p, q, hg', ht', hvar, hd, _, _⟩, _⟩ := h
  obtain rfl := Option.some.inj (gKinds.symm.trans hg')
  obtain rfl := Option.some.inj (gKindsType.symm.trans ht')
  obtain ⟨xs, m, _, hx, hlen, hn, hel⟩ := DataW.trod_array Tryd.underlying54 hd
  obtain ⟨f, g, k, hu, f1, g1, k1, f2, g2, k2⟩ := kindFields
  simp only [Prod.mk.injEq, Rows.laid_prolix_ops_kinds, DataW.agg.injEq] at hx
  intro t ht
  have hi := hel t (by omega)
  obtain ⟨x, hxt⟩ : ∃ x, xs[t]? = some x := ⟨_, List.getElem?_eq_getElem (by omega)⟩
  rw [hxt, kindCells] at hi
  obtain ⟨ys, _, _, hy, hl3, hyl, hf⟩ := DataW.trod_struct hu hi
  have hcs : ∀ i, i < 3 → W.cell? ⟨0, t * 3 + i, none⟩ = ((cs.toList.drop (t * 3)).take 3)[i]? := by
    intro i hi
    rw [World.var?_cell gKinds hvar (t * 3 + i), List.getElem?_take, if_pos hi, List.getElem?_drop]
    simp
  have hmap := congrArg (·[t]?) hx.1
  simp only [List.getElem?_map, hxt, Option.map_some, hy] at hmap
  rw [kindCells] at hl3
  generalize hz : (cs.toList.drop (t * 3)).take 3 = zs at *
  match zs, hl3 with
  | [c0, c1, c2], _ =>
    have e0 := hf 0 f rfl
    have e1 := hf 1 g rfl
    have e2 := hf 2 k rfl
    rw [f1, f2, intCells] at e0
    rw [g1, g2, intCells] at e1
    rw [k1, k2, intCells] at e2
    simp only [List.drop_zero, List.take_succ_cons, List.take_zero, List.drop_succ_cons] at e0 e1 e2
    have hyl' : ys.length = 3 := hyl
    match ys, hyl' with
    | [y0, y1, y2], _ =>
      simp only [List.getElem?_cons_zero, List.getElem?_cons_succ] at e0 e1 e2
      obtain ⟨n0, h0, h0', _⟩ := DataW.trod_int Tryd.underlying3 e0
      obtain ⟨n1, h1, h1', _⟩ := DataW.trod_int Tryd.underlying3 e1
      obtain ⟨n2, h2, h2', _⟩ := DataW.trod_int Tryd.underlying3 e2
      simp only [List.cons.injEq, and_true] at h0 h1 h2
      subst h0 h1 h2 h0' h1' h2'
      have a0 := hcs 0 (by omega)
      have a1 := hcs 1 (by omega)
      have a2 := hcs 2 (by omega)
      simp only [List.getElem?_cons_zero, List.getElem?_cons_succ, Nat.add_zero] at a0 a1 a2
      rw [a0, a1, a2]
      simp only [List.map_cons, List.map_nil] at hmap
      have : t = 0 ∨ t = 1 ∨ t = 2 ∨ t = 3 ∨ t = 4 ∨ t = 5 ∨ t = 6 ∨ t = 7 := by omega
      rcases this with rfl | rfl | rfl | rfl | rfl | rfl | rfl | rfl <;> simp at hmap <;> obtain ⟨rfl, rfl, rfl⟩ := hmap <;> exact ⟨rfl, rfl, rfl⟩
end Go.Proofs.YtiaajpfebcccfaaDoor
