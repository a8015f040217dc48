import Derived.Test.YtmgidfndifhcoaaDoorJReadBrackets29
import Derived.Test.YtmgidfndifhcoaaDoorRows
import Derived.ProofKit
import Derived.OpenShut
import Derived.Stop.LaidErr
import Derived.Lib.LaidTab
import Derived.MakeChecks
import Derived.WalkKit
import Derived.Test.YtmgidfndifhcoaaDoorJReadBrackets34
import Derived.Test.YtmgidfndifhcoaaDoorCards
import Derived.Test.YtmgidfndifhcoaaDoorTie
import Derived.HandedShaped
import Derived.Shelf.Vars
import Derived.Deep.DeepWitnessRowRef
import Derived.LaidMore
/-
  What the row's list of variables gives: the types' table of package ops and the table of blanks of package strings hold what the program lays. No condition.
-/
namespace Go.Proofs.YtmgidfndifhcoaaDoor
set_option maxRecDepth 100000
open Go.ChangeShapes Go.WideShapes Go.ChangeAt Go.RowKit

theorem gKinds : Tryd.prog.globalNamed "prolix/ops.kinds" = some 0 := by kernel_rfl
theorem gKindsType : (Tryd.prog.globals[0]?).map (·.type) = some 95 := by kernel_rfl
theorem gSpace : Tryd.prog.globalNamed "strings.asciiSpace" = some 1 := by kernel_rfl
theorem gSpaceType : (Tryd.prog.globals[1]?).map (·.type) = some 129 := by kernel_rfl
theorem kindCells : Tryd.prog.cellsOf 94 = 3 := by kernel_rfl
theorem byteCells : Tryd.prog.cellsOf 5 = 1 := by kernel_rfl
theorem spaceCells : Tryd.prog.cellsOf 129 = 256 := by kernel_rfl
theorem kindFields : ∃ f g k : Field, Tryd.prog.underlying 94 = some (.struct #[f, g, k]) ∧ f.type = 3 ∧ g.type = 3 ∧ k.type = 3 ∧ f.offset = 0 ∧ g.offset = 1 ∧ k.offset = 2 := ⟨_, _, _, Tryd.underlying94, rfl, rfl, rfl, rfl, rfl, rfl⟩

theorem space_of_laid {W : World} {rest : List (String × DataW Unit)} (h : laidMet Tryd.prog (("strings.asciiSpace", Rows.laid_strings_asciiSpace) :: rest) W) : Lib.TabIs Tryd.prog W "strings.asciiSpace" .u8 Lib.asciiSpaceTab :=
  Lib.tabIs_of_head (rest := rest) gSpace gSpaceType Tryd.underlying129 Tryd.underlying5 byteCells spaceCells h

theorem kinds_of_laid {W : World} {rest : List (String × DataW Unit)} (h : laidMet Tryd.prog (("prolix/ops.kinds", Rows.laid_prolix_ops_kinds) :: rest) W) : KindsAt W := by
  obtain ⟨ps, ⟨g', t', cs, fuel, p, q, hg', ht', hvar, hd, _, _⟩, _⟩ := h
  obtain rfl := Option.some.inj (gKinds.symm.trans hg')
  obtain rfl := Option.some.inj (gKindsType.symm.trans ht')
  obtain ⟨xs, m, _, hx, hlen, hn, hel⟩ := DataW.trod_array Tryd.underlying95 hd
  obtain ⟨f, g, k, hu, f1, g1, k1, f2, g2, k2⟩ := kindFields
  simp only [Prod.mk.injEq, Rows.laid_prolix_ops_kinds, DataW.agg.injEq] at hx
  intro t ht
  have hi := hel t (by omega)
  obtain ⟨x, hxt⟩ : ∃ x, xs[t]? = some x := ⟨_, List.getElem?_eq_getElem (by omega)⟩
  rw [hxt, kindCells] at hi
  obtain ⟨ys, _, _, hy, hl3, hyl, hf⟩ := DataW.trod_struct hu hi
  have hcs : ∀ i, i < 3 → W.cell? ⟨0, t * 3 + i, none⟩ = ((cs.toList.drop (t * 3)).take 3)[i]? := by
    intro i hi
    rw [World.var?_cell gKinds hvar (t * 3 + i), List.getElem?_take, if_pos hi, List.getElem?_drop]
    simp
  have hmap := congrArg (·[t]?) hx.1
  simp only [List.getElem?_map, hxt, Option.map_some, hy] at hmap
  rw [kindCells] at hl3
  generalize hz : (cs.toList.drop (t * 3)).take 3 = zs at *
  match zs, hl3 with
  | [c0, c1, c2], _ =>
    have e0 := hf 0 f rfl
    have e1 := hf 1 g rfl
    have e2 := hf 2 k rfl
    rw [f1, f2, intCells] at e0
    rw [g1, g2, intCells] at e1
    rw [k1, k2, intCells] at e2
    simp only [List.drop_zero, List.take_succ_cons, List.take_zero, List.drop_succ_cons] at e0 e1 e2
    have hyl' : ys.length = 3 := hyl
    match ys, hyl' with
    | [y0, y1, y2], _ =>
      simp only [List.getElem?_cons_zero, List.getElem?_cons_succ] at e0 e1 e2
      obtain ⟨n0, h0, h0', _⟩ := DataW.trod_int Tryd.underlying3 e0
      obtain ⟨n1, h1, h1', _⟩ := DataW.trod_int Tryd.underlying3 e1
      obtain ⟨n2, h2, h2', _⟩ := DataW.trod_int Tryd.underlying3 e2
      simp only [List.cons.injEq, and_true] at h0 h1 h2
      subst h0 h1 h2 h0' h1' h2'
      have a0 := hcs 0 (by omega)
      have a1 := hcs 1 (by omega)
      have a2 := hcs 2 (by omega)
      simp only [List.getElem?_cons_zero, List.getElem?_cons_succ, Nat.add_zero] at a0 a1 a2
      rw [a0, a1, a2]
      simp only [List.map_cons, List.map_nil] at hmap
      have : t = 0 ∨ t = 1 ∨ t = 2 ∨ t = 3 ∨ t = 4 ∨ t = 5 ∨ t = 6 ∨ t = 7 := by omega
      rcases this with rfl | rfl | rfl | rfl | rfl | rfl | rfl | rfl <;> simp at hmap <;> obtain ⟨rfl, rfl, rfl⟩ := hmap <;> exact ⟨rfl, rfl, rfl⟩
end Go.Proofs.YtmgidfndifhcoaaDoor
/-
  What a law's row asks behind its call, out of 'nothing that was there has changed'. Condition: the parameters' types can be read.
-/
namespace Go.Proofs.YtmgidfndifhcoaaDoor
open Go.ChangeShapes Go.WideShapes Go.ChangeAt Go.RowKit

section
variable {H : Type} {enc : TypeId × Value → H} {P : Program}
theorem trodAll_below (hl : laidOutB P = true) {W W' : World} (hb : Below W.heap.size W W') : ∀ (ts : List TypeId) (vs : List Value) (ds : List (DataW H)) (ps : List MemPlace), (∀ t ∈ ts, P.readableRec t = true ∧ t < P.types.size) →
    DataW.TrodAll enc P W 0 (fun _ => true) true ts vs ds ps → (∀ x ∈ ps, x.block < W.heap.size) → DataW.TrodAll enc P W' 0 (fun b => decide (b < W.heap.size)) true ts vs ds ps
  | [], [], [], _, _, h, _ => h
  | [], [], _ :: _, _, _, h, _ => h.elim
  | [], _ :: _, _, _, _, h, _ => h.elim
  | _ :: _, [], _, _, _, h, _ => h.elim
  | _ :: _, _ :: _, [], _, _, h, _ => h.elim
  | t :: ts, v :: vs, d :: ds, ps, ht, h, hlt => by
    obtain ⟨p, q, h1, h2, rfl⟩ := h
    exact ⟨p, q, Below.trod hl (ht t (List.mem_cons_self ..)).1 (ht t (List.mem_cons_self ..)).2 h1 hb (fun x hx => hlt x (List.mem_append_left _ hx)),
      trodAll_below hl hb ts vs ds q (fun t' h' => ht t' (List.mem_cons_of_mem _ h')) h2 (fun x hx => hlt x (List.mem_append_right _ hx)), rfl⟩

theorem law_post (hl : laidOutB P = true) {f : Func} {s : ChangeSpec} {W W' : World} {args : Array Value} {ds gs : List (DataW H)} {before : List MemPlace} {tb : TypeId} (hbool : P.underlying tb = some .bool) (hres : f.resultTypes = #[tb])
    (hv : s.vars = []) (hW : DataW.Whole enc P f.params.toList s.vars false W args.toList ds gs before) (hb : Below W.heap.size W W')
    (hts : ∀ t ∈ f.params.toList, P.readableRec t = true ∧ t < P.types.size) (h1 : (s.fn H (ds ++ gs)).results = [.lit (.bool true)]) (h2 : (s.fn H (ds ++ gs)).args = ds) (h3 : (s.fn H (ds ++ gs)).vars = []) :
    s.post enc P f false true false false W args (.bool true) W' := by
  have hlt := hW.lt
  have hW' := hW
  obtain ⟨p, q, hA, hV, rfl, _, _⟩ := hW
  rw [hv] at hV
  have hV' := hV
  obtain ⟨hg, hq⟩ := trodVars_none hV
  subst hg
  subst hq
  refine ⟨ds, [], _, [], p, [], hW', ?_, ?_, ?_, hb.frame _, fun h => by cases h⟩
  · rw [h1, hres]
    exact trodAll_mk1 (shut_bool hbool true)
  · rw [h2]
    exact trodAll_below hl hb _ _ _ _ hts hA (fun x hx => hlt x (List.mem_append_left _ hx))
  · rw [hv, h3]
    rfl
end
end Go.Proofs.YtmgidfndifhcoaaDoor
/-
  ReadBrackets holds: for every text the law answers true, and the argument reads behind the call as it read before. The row lists three package-level variables; the card ties them to the program's text.
-/
namespace Go.Proofs.YtmgidfndifhcoaaDoor.ReadBracketsC
set_option maxRecDepth 100000
open Go.ChangeShapes Go.WideShapes Go.ChangeAt Go.RowKit Go.Deep
open Go.ChangeMaps (open_string)

theorem own : ownKnob Tryd.prog.godebug = none := by kernel_rfl
theorem laidOut : laidOutB Tryd.prog = true := by kernel_rfl
theorem params_ok : ∀ t ∈ Tryd.f3.params.toList, Tryd.prog.readableRec t = true ∧ t < Tryd.prog.types.size := by
  intro t ht
  have h : t ∈ [9] := ht
  simp only [List.mem_cons, List.mem_nil_iff, or_false] at h
  subst h
  exact ⟨by kernel_rfl, of_decide_eq_true (by kernel_rfl)⟩

theorem contract (H : Type) (enc : TypeId × Value → H) (W : World) (base : Nat) (args : Array Value) (ds gs : List (DataW H)) (before : List MemPlace)
    (hval : ∀ (j : Nat) t v, Tryd.f3.params[j]? = some t → args[j]? = some v → Value.okWide Tryd.prog W .any base t v)
    (hW : DataW.Whole enc Tryd.prog Tryd.f3.params.toList Rows.readBracketsSpec.vars false W args.toList ds gs before) (hL : laidMetH Tryd.prog Rows.readBracketsRow.laid W) (hsh : W.ShapedOpen Tryd.prog) :
    Calls Tryd.prog 3 args W fun e W' => ∃ v, e = .returned v ∧ Rows.readBracketsSpec.post enc Tryd.prog Tryd.f3 false true false false W args v W' := by
  have hW' := hW
  obtain ⟨p, q, hA0, hV, rfl, hfz, hnd⟩ := hW
  have hA : DataW.TrodAll enc Tryd.prog W 0 (fun _ => true) true Tryd.f3.params.toList args.toList ds p := hA0
  rw [Tryd.params3] at hA hval
  obtain ⟨v0, vs0, d0, ds0, p0, q0, hargs, rfl, rfl, h0, r0⟩ := trodAll_cons hA
  obtain ⟨rfl, rfl, rfl⟩ := trodAll_nil r0
  obtain rfl : args = #[v0] := by cases args; simp_all
  obtain ⟨rfl, rfl⟩ := trodVars_none hV
  obtain ⟨a, rfl, rfl, rfl, _⟩ := open_string Tryd.underlying9 (hval 0 9 v0 rfl rfl) h0
  obtain ⟨m, hm⟩ := cell_of_shapedOpen_int (P := Tryd.prog) (g := 3) (t := 3) (zero := #[.int .i64 0]) hsh (of_decide_eq_true (by kernel_rfl)) (by kernel_rfl) rfl (by kernel_rfl) (by kernel_rfl) Tryd.underlying3
  rw [MakeChecks.laidMetH_plain _ _ _ (by kernel_rfl)] at hL
  have hL1 := hL.tail
  have walk := brackets_any W ⟨⟨m, hm⟩, kinds_of_laid hL1.tail, space_of_laid hL1⟩ a.data.toList
  refine walk.mono fun e W' ⟨he, hb⟩ => ?_
  subst he
  exact ⟨_, rfl, law_post laidOut Tryd.underlying4 rfl rfl hW' hb params_ok rfl rfl rfl⟩

theorem laid_met (os : Os) (args : Array Value) : laidMet Tryd.prog Rows.readBracketsRow.laid (((World.doorLaid Tryd.prog 70 os).forCall (fun _ _ => 0) ⟨#[], args, []⟩).memory) :=
  laidMet_of_run' 8 (by kernel_rfl) (by kernel_rfl)
theorem reads (os : Os) {H : Type} (enc : TypeId × Value → H) : ∃ places, DataW.whole enc Tryd.prog ((World.doorLaid Tryd.prog 70 os).forCall (fun _ _ => 0) ⟨#[], #[.string ByteArray.empty], []⟩).memory Tryd.f3.params.toList Rows.readBracketsSpec.vars false #[Value.string ByteArray.empty].toList 8 = some ([.lit (.string [])], [], places) :=
  ⟨[], by kernel_rfl⟩

theorem lifted (os : Os) (started : os.Started) (H : Type) (enc : TypeId × Value → H) (F : Stop.Interp) :
    ReturnsInHanded {} Tryd.checked os 3 .any ((OpenSpec.ofChange Rows.readBracketsSpec).preRow enc Tryd.prog Tryd.f3 Rows.readBracketsRow.domain false Rows.readBracketsRow.laid) (((OpenSpec.ofChange Rows.readBracketsSpec).at F).post enc Tryd.prog Tryd.f3 false true false false) := by
  obtain ⟨places, hx⟩ := reads os enc
  refine returnsInHanded_of_row (C := Tryd.checked) (s := OpenSpec.ofChange Rows.readBracketsSpec) own started (by kernel_rfl) Tryd.func3
    (witness_row_atRef (enc := enc) (C := Tryd.checked) false (World.doorLaid Tryd.prog 70 os) #[.string ByteArray.empty] rfl (by kernel_rfl) (by kernel_rfl) (by kernel_rfl)
      (OpenSpec.preRow_of_cond 8 hx (by kernel_rfl) (fun k hk => by cases hk) (by kernel_rfl) (laid_met os _))) ?_
  intro W base args ds gs before hval hW _ _ _ hL hsh _
  exact contract H enc W base args ds gs before hval hW hL hsh

theorem said : Rows.ReadBracketsSaid :=
  OpenClaim.holds_of_cond 3 Tryd.f3 rfl rfl rfl rfl rfl rfl rfl ⟨rfl, rfl, rfl, rfl, rfl⟩ rfl rfl rfl rfl rfl (by kernel_rfl) Tryd.func3 (by kernel_rfl)
    (of_decide_eq_true (by kernel_rfl)) (by unfold Func.isWrapper; first | (rw [if_pos (by decide +kernel)]; kernel_rfl) | (rw [if_neg (by decide +kernel)]; exact ⟨rfl, rfl⟩))
    (fun os started H enc _ F => by rw [OpenClaim.pre_eq_preRow]; exact lifted os started H enc F)

theorem plain (f : FuncId) (fn : Func) (hf : Tryd.pinned.checked.prog.funcNamed "prolix/prolixlaw06.ReadBrackets" = some f) (hfn : Tryd.pinned.checked.prog.funcs[f]? = some fn) :
    false = Tryd.pinned.checked.prog.looks [] ∧ ∀ (j : Nat) t, fn.params[j]? = some t → Tryd.pinned.checked.prog.wantsStandIn t = false := by
  obtain rfl : f = 3 := Option.some.inj ((show Tryd.prog.funcNamed "prolix/prolixlaw06.ReadBrackets" = some 3 by kernel_rfl).symm.trans hf) |>.symm
  obtain rfl : fn = Tryd.f3 := (Option.some.inj (Tryd.func3.symm.trans hfn)).symm
  refine ⟨by kernel_rfl, fun j t ht => ?_⟩
  rw [Tryd.params3] at ht
  have hm : t ∈ [9] := by simpa using Array.mem_of_getElem? ht
  have hall : ([9].all fun u => !Tryd.prog.wantsStandIn u) = true := by kernel_rfl
  exact (show Tryd.prog.wantsStandIn t = false by simpa using List.all_eq_true.1 hall t hm)

theorem card : Rows.ReadBracketsCardSaid :=
  Claim7.holds_tied_plain_at .later [] _ _ _ _ said (fun _ h => by cases h) (by kernel_rfl) (fun _ h => by cases h) readBrackets_row_tie rfl ⟨rfl, rfl⟩ (by kernel_rfl) rfl plain (by kernel_rfl)
end Go.Proofs.YtmgidfndifhcoaaDoor.ReadBracketsC
