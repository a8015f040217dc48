/-
  OpsApart holds: for every input the law answers true, and each argument reads behind the call as it read before. The row lists three package-level variables; the card ties them to the program's text.
-/
import Derived.Test.YtojelojbhcmiaaaDoorOpsApartW
import Derived.Test.YtojelojbhcmiaaaDoorReadDefs
import Derived.Test.YtojelojbhcmiaaaDoorLaidOps
import Derived.Test.YtojelojbhcmiaaaDoorCards
import Derived.Test.YtojelojbhcmiaaaDoorTie
import Derived.Deep.DeepWitnessRowRef
import Derived.LaidMore
namespace Go.Proofs.YtojelojbhcmiaaaDoor.OpsApartP
set_option maxRecDepth 100000
open Go.ChangeShapes Go.WideShapes Go.ChangeAt Go.RowKit Go.Joins Go.Deep
open Go.ChangeMaps (open_string)

theorem own : ownKnob Tryd.prog.godebug = none := by kernel_rfl
theorem params_ok : ∀ t ∈ Tryd.f5.params.toList, Tryd.prog.readableRec t = true ∧ t < Tryd.prog.types.size := by
  intro t ht
  have h : t ∈ [22] := ht
  simp only [List.mem_cons, List.mem_nil_iff, or_false] at h
  subst h
  exact ⟨by kernel_rfl, of_decide_eq_true (by kernel_rfl)⟩

theorem walk (W : World) (A : Option Addr) (n c : Nat) (l : List DefT) (hK : KindsAt W) (htab : Lib.TabIs Tryd.prog W "strings.asciiSpace" .u8 Lib.asciiSpaceTab) (hl : DefsAt W W.heap.size A n l) (hn : n ≤ maxLen) :
    Calls Tryd.prog 5 #[.slice A n c] W fun e w' => e = .returned (.bool true) ∧ Below W.heap.size W w' := by
  have hn' : (n : Int) ≤ 9223372036854775807 := by unfold maxLen at hn; omega
  by_cases he : 400 < (n : Int)
  · exact opsApart_early W A n c hK htab hn' he
  · exact opsApart_main W A n c l hK htab hl (by omega)

theorem contract (H : Type) (enc : TypeId × Value → H) (W : World) (base : Nat) (args : Array Value) (ds gs : List (DataW H)) (before : List MemPlace)
    (hval : ∀ (j : Nat) t v, Tryd.f5.params[j]? = some t → args[j]? = some v → Value.okWide Tryd.prog W .any base t v)
    (hW : DataW.Whole enc Tryd.prog Tryd.f5.params.toList Rows.opsApartSpec.vars false W args.toList ds gs before) (hL : laidMetH Tryd.prog Rows.opsApartRow.laid W) :
    Calls Tryd.prog 5 args W fun e W' => ∃ v, e = .returned v ∧ Rows.opsApartSpec.post enc Tryd.prog Tryd.f5 false true false false W args v W' := by
  have hW' := hW
  obtain ⟨p, q, hA0, hV, rfl, hfz, hnd⟩ := hW
  have hA : DataW.TrodAll enc Tryd.prog W 0 (fun _ => true) true Tryd.f5.params.toList args.toList ds p := hA0
  rw [Tryd.params5] at hA hval
  obtain ⟨v0, vs0, d0, ds0, p0, q0, hargs, rfl, rfl, h0, r0⟩ := trodAll_cons hA
  obtain ⟨rfl, rfl, rfl⟩ := trodAll_nil r0
  obtain rfl : args = #[v0] := by cases args; simp_all
  obtain ⟨rfl, rfl⟩ := trodVars_none hV
  obtain ⟨A0, n0, c0, rfl⟩ := okWide_slice Tryd.underlying22 (hval 0 22 v0 rfl rfl)
  obtain ⟨fuel, h0⟩ := h0
  obtain ⟨A, n, c, l, hv, hl, hn⟩ := defs_of_trod (v := .slice A0 n0 c0) h0
  obtain ⟨rfl, rfl, rfl⟩ : A0 = A ∧ n0 = n ∧ c0 = c := by injection hv with a b d; exact ⟨a, b, d⟩
  rw [MakeChecks.laidMetH_plain _ _ _ (by kernel_rfl)] at hL
  have hL1 := hL.tail
  have htab := space_of_laid hL1
  have hK := kinds_of_laid hL1.tail
  refine (walk W A0 n0 c0 l hK htab hl hn).mono ?_
  rintro e W' ⟨rfl, hb⟩
  exact ⟨_, rfl, law_post tabLaid Tryd.underlying4 rfl rfl hW' hb params_ok rfl rfl rfl⟩

theorem laid_met (os : Os) (args : Array Value) : laidMet Tryd.prog Rows.opsApartRow.laid (((World.doorLaid Tryd.prog 70 os).forCall (fun _ _ => 0) ⟨#[], args, []⟩).memory) :=
  laidMet_of_run' 8 (by kernel_rfl) (by kernel_rfl)
theorem reads (os : Os) {H : Type} (enc : TypeId × Value → H) : ∃ places, DataW.whole enc Tryd.prog ((World.doorLaid Tryd.prog 70 os).forCall (fun _ _ => 0) ⟨#[], #[.slice none 0 0], []⟩).memory Tryd.f5.params.toList Rows.opsApartSpec.vars false #[Value.slice none 0 0].toList 8 = some ([.nil], [], places) :=
  ⟨[], by kernel_rfl⟩

theorem lifted (os : Os) (started : os.Started) (H : Type) (enc : TypeId × Value → H) (F : Stop.Interp) :
    ReturnsInHanded {} Tryd.checked os 5 .any ((OpenSpec.ofChange Rows.opsApartSpec).preRow enc Tryd.prog Tryd.f5 Rows.opsApartRow.domain false Rows.opsApartRow.laid) (((OpenSpec.ofChange Rows.opsApartSpec).at F).post enc Tryd.prog Tryd.f5 false true false false) := by
  obtain ⟨places, hx⟩ := reads os enc
  refine returnsInHanded_of_row (C := Tryd.checked) (s := OpenSpec.ofChange Rows.opsApartSpec) own started (by kernel_rfl) Tryd.func5
    (witness_row_atRef (enc := enc) (C := Tryd.checked) false (World.doorLaid Tryd.prog 70 os) #[.slice none 0 0] rfl (by kernel_rfl) (by kernel_rfl) (by kernel_rfl)
      (OpenSpec.preRow_of_cond 8 hx (by kernel_rfl) (fun k hk => by cases hk) (by kernel_rfl) (laid_met os _))) ?_
  intro W base args ds gs before hval hW _ _ _ hL _ _
  exact contract H enc W base args ds gs before hval hW hL

theorem said : Rows.OpsApartSaid :=
  OpenClaim.holds_of_cond 5 Tryd.f5 rfl rfl rfl rfl rfl rfl rfl ⟨rfl, rfl, rfl, rfl, rfl⟩ rfl rfl rfl rfl rfl (by kernel_rfl) Tryd.func5 (by kernel_rfl)
    (of_decide_eq_true (by kernel_rfl)) (by unfold Func.isWrapper; first | (rw [if_pos (by decide +kernel)]; kernel_rfl) | (rw [if_neg (by decide +kernel)]; exact ⟨rfl, rfl⟩))
    (fun os started H enc _ F => by rw [OpenClaim.pre_eq_preRow]; exact lifted os started H enc F)

theorem plain (f : FuncId) (fn : Func) (hf : Tryd.pinned.checked.prog.funcNamed "prolix/prolixlaw05.OpsApart" = some f) (hfn : Tryd.pinned.checked.prog.funcs[f]? = some fn) :
    false = Tryd.pinned.checked.prog.looks [] ∧ ∀ (j : Nat) t, fn.params[j]? = some t → Tryd.pinned.checked.prog.wantsStandIn t = false := by
  obtain rfl : f = 5 := Option.some.inj ((show Tryd.prog.funcNamed "prolix/prolixlaw05.OpsApart" = some 5 by kernel_rfl).symm.trans hf) |>.symm
  obtain rfl : fn = Tryd.f5 := (Option.some.inj (Tryd.func5.symm.trans hfn)).symm
  refine ⟨by kernel_rfl, fun j t ht => ?_⟩
  rw [Tryd.params5] at ht
  have hm : t ∈ [22] := by simpa using Array.mem_of_getElem? ht
  have hall : ([22].all fun u => !Tryd.prog.wantsStandIn u) = true := by kernel_rfl
  exact (show Tryd.prog.wantsStandIn t = false by simpa using List.all_eq_true.1 hall t hm)

theorem card : Rows.OpsApartCardSaid :=
  Claim7.holds_tied_plain_at .later [] _ _ _ _ said (fun _ h => by cases h) (by kernel_rfl) (fun _ h => by cases h) opsApart_row_tie rfl ⟨rfl, rfl⟩ (by kernel_rfl) rfl plain (by kernel_rfl)
end Go.Proofs.YtojelojbhcmiaaaDoor.OpsApartP
