/-
  OpsBack holds: for every input the law answers true, and each argument reads behind the call as it read before. The row lists three package-level variables; the card ties them to the program's text.
-/
import Derived.Test.YtojelojbhcmiaaaDoorOpsBackW
import Derived.Test.YtojelojbhcmiaaaDoorReadDefs
import Derived.Test.YtojelojbhcmiaaaDoorLaidOps
import Derived.Test.YtojelojbhcmiaaaDoorCards
import Derived.Test.YtojelojbhcmiaaaDoorTie
import Derived.Deep.DeepWitnessRowRef
import Derived.LaidMore
namespace Go.Proofs.YtojelojbhcmiaaaDoor.OpsBackP
set_option maxRecDepth 100000
open Go.ChangeShapes Go.WideShapes Go.ChangeAt Go.RowKit Go.Joins Go.Deep
open Go.ChangeMaps (open_string)

theorem own : ownKnob Tryd.prog.godebug = none := by kernel_rfl
theorem backOne : ∃ f g k q : Field, Tryd.prog.underlying 25 = some (.struct #[f, g, k, q]) ∧ f.type = 22 ∧ g.type = 23 ∧ k.type = 5 ∧ q.type = 9 ∧ oneCellFields Tryd.prog #[f, g, k, q] = true := ⟨_, _, _, _, Tryd.underlying25, rfl, rfl, rfl, rfl, by kernel_rfl⟩
theorem backCells : Tryd.prog.cellsOf 25 = 4 := by kernel_rfl
theorem params_ok : ∀ t ∈ Tryd.f4.params.toList, Tryd.prog.readableRec t = true ∧ t < Tryd.prog.types.size := by
  intro t ht
  have h : t ∈ [25] := ht
  simp only [List.mem_cons, List.mem_nil_iff, or_false] at h
  subst h
  exact ⟨by kernel_rfl, of_decide_eq_true (by kernel_rfl)⟩

theorem contract (H : Type) (enc : TypeId × Value → H) (W : World) (base : Nat) (args : Array Value) (ds gs : List (DataW H)) (before : List MemPlace)
    (hval : ∀ (j : Nat) t v, Tryd.f4.params[j]? = some t → args[j]? = some v → Value.okWide Tryd.prog W .any base t v)
    (hW : DataW.Whole enc Tryd.prog Tryd.f4.params.toList Rows.opsBackSpec.vars false W args.toList ds gs before) (hL : laidMetH Tryd.prog Rows.opsBackRow.laid W) :
    Calls Tryd.prog 4 args W fun e W' => ∃ v, e = .returned v ∧ Rows.opsBackSpec.post enc Tryd.prog Tryd.f4 false true false false W args v W' := by
  have hW' := hW
  obtain ⟨p, q, hA0, hV, rfl, hfz, hnd⟩ := hW
  have hA : DataW.TrodAll enc Tryd.prog W 0 (fun _ => true) true Tryd.f4.params.toList args.toList ds p := hA0
  rw [Tryd.params4] at hA hval
  obtain ⟨v0, vs0, d0, ds0, p0, q0, hargs, rfl, rfl, h0, r0⟩ := trodAll_cons hA
  obtain ⟨rfl, rfl, rfl⟩ := trodAll_nil r0
  obtain rfl : args = #[v0] := by cases args; simp_all
  obtain ⟨rfl, rfl⟩ := trodVars_none hV
  obtain ⟨f, g, k, q, hu, f1, g1, k1, q1, hone⟩ := backOne
  obtain ⟨c0, c1, c2, c3, y0, y1, y2, y3, m, rfl, rfl, rfl, e0, e1, e2, e3⟩ := open_agg4 hu hone backCells (hval 0 25 v0 rfl rfl) h0
  rw [f1] at e0
  rw [g1] at e1
  rw [k1] at e2
  rw [q1] at e3
  obtain ⟨A, n, c, l, rfl, hl, hn⟩ := defs_of_trod e0
  obtain ⟨pr, hp, _, wp⟩ := DataW.trod_int Tryd.underlying23 e1
  obtain ⟨ty, ht, _, wt⟩ := DataW.trod_int Tryd.underlying5 e2
  obtain ⟨nm, hs, _, hsz⟩ := DataW.trod_string Tryd.underlying9 e3
  simp only [List.cons.injEq, and_true] at hp ht hs
  subst hp ht hs
  have hp01 := bounds_u16 wp
  have ht01 := bounds_u8 wt
  rw [MakeChecks.laidMetH_plain _ _ _ (by kernel_rfl)] at hL
  have hL1 := hL.tail
  have htab := space_of_laid hL1
  have hK := kinds_of_laid hL1.tail
  have walk : Calls Tryd.prog 4 #[.agg #[.slice A n c, .int .u16 pr, .int .u8 ty, .string nm]] W fun e w' => e = .returned (.bool true) ∧ Below W.heap.size W w' := by
    have hn' : (n : Int) ≤ 9223372036854775807 := by unfold maxLen at hn; omega
    have hm' : (nm.data.toList.length : Int) ≤ 9223372036854775807 := by
      have : nm.data.toList.length = nm.size := by rw [Array.length_toList]; rfl
      unfold maxLen at hsz
      omega
    have en : nm = ⟨nm.data.toList.toArray⟩ := rfl
    rw [en]
    by_cases he : 300 < (n : Int) ∨ 2000 < (nm.data.toList.length : Int)
    · exact opsBack_early W A n c pr ty _ hK htab hn' hm' he
    · simp only [not_or] at he
      obtain ⟨b1, b2⟩ := he
      exact opsBack_main W A n c l pr ty _ hK htab hl (by omega) (by omega) hp01.1 hp01.2 ht01.1 ht01.2
  refine walk.mono fun e W' ⟨he, hb⟩ => ?_
  subst he
  exact ⟨_, rfl, law_post tabLaid Tryd.underlying4 rfl rfl hW' hb params_ok rfl rfl rfl⟩

theorem laid_met (os : Os) (args : Array Value) : laidMet Tryd.prog Rows.opsBackRow.laid (((World.doorLaid Tryd.prog 70 os).forCall (fun _ _ => 0) ⟨#[], args, []⟩).memory) :=
  laidMet_of_run' 8 (by kernel_rfl) (by kernel_rfl)
theorem reads (os : Os) {H : Type} (enc : TypeId × Value → H) : ∃ places, DataW.whole enc Tryd.prog ((World.doorLaid Tryd.prog 70 os).forCall (fun _ _ => 0) ⟨#[], #[.agg #[.slice none 0 0, .int .u16 0, .int .u8 0, .string ByteArray.empty]], []⟩).memory Tryd.f4.params.toList Rows.opsBackSpec.vars false #[Value.agg #[.slice none 0 0, .int .u16 0, .int .u8 0, .string ByteArray.empty]].toList 8 = some ([.agg [.nil, .lit (.int .u16 0), .lit (.int .u8 0), .lit (.string [])]], [], places) :=
  ⟨[], by kernel_rfl⟩

theorem lifted (os : Os) (started : os.Started) (H : Type) (enc : TypeId × Value → H) (F : Stop.Interp) :
    ReturnsInHanded {} Tryd.checked os 4 .any ((OpenSpec.ofChange Rows.opsBackSpec).preRow enc Tryd.prog Tryd.f4 Rows.opsBackRow.domain false Rows.opsBackRow.laid) (((OpenSpec.ofChange Rows.opsBackSpec).at F).post enc Tryd.prog Tryd.f4 false true false false) := by
  obtain ⟨places, hx⟩ := reads os enc
  refine returnsInHanded_of_row (C := Tryd.checked) (s := OpenSpec.ofChange Rows.opsBackSpec) own started (by kernel_rfl) Tryd.func4
    (witness_row_atRef (enc := enc) (C := Tryd.checked) false (World.doorLaid Tryd.prog 70 os) #[.agg #[.slice none 0 0, .int .u16 0, .int .u8 0, .string ByteArray.empty]] rfl (by kernel_rfl) (by kernel_rfl) (by kernel_rfl)
      (OpenSpec.preRow_of_cond 8 hx (by kernel_rfl) (fun k hk => by cases hk) (by kernel_rfl) (laid_met os _))) ?_
  intro W base args ds gs before hval hW _ _ _ hL _ _
  exact contract H enc W base args ds gs before hval hW hL

theorem said : Rows.OpsBackSaid :=
  OpenClaim.holds_of_cond 4 Tryd.f4 rfl rfl rfl rfl rfl rfl rfl ⟨rfl, rfl, rfl, rfl, rfl⟩ rfl rfl rfl rfl rfl (by kernel_rfl) Tryd.func4 (by kernel_rfl)
    (of_decide_eq_true (by kernel_rfl)) (by unfold Func.isWrapper; first | (rw [if_pos (by decide +kernel)]; kernel_rfl) | (rw [if_neg (by decide +kernel)]; exact ⟨rfl, rfl⟩))
    (fun os started H enc _ F => by rw [OpenClaim.pre_eq_preRow]; exact lifted os started H enc F)

theorem plain (f : FuncId) (fn : Func) (hf : Tryd.pinned.checked.prog.funcNamed "prolix/prolixlaw05.OpsBack" = some f) (hfn : Tryd.pinned.checked.prog.funcs[f]? = some fn) :
    false = Tryd.pinned.checked.prog.looks [] ∧ ∀ (j : Nat) t, fn.params[j]? = some t → Tryd.pinned.checked.prog.wantsStandIn t = false := by
  obtain rfl : f = 4 := Option.some.inj ((show Tryd.prog.funcNamed "prolix/prolixlaw05.OpsBack" = some 4 by kernel_rfl).symm.trans hf) |>.symm
  obtain rfl : fn = Tryd.f4 := (Option.some.inj (Tryd.func4.symm.trans hfn)).symm
  refine ⟨by kernel_rfl, fun j t ht => ?_⟩
  rw [Tryd.params4] at ht
  have hm : t ∈ [25] := by simpa using Array.mem_of_getElem? ht
  have hall : ([25].all fun u => !Tryd.prog.wantsStandIn u) = true := by kernel_rfl
  exact (show Tryd.prog.wantsStandIn t = false by simpa using List.all_eq_true.1 hall t hm)

theorem card : Rows.OpsBackCardSaid :=
  Claim7.holds_tied_plain_at .later [] _ _ _ _ said (fun _ h => by cases h) (by kernel_rfl) (fun _ h => by cases h) opsBack_row_tie rfl ⟨rfl, rfl⟩ (by kernel_rfl) rfl plain (by kernel_rfl)
end Go.Proofs.YtojelojbhcmiaaaDoor.OpsBackP
