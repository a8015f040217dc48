/-
  OpsPlay holds: for every input the law answers true, and each argument reads behind the call as it read before. The row lists three package-level variables; the card ties them to the program's text.
-/
import Derived.Test.YtiaajpfebcccfaaDoorPlayG
import Derived.Test.YtiaajpfebcccfaaDoorReadDefs
import Derived.Test.YtiaajpfebcccfaaDoorLaidOps
import Derived.Test.YtiaajpfebcccfaaDoorCards
import Derived.Test.YtiaajpfebcccfaaDoorTie
import Derived.Deep.DeepWitnessRowRef
import Derived.LaidMore
namespace Go.Proofs.YtiaajpfebcccfaaDoor.OpsPlayP
set_option maxRecDepth 100000
open Go.ChangeShapes Go.WideShapes Go.ChangeAt Go.RowKit Go.Joins Go.Deep
open Go.ChangeMaps (open_string)

theorem own : ownKnob Tryd.prog.godebug = none := by kernel_rfl
theorem params_ok : ∀ t ∈ Tryd.f3.params.toList, Tryd.prog.readableRec t = true ∧ t < Tryd.prog.types.size := by
  intro t ht
  have h : t ∈ [22, 9] := ht
  simp only [List.mem_cons, List.mem_nil_iff, or_false] at h
  rcases h with rfl | rfl
  · exact ⟨by kernel_rfl, of_decide_eq_true (by kernel_rfl)⟩
  · exact ⟨by kernel_rfl, of_decide_eq_true (by kernel_rfl)⟩

theorem walk (W : World) (A : Option Addr) (n c : Nat) (l : List DefT) (o : ByteArray) (hK : KindsAt W) (htab : Lib.TabIs Tryd.prog W "strings.asciiSpace" .u8 Lib.asciiSpaceTab) (hl : DefsAt W W.heap.size A n l) (hn : n ≤ maxLen) (ho : o.size ≤ maxLen) :
    Calls Tryd.prog 3 #[.slice A n c, .string o] W fun e w' => e = .returned (.bool true) ∧ Below W.heap.size W w' := by
  have hn' : (n : Int) ≤ 9223372036854775807 := by unfold maxLen at hn; omega
  have ho' : (o.data.toList.length : Int) ≤ 9223372036854775807 := by
    have : o.data.toList.length = o.size := by rw [Array.length_toList]; rfl
    unfold maxLen at ho
    omega
  have eo : o = ⟨o.data.toList.toArray⟩ := rfl
  rw [eo]
  by_cases he : 400 < (n : Int) ∨ 2000 < (o.data.toList.length : Int)
  · exact opsPlay_early W A n c _ hK htab hn' ho' he
  · exact opsPlay_main W A n c l _ hK htab hl (by omega) (by omega)

theorem contract (H : Type) (enc : TypeId × Value → H) (W : World) (base : Nat) (args : Array Value) (ds gs : List (DataW H)) (before : List MemPlace)
    (hval : ∀ (j : Nat) t v, Tryd.f3.params[j]? = some t → args[j]? = some v → Value.okWide Tryd.prog W .any base t v)
    (hW : DataW.Whole enc Tryd.prog Tryd.f3.params.toList Rows.opsPlaySpec.vars false W args.toList ds gs before) (hL : laidMetH Tryd.prog Rows.opsPlayRow.laid W) :
    Calls Tryd.prog 3 args W fun e W' => ∃ v, e = .returned v ∧ Rows.opsPlaySpec.post enc Tryd.prog Tryd.f3 false true false false W args v W' := by
  have hW' := hW
  obtain ⟨p, q, hA0, hV, rfl, hfz, hnd⟩ := hW
  have hA : DataW.TrodAll enc Tryd.prog W 0 (fun _ => true) true Tryd.f3.params.toList args.toList ds p := hA0
  rw [Tryd.params3] at hA hval
  obtain ⟨v0, vs0, d0, ds0, p0, q0, hargs, rfl, rfl, h0, r0⟩ := trodAll_cons hA
  obtain ⟨v1, vs1, d1, ds1, p1, q1, rfl, rfl, rfl, h1, r1⟩ := trodAll_cons r0
  obtain ⟨rfl, rfl, rfl⟩ := trodAll_nil r1
  obtain rfl : args = #[v0, v1] := by cases args; simp_all
  obtain ⟨rfl, rfl⟩ := trodVars_none hV
  obtain ⟨A0, n0, c0, rfl⟩ := okWide_slice Tryd.underlying22 (hval 0 22 v0 rfl rfl)
  obtain ⟨fuel, h0⟩ := h0
  obtain ⟨A, n, c, l, hv, hl, hn⟩ := defs_of_trod (v := .slice A0 n0 c0) h0
  obtain ⟨rfl, rfl, rfl⟩ : A0 = A ∧ n0 = n ∧ c0 = c := by injection hv with a b d; exact ⟨a, b, d⟩
  obtain ⟨o, rfl, rfl, rfl, hosz⟩ := open_string Tryd.underlying9 (hval 1 9 v1 rfl rfl) h1
  rw [MakeChecks.laidMetH_plain _ _ _ (by kernel_rfl)] at hL
  have hL1 := hL.tail
  have htab := space_of_laid hL1
  have hK := kinds_of_laid hL1.tail
  refine (walk W A0 n0 c0 l o hK htab hl hn hosz).mono ?_
  rintro e W' ⟨rfl, hb⟩
  exact ⟨_, rfl, law_post tabLaid Tryd.underlying4 rfl rfl hW' hb params_ok rfl rfl rfl⟩

theorem laid_met (os : Os) (args : Array Value) : laidMet Tryd.prog Rows.opsPlayRow.laid (((World.doorLaid Tryd.prog 70 os).forCall (fun _ _ => 0) ⟨#[], args, []⟩).memory) :=
  laidMet_of_run' 8 (by kernel_rfl) (by kernel_rfl)
theorem reads (os : Os) {H : Type} (enc : TypeId × Value → H) : ∃ places, DataW.whole enc Tryd.prog ((World.doorLaid Tryd.prog 70 os).forCall (fun _ _ => 0) ⟨#[], #[.slice none 0 0, .string ByteArray.empty], []⟩).memory Tryd.f3.params.toList Rows.opsPlaySpec.vars false #[Value.slice none 0 0, .string ByteArray.empty].toList 8 = some ([.nil, .lit (.string [])], [], places) :=
  ⟨[], by kernel_rfl⟩

theorem lifted (os : Os) (started : os.Started) (H : Type) (enc : TypeId × Value → H) (F : Stop.Interp) :
    ReturnsInHanded {} Tryd.checked os 3 .any ((OpenSpec.ofChange Rows.opsPlaySpec).preRow enc Tryd.prog Tryd.f3 Rows.opsPlayRow.domain false Rows.opsPlayRow.laid) (((OpenSpec.ofChange Rows.opsPlaySpec).at F).post enc Tryd.prog Tryd.f3 false true false false) := by
  obtain ⟨places, hx⟩ := reads os enc
  refine returnsInHanded_of_row (C := Tryd.checked) (s := OpenSpec.ofChange Rows.opsPlaySpec) own started (by kernel_rfl) Tryd.func3
    (witness_row_atRef (enc := enc) (C := Tryd.checked) false (World.doorLaid Tryd.prog 70 os) #[.slice none 0 0, .string ByteArray.empty] rfl (by kernel_rfl) (by kernel_rfl) (by kernel_rfl)
      (OpenSpec.preRow_of_cond 8 hx (by kernel_rfl) (fun k hk => by cases hk) (by kernel_rfl) (laid_met os _))) ?_
  intro W base args ds gs before hval hW _ _ _ hL _ _
  exact contract H enc W base args ds gs before hval hW hL

theorem said : Rows.OpsPlaySaid :=
  OpenClaim.holds_of_cond 3 Tryd.f3 rfl rfl rfl rfl rfl rfl rfl ⟨rfl, rfl, rfl, rfl, rfl⟩ rfl rfl rfl rfl rfl (by kernel_rfl) Tryd.func3 (by kernel_rfl)
    (of_decide_eq_true (by kernel_rfl)) (by unfold Func.isWrapper; first | (rw [if_pos (by decide +kernel)]; kernel_rfl) | (rw [if_neg (by decide +kernel)]; exact ⟨rfl, rfl⟩))
    (fun os started H enc _ F => by rw [OpenClaim.pre_eq_preRow]; exact lifted os started H enc F)

theorem plain (f : FuncId) (fn : Func) (hf : Tryd.pinned.checked.prog.funcNamed "prolix/prolixlaw05.OpsPlay" = some f) (hfn : Tryd.pinned.checked.prog.funcs[f]? = some fn) :
    false = Tryd.pinned.checked.prog.looks [] ∧ ∀ (j : Nat) t, fn.params[j]? = some t → Tryd.pinned.checked.prog.wantsStandIn t = false := by
  obtain rfl : f = 3 := Option.some.inj ((show Tryd.prog.funcNamed "prolix/prolixlaw05.OpsPlay" = some 3 by kernel_rfl).symm.trans hf) |>.symm
  obtain rfl : fn = Tryd.f3 := (Option.some.inj (Tryd.func3.symm.trans hfn)).symm
  refine ⟨by kernel_rfl, fun j t ht => ?_⟩
  rw [Tryd.params3] at ht
  have hm : t ∈ [22, 9] := by simpa using Array.mem_of_getElem? ht
  have hall : ([22, 9].all fun u => !Tryd.prog.wantsStandIn u) = true := by kernel_rfl
  exact (show Tryd.prog.wantsStandIn t = false by simpa using List.all_eq_true.1 hall t hm)

theorem card : Rows.OpsPlayCardSaid :=
  Claim7.holds_tied_plain_at .later [] _ _ _ _ said (fun _ h => by cases h) (by kernel_rfl) (fun _ h => by cases h) opsPlay_row_tie rfl ⟨rfl, rfl⟩ (by kernel_rfl) rfl plain (by kernel_rfl)
end Go.Proofs.YtiaajpfebcccfaaDoor.OpsPlayP
