import Derived.Test.YtjdnigepnfeboaaGreatDoorJG45
import Derived.Test.YtjdnigepnfeboaaGreatDoorJG47
import Derived.Test.YtjdnigepnfeboaaGreatDoorJG46
import Derived.Test.YtjdnigepnfeboaaGreatDoorTie
import Derived.HandedShaped
import Derived.Lay
namespace Go.Proofs.YtjdnigepnfeboaaGreatDoor.TopEqualsC
set_option maxRecDepth 100000
open Go.ChangeShapes Go.WideShapes Go.ChangeAt Go.RowKit Go.Deep
theorem own : ownKnob Tryz.prog.godebug = none := by kernel_rfl
theorem laidOut : laidOutB Tryz.prog = true := t_laidOut
theorem params_ok : ∀ t ∈ Tryz.f3.params.toList, Tryz.prog.readableRec t = true ∧ t < Tryz.prog.types.size := by
 intro t ht
 have h : t ∈ [22, 22] := ht
 simp only [List.mem_cons, List.mem_nil_iff, or_false] at h
 rcases h with rfl | rfl
 ·exact ⟨by kernel_rfl, of_decide_eq_true (by kernel_rfl)⟩
 ·exact ⟨by kernel_rfl, of_decide_eq_true (by kernel_rfl)⟩
theorem contract (H : Type) (enc : TypeId × Value → H) (W : World) (base : Nat) (args : Array Value) (ds gs : List (DataW H)) (before : List MemPlace)
    (hval : ∀ (j : Nat) t v, Tryz.f3.params[j]? = some t → args[j]? = some v → Value.okWide Tryz.prog W .any base t v)
    (hW : DataW.Whole enc Tryz.prog Tryz.f3.params.toList Rows.topEqualsSpec.vars false W args.toList ds gs before) (hL : laidMetH Tryz.prog Rows.topEqualsRow.laid W) (hsh : W.ShapedOpen Tryz.prog) :
    Calls Tryz.prog 3 args W fun e W' => ∃ v, e = .returned v ∧ Rows.topEqualsSpec.post enc Tryz.prog Tryz.f3 false true false false W args v W' := by
 have hW' := hW
 obtain ⟨p, q, hA0, hV, rfl, hfz, hnd⟩ := hW
 have hA : DataW.TrodAll enc Tryz.prog W 0 (fun _ => true) true Tryz.f3.params.toList args.toList ds p := hA0
 rw [Tryz.params3] at hA hval
 obtain ⟨v0, v1, d0, d1, p0, p1, rfl, rfl, rfl, h0, h1⟩ := trodAll_two hA
 obtain ⟨rfl, rfl⟩ := trodVars_none hV
 obtain ⟨A0, n0, c0, rfl⟩ := okWide_slice Tryz.underlying22 (hval 0 22 v0 rfl rfl)
 obtain ⟨fuel, h0⟩ := h0
 obtain ⟨A, n, c, hv, hp⟩ := parts_of_trod (v := .slice A0 n0 c0) h0
 injection hv with e1 e2 e3
 subst e1 e2 e3
 obtain ⟨A1, n1, c1, rfl⟩ := okWide_slice Tryz.underlying22 (hval 1 22 v1 rfl rfl)
 obtain ⟨fuel1, h1⟩ := h1
 obtain ⟨A', n', c', hv1, hp1⟩ := parts_of_trod (v := .slice A1 n1 c1) h1
 injection hv1 with e1 e2 e3
 subst e1 e2 e3
 obtain ⟨m, hm⟩ := cell_of_shapedOpen_int (P := Tryz.prog) (g := 3) (t := 3) (zero := #[.int .i64 0]) hsh (of_decide_eq_true (by kernel_rfl)) (by kernel_rfl) rfl (by kernel_rfl) (by kernel_rfl) Tryz.underlying3
 rw [MakeChecks.laidMetH_plain _ _ _ (by kernel_rfl)] at hL
 have hE : RdEnv W := ⟨⟨m, hm⟩, kinds_of_laid hL.tail.tail.tail.tail.tail, space_of_laid hL.tail.tail.tail.tail⟩
 have walk := top_any W A0 n0 c0 hp A1 n1 c1 hp1 hE
 refine walk.mono fun e W' ⟨he, hb⟩ => ?_
 subst he
 exact ⟨_, rfl, law_post laidOut Tryz.underlying4 rfl rfl hW' hb params_ok rfl rfl rfl⟩
theorem laid_met (os : Os) (args : Array Value) : laidMetH Tryz.prog Rows.topEqualsRow.laid (((World.laidAll Tryz.prog os Rows.topEqualsRow.laid).forCall (fun _ _ => 0) ⟨#[], args, []⟩).memory) := by
 rw [MakeChecks.laidMetH_plain _ _ _ (by kernel_rfl)]
 exact laidMet_laidAll _ (by kernel_rfl) (by kernel_rfl)
theorem reads (os : Os) {H : Type} (enc : TypeId × Value → H) : ∃ places, DataW.whole enc Tryz.prog ((World.laidAll Tryz.prog os Rows.topEqualsRow.laid).forCall (fun _ _ => 0) ⟨#[], #[.slice none 0 0, .slice none 0 0], []⟩).memory Tryz.f3.params.toList Rows.topEqualsSpec.vars false #[.slice none 0 0, .slice none 0 0].toList 8 = some ([.nil, .nil], [], places) :=
 ⟨[], by kernel_rfl⟩
theorem lifted (os : Os) (started : os.Started) (H : Type) (enc : TypeId × Value → H) (F : Stop.Interp) :
    ReturnsInHanded {} Tryz.checked os 3 .any ((OpenSpec.ofChange Rows.topEqualsSpec).preRow enc Tryz.prog Tryz.f3 Rows.topEqualsRow.domain false Rows.topEqualsRow.laid) (((OpenSpec.ofChange Rows.topEqualsSpec).at F).post enc Tryz.prog Tryz.f3 false true false false) := by
 obtain ⟨places, hx⟩ := reads os enc
 refine returnsInHanded_of_row (C := Tryz.checked) (s := OpenSpec.ofChange Rows.topEqualsSpec) own started (by kernel_rfl) Tryz.func3
  (witness_row_atRef (enc := enc) (C := Tryz.checked) false (World.laidAll Tryz.prog os Rows.topEqualsRow.laid) #[.slice none 0 0, .slice none 0 0] (World.laidAll_os _ _ _) (by kernel_rfl) (by kernel_rfl) (by kernel_rfl)
    (OpenSpec.preRow_of_cond 8 hx (by kernel_rfl) (fun k hk => by cases hk) (by kernel_rfl) (laid_met os _))) ?_
 intro W base args ds gs before hval hW _ _ _ hL hsh _
 exact contract H enc W base args ds gs before hval hW hL hsh
theorem closed : joinedFacts Tryz.pinned.checked.prog 3 Tryz.f3 (OpenSpec.ofChange Rows.topEqualsSpec).bare Rows.topEqualsRow = true := by
 unfold joinedFacts
 simp only [Bool.and_eq_true]
 repeat' apply And.intro
 all_goals first
  | with_reducible exact t_laidOut
  | with_reducible exact t_inPlace
  | with_reducible exact t_unfollowed
  | with_reducible exact t_recurses
  | with_reducible exact t_named
  | kernel_rfl
theorem said : Rows.TopEqualsSaid :=
 OpenClaim.holds_of_cond 3 Tryz.f3 rfl rfl rfl rfl rfl rfl rfl ⟨rfl, rfl, rfl, rfl, rfl⟩ rfl rfl rfl rfl rfl (by kernel_rfl) Tryz.func3 closed
  (of_decide_eq_true (by kernel_rfl)) (by unfold Func.isWrapper; first | (rw [if_pos (by decide +kernel)]; kernel_rfl) | (rw [if_neg (by decide +kernel)]; exact ⟨rfl, rfl⟩))
  (fun os started H enc _ F => by rw [OpenClaim.pre_eq_preRow]; exact lifted os started H enc F)
theorem plain (f : FuncId) (fn : Func) (hf : Tryz.pinned.checked.prog.funcNamed "prolix/prolixtop.TopEquals" = some f) (hfn : Tryz.pinned.checked.prog.funcs[f]? = some fn) :
    true = Tryz.pinned.checked.prog.looks [] ∧ ∀ (j : Nat) t, fn.params[j]? = some t → Tryz.pinned.checked.prog.wantsStandIn t = false := by
 obtain rfl : f = 3 := Option.some.inj ((show Tryz.prog.funcNamed "prolix/prolixtop.TopEquals" = some 3 by kernel_rfl).symm.trans hf) |>.symm
 obtain rfl : fn = Tryz.f3 := (Option.some.inj (Tryz.func3.symm.trans hfn)).symm
 refine ⟨t_looks, fun j t ht => ?_⟩
 rw [Tryz.params3] at ht
 have hm : t ∈ [22, 22] := by simpa using Array.mem_of_getElem? ht
 have hall : ([22, 22].all fun u => !Tryz.prog.wantsStandIn u) = true := by kernel_rfl
 exact (show Tryz.prog.wantsStandIn t = false by simpa using List.all_eq_true.1 hall t hm)
theorem card : Rows.TopEqualsCardSaid :=
 Claim7.holds_tied_plain_at .later [] _ _ _ _ said (fun _ h => by cases h) (by kernel_rfl) (fun _ h => by cases h) topEquals_row_tie rfl ⟨rfl, rfl⟩ (by kernel_rfl) rfl plain t_goes
end Go.Proofs.YtjdnigepnfeboaaGreatDoor.TopEqualsC
