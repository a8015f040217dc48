import Derived.Test.YtigeofkllldilaaGreatDoorJM54
import Derived.Test.YtigeofkllldilaaGreatDoorJM55
import Derived.Test.YtigeofkllldilaaGreatDoorTie
import Derived.HandedShaped
import Derived.Lay
set_option maxHeartbeats 32000000
set_option maxRecDepth 100000
set_option linter.unusedSectionVars false
open Go.Proofs.Tryz
namespace Go.Proofs.YtigeofkllldilaaGreatDoor
namespace TopThrowC
open Go.ChangeShapes Go.WideShapes Go.ChangeAt Go.RowKit Go.Deep
theorem own:ownKnob prog.godebug=none:=by kernel_rfl
theorem laidOut:laidOutB prog=true:=t_laidOut
theorem params_ok:∀t∈Tryz.f3.params.toList,prog.readableRec t=true/\t<prog.types.size:=by
 intro t ht
 have h:t∈[22]:=ht
 simp only[List.mem_cons,List.mem_nil_iff,or_false]at h
 subst h
 exact⟨by kernel_rfl,of_decide_eq_true (by kernel_rfl)⟩
theorem contract (H:Type) (enc:TypeId×Value->H) (W:World) (base:Nat) (args:Array Value) (ds gs:List (DataW H)) (before:List MemPlace)
 (hval:∀(j:Nat) t v,Tryz.f3.params[j]?=some t->args[j]?=some v->Value.okWide prog W .any base t v)
 (hW:DataW.Whole enc prog Tryz.f3.params.toList Rows.topThrowSpec.vars false W args.toList ds gs before) (hL:laidMetH prog Rows.topThrowRow.laid W) (hsh:W.ShapedOpen prog):
 Calls prog 3 args W fun e W'=>∃v,e=.returned v/\Rows.topThrowSpec.post enc prog Tryz.f3 false true false false W args v W':=by
 have hW':=hW
 obtain⟨p,q,hA0,hV,rfl,hfz,hnd⟩:=hW
 have hA:DataW.TrodAll enc prog W 0 (fun _=>true) true Tryz.f3.params.toList args.toList ds p:=hA0
 rw[Tryz.params3]at hA hval
 obtain⟨v0,vs0,d0,ds0,p0,q0,hargs,rfl,rfl,h0,r0⟩:=trodAll_cons hA
 obtain⟨rfl,rfl,rfl⟩:=trodAll_nil r0
 obtain rfl:args=#[v0]:=by cases args;simp_all
 obtain⟨rfl,rfl⟩:=trodVars_none hV
 obtain⟨A0,n0,c0,rfl⟩:=okWide_slice underlying22 (hval 0 22 v0 rfl rfl)
 obtain⟨fuel,h0⟩:=h0
 obtain⟨A,n,c,hv,hp⟩:=nZ (v:=.slice A0 n0 c0) h0
 injection hv with e1 e2 e3
 subst e1 e2 e3
 obtain⟨m,hm⟩:=cell_of_shapedOpen_int (P:=prog) (g:=3) (t:=3) (zero:=#[ae 0]) hsh (of_decide_eq_true (by kernel_rfl)) (by kernel_rfl) rfl (by kernel_rfl) (by kernel_rfl) underlying3
 rw[MakeChecks.laidMetH_plain _ _ _ (by kernel_rfl)]at hL
 have hE:=yL hm hL
 have walk:=vM W A0 n0 c0 hp hE
 refine walk.mono fun e W' ⟨he,hb⟩=>?_
 subst he
 exact⟨_,rfl,zr laidOut underlying4 rfl rfl hW' hb params_ok rfl rfl rfl⟩
theorem laid_met (os:Os) (args:Array Value):laidMetH prog Rows.topThrowRow.laid (((World.laidAll prog os Rows.topThrowRow.laid).forCall (fun _ _=>0) ⟨#[],args,[]⟩).memory):=by
 rw[MakeChecks.laidMetH_plain _ _ _ (by kernel_rfl)]
 exact laidMet_laidAll _ (by kernel_rfl) (by kernel_rfl)
theorem reads (os:Os) {H:Type} (enc:TypeId×Value->H):∃places,DataW.whole enc prog ((World.laidAll prog os Rows.topThrowRow.laid).forCall (fun _ _=>0) ⟨#[],#[aj],[]⟩).memory Tryz.f3.params.toList Rows.topThrowSpec.vars false #[aj].toList 8=some ([.nil],[],places):=
 ⟨[],by kernel_rfl⟩
theorem lifted (os:Os) (started:os.Started) (H:Type) (enc:TypeId×Value->H) (F:Stop.Interp):
 ReturnsInHanded {} Tryz.checked os 3 .any ((OpenSpec.ofChange Rows.topThrowSpec).preRow enc prog Tryz.f3 Rows.topThrowRow.domain false Rows.topThrowRow.laid) (((OpenSpec.ofChange Rows.topThrowSpec).at F).post enc prog Tryz.f3 false true false false):=by
 obtain⟨places,hx⟩:=reads os enc
 refine returnsInHanded_of_row (C:=Tryz.checked) (s:=OpenSpec.ofChange Rows.topThrowSpec) own started (by kernel_rfl) func3
  (witness_row_atRef (enc:=enc) (C:=Tryz.checked) false (World.laidAll prog os Rows.topThrowRow.laid) #[aj] (World.laidAll_os _ _ _) (by kernel_rfl) (by kernel_rfl) (by kernel_rfl)
    (OpenSpec.preRow_of_cond 8 hx (by kernel_rfl) (fun k hk=>by cases hk) (by kernel_rfl) (laid_met os _))) ?_
 intro W base args ds gs before hval hW _ _ _ hL hsh _
 exact contract H enc W base args ds gs before hval hW hL hsh
theorem closed:joinedFacts Tryz.pinned.checked.prog 3 Tryz.f3 (OpenSpec.ofChange Rows.topThrowSpec).bare Rows.topThrowRow=true:=by
 unfold joinedFacts
 simp only[Bool.and_eq_true]
 repeat' apply And.intro
 all_goals first
  |with_reducible exact t_laidOut
  |with_reducible exact t_inPlace
  |with_reducible exact t_unfollowed
  |with_reducible exact t_recurses
  |with_reducible exact t_named
  |kernel_rfl
theorem said:Rows.TopThrowSaid:=
 OpenClaim.holds_of_cond 3 Tryz.f3 rfl rfl rfl rfl rfl rfl rfl ⟨rfl,rfl,rfl,rfl,rfl⟩ rfl rfl rfl rfl rfl (by kernel_rfl) func3 closed
  (of_decide_eq_true (by kernel_rfl)) (by unfold Func.isWrapper;first|(rw[if_pos (by decide+kernel)];kernel_rfl)|(rw[if_neg (by decide+kernel)];exact⟨rfl,rfl⟩))
  (fun os started H enc _ F=>by rw[OpenClaim.pre_eq_preRow];exact lifted os started H enc F)
theorem plain (f:FuncId) (fn:Func) (hf:Tryz.pinned.checked.prog.funcNamed "prolix/prolixtop.TopThrow"=some f) (hfn:Tryz.pinned.checked.prog.funcs[f]?=some fn):
 true=Tryz.pinned.checked.prog.looks []/\∀(j:Nat) t,fn.params[j]?=some t->Tryz.pinned.checked.prog.wantsStandIn t=false:=by
 obtain rfl:f=3:=Option.some.inj ((show prog.funcNamed "prolix/prolixtop.TopThrow"=some 3 by kernel_rfl).symm.trans hf)|>.symm
 obtain rfl:fn=Tryz.f3:=(Option.some.inj (func3.symm.trans hfn)).symm
 refine⟨t_looks,fun j t ht=>?_⟩
 rw[Tryz.params3]at ht
 have hm:t∈[22]:=by simpa using Array.mem_of_getElem? ht
 have hall:([22].all fun u=> !prog.wantsStandIn u)=true:=by kernel_rfl
 exact(show prog.wantsStandIn t=false by simpa using List.all_eq_true.1 hall t hm)
theorem card:Rows.TopThrowCardSaid:=
 Claim7.holds_tied_plain_at .later [] _ _ _ _ said (fun _ h=>by cases h) (by kernel_rfl) (fun _ h=>by cases h) topThrow_row_tie rfl ⟨rfl,rfl⟩ (by kernel_rfl) rfl plain t_goes
end TopThrowC
end Go.Proofs.YtigeofkllldilaaGreatDoor
