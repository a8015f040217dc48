import Derived.Test.YtigeofkllldilaaGreatDoorJM00
import Derived.Test.YtigeofkllldilaaGreatDoorCards
import Derived.JoinedCond
import Derived.SevenTiedAt
set_option maxHeartbeats 32000000
set_option maxRecDepth 100000
set_option linter.unusedSectionVars false
open Go.Proofs.Tryz
namespace Go.Proofs.YtigeofkllldilaaGreatDoor
namespace TopThrowC
theorem t_laidOut:laidOutB prog=true:=by kernel_rfl
end TopThrowC
namespace TopThrowC
theorem t_unfollowed:(Rows.topThrowRow.unfollowed==Tryz.pinned.checked.prog.unfollowed 3)=true:=by kernel_rfl
end TopThrowC
namespace TopThrowC
theorem t_recurses:(Rows.topThrowRow.recurses==Tryz.pinned.checked.prog.recurses 3)=true:=by kernel_rfl
end TopThrowC
namespace TopThrowC
theorem t_looks:true=Tryz.pinned.checked.prog.looks []:=by kernel_rfl
end TopThrowC
namespace TopThrowC
theorem t_still:Tryz.pinned.checked.prog.funcs.any Func.goes=false:=by kernel_rfl
theorem goes_none {P:Program} (h:P.funcs.any Func.goes=false) (s:String):P.goesAt .entering s=false:=by
 have h1:∀f,P.goes f=false:=fun f=>by
  unfold Program.goes
  rw[h,Bool.and_false,Bool.or_false,List.any_eq_false]
  intro g _
  cases hg:P.funcs[g]? with
  |none=>simp
  |some fn=>
   have:=Array.any_eq_false.1 h g (ap hg).1
   rw[(ap hg).2]at this
   simpa using this
 unfold Program.goesAt Program.goesFrom
 rw[Bool.or_false]
 cases P.funcNamed s with
 |none=>rfl
 |some f=>exact h1 f
theorem t_goes:false=Rows.topThrowRow.goesBy Tryz.pinned.checked.prog:=(goes_none t_still _).symm
end TopThrowC
end Go.Proofs.YtigeofkllldilaaGreatDoor
