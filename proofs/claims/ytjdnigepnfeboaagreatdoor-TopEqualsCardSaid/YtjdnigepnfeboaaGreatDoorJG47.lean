import Derived.Test.YtjdnigepnfeboaaGreatDoorCards
import Derived.JoinedCond
import Derived.SevenTiedAt
namespace Go.Proofs.YtjdnigepnfeboaaGreatDoor.TopEqualsC
set_option maxRecDepth 100000
theorem t_laidOut : laidOutB Tryz.prog = true := by kernel_rfl
end Go.Proofs.YtjdnigepnfeboaaGreatDoor.TopEqualsC
namespace Go.Proofs.YtjdnigepnfeboaaGreatDoor.TopEqualsC
set_option maxRecDepth 100000
theorem t_recurses : (Rows.topEqualsRow.recurses == Tryz.pinned.checked.prog.recurses 3) = true := by kernel_rfl
end Go.Proofs.YtjdnigepnfeboaaGreatDoor.TopEqualsC
namespace Go.Proofs.YtjdnigepnfeboaaGreatDoor.TopEqualsC
set_option maxRecDepth 100000
theorem t_named : (Rows.topEqualsRow.named == Tryz.pinned.checked.prog.varsNamed 3) = true := by kernel_rfl
end Go.Proofs.YtjdnigepnfeboaaGreatDoor.TopEqualsC
namespace Go.Proofs.YtjdnigepnfeboaaGreatDoor.TopEqualsC
set_option maxRecDepth 100000
theorem t_looks : true = Tryz.pinned.checked.prog.looks [] := by kernel_rfl
end Go.Proofs.YtjdnigepnfeboaaGreatDoor.TopEqualsC
namespace Go.Proofs.YtjdnigepnfeboaaGreatDoor.TopEqualsC
set_option maxRecDepth 100000
theorem t_still : Tryz.pinned.checked.prog.funcs.any Func.goes = false := by kernel_rfl
theorem goes_none {P : Program} (h : P.funcs.any Func.goes = false) (s : String) : P.goesAt .entering s = false := by
 have h1 : ∀ f, P.goes f = false := fun f => by
  unfold Program.goes
  rw [h, Bool.and_false, Bool.or_false, List.any_eq_false]
  intro g _
  cases hg : P.funcs[g]? with
  | none => simp
  | some fn =>
   have := Array.any_eq_false.1 h g (Array.getElem?_eq_some_iff.1 hg).1
   rw [(Array.getElem?_eq_some_iff.1 hg).2] at this
   simpa using this
 unfold Program.goesAt Program.goesFrom
 rw [Bool.or_false]
 cases P.funcNamed s with
 | none => rfl
 | some f => exact h1 f
theorem t_goes : false = Rows.topEqualsRow.goesBy Tryz.pinned.checked.prog := (goes_none t_still _).symm
end Go.Proofs.YtjdnigepnfeboaaGreatDoor.TopEqualsC
