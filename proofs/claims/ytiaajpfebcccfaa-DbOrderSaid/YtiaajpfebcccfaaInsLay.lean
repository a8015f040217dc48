/-
  The laying of slices.Insert of Go's library at int over this program, as the kit's tools lay it (lay-plain). No condition.
-/
import Derived.Shelf.Spec.SlicesInsert
import Derived.Shelf.Spec.SlicesInsertGrow
import Derived.Ground.Names2Prog
import Derived.Test.YtiaajpfebcccfaaProg
namespace Go.Proofs
open Go.Shelf
def Try.insInt_ren : Go.Shelf.Ren := ⟨fun | 21 => 16 | 27 => 28 | 28 => 29 | 35 => 38 | 39 => 52 | n => n, fun | 22 => 27 | 3 => 3 | 4 => 4 | 0 => 0 | n => n, fun | n => n⟩
theorem Try.insInt : Go.Proofs.Lays2.n21 Try.prog Try.insInt_ren := {
  mixed := by kernel_rfl
  f21 := Try.func16.trans (congrArg some (by kernel_rfl))
  f27 := Try.func28.trans (congrArg some (by kernel_rfl))
  f28 := Try.func29.trans (congrArg some (by kernel_rfl))
  f35 := Try.func38.trans (congrArg some (by kernel_rfl))
  f39 := Try.func52.trans (congrArg some (by kernel_rfl))
  t0 := Try.underlying0
  a0 := Try.isAgg0
  z0 := Try.sizeOf0
  v0 := Try.zeroValue0
  t3 := Try.underlying3
  a3 := Try.isAgg3
  z3 := Try.sizeOf3
  v3 := Try.zeroValue3
  t4 := Try.underlying4
  a4 := Try.isAgg4
  z4 := Try.sizeOf4
  v4 := Try.zeroValue4
  t22 := Try.underlying27
  a22 := Try.isAgg27
  z22 := Try.sizeOf27
  v22 := Try.zeroValue27
  i3 := by kernel_rfl }
end Go.Proofs
