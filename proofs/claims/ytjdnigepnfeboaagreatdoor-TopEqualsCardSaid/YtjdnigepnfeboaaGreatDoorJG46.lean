import Derived.Test.YtjdnigepnfeboaaGreatDoorCards
import Derived.JoinedCond
import Derived.SevenTiedAt
namespace Go.Proofs.YtjdnigepnfeboaaGreatDoor.TopEqualsC
set_option maxRecDepth 100000
theorem t_inPlace : (Rows.topEqualsRow.inPlace == Tryz.pinned.checked.prog.inPlace 3) = true := by kernel_rfl
end Go.Proofs.YtjdnigepnfeboaaGreatDoor.TopEqualsC
namespace Go.Proofs.YtjdnigepnfeboaaGreatDoor.TopEqualsC
set_option maxRecDepth 100000
theorem t_unfollowed : (Rows.topEqualsRow.unfollowed == Tryz.pinned.checked.prog.unfollowed 3) = true := by kernel_rfl
end Go.Proofs.YtjdnigepnfeboaaGreatDoor.TopEqualsC
