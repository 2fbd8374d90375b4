/- A closed fact of YardProves' row: whether there is a text that is not followed. -/
import Derived.Test.YtekkhljfkiojiaaGreatDoorRows
import Derived.JoinedCond
namespace Go.Proofs.YtekkhljfkiojiaaGreatDoor.yardProvesDone
set_option maxRecDepth 100000
theorem c2 : (Rows.yardProvesRow.unfollowed == Tryz.prog.unfollowed 6) = true := by kernel_rfl
end Go.Proofs.YtekkhljfkiojiaaGreatDoor.yardProvesDone
