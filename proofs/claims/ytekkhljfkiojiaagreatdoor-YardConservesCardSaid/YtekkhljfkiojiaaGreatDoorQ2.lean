/- A closed fact of YardConserves' row: whether there is a text that is not followed. -/
import Derived.Test.YtekkhljfkiojiaaGreatDoorRows
import Derived.JoinedCond
namespace Go.Proofs.YtekkhljfkiojiaaGreatDoor.yardConservesDone
set_option maxRecDepth 100000
theorem c2 : (Rows.yardConservesRow.unfollowed == Tryz.prog.unfollowed 4) = true := by kernel_rfl
end Go.Proofs.YtekkhljfkiojiaaGreatDoor.yardConservesDone
