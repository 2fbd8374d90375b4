/- A closed fact of YardOrders' row: whether there is a text that is not followed. -/
import Derived.Test.YtekkhljfkiojiaaGreatDoorRows
import Derived.JoinedCond
namespace Go.Proofs.YtekkhljfkiojiaaGreatDoor.yardOrdersDone
set_option maxRecDepth 100000
theorem c2 : (Rows.yardOrdersRow.unfollowed == Tryz.prog.unfollowed 7) = true := by kernel_rfl
end Go.Proofs.YtekkhljfkiojiaaGreatDoor.yardOrdersDone
