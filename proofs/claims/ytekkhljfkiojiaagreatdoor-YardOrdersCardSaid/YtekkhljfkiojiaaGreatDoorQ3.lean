/- A closed fact of YardOrders' row: whether it recurses. -/
import Derived.Test.YtekkhljfkiojiaaGreatDoorRows
import Derived.JoinedCond
namespace Go.Proofs.YtekkhljfkiojiaaGreatDoor.yardOrdersDone
set_option maxRecDepth 100000
theorem c3 : (Rows.yardOrdersRow.recurses == Tryz.prog.recurses 7) = true := by kernel_rfl
end Go.Proofs.YtekkhljfkiojiaaGreatDoor.yardOrdersDone
