/- A closed fact of YardOrders' row: what is answered in its place. -/
import Derived.Test.YtekkhljfkiojiaaGreatDoorRows
import Derived.JoinedCond
namespace Go.Proofs.YtekkhljfkiojiaaGreatDoor.yardOrdersDone
set_option maxRecDepth 100000
theorem c1 : (Rows.yardOrdersRow.inPlace == Tryz.prog.inPlace 7) = true := by kernel_rfl
end Go.Proofs.YtekkhljfkiojiaaGreatDoor.yardOrdersDone
