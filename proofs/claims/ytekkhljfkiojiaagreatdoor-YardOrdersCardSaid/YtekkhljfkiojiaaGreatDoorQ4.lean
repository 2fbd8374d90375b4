/- A closed fact of YardOrders' row: the variables that it names. -/
import Derived.Test.YtekkhljfkiojiaaGreatDoorRows
import Derived.JoinedCond
namespace Go.Proofs.YtekkhljfkiojiaaGreatDoor.yardOrdersDone
set_option maxRecDepth 100000
theorem c4 : (Rows.yardOrdersRow.named == Tryz.prog.varsNamed 7) = true := by kernel_rfl
end Go.Proofs.YtekkhljfkiojiaaGreatDoor.yardOrdersDone
