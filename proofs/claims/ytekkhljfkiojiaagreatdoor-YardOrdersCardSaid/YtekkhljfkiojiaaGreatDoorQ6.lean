/- A closed fact of YardOrders' row: whether the call starts others. -/
import Derived.Test.YtekkhljfkiojiaaGreatDoorRows
import GoSem.ClaimSeven
namespace Go.Proofs.YtekkhljfkiojiaaGreatDoor.yardOrdersDone
set_option maxRecDepth 100000
theorem c9 : false = Rows.yardOrdersRow.goesBy Tryz.pinned.checked.prog := by kernel_rfl
end Go.Proofs.YtekkhljfkiojiaaGreatDoor.yardOrdersDone
