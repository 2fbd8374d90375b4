/- A closed fact of YardProves' row: whether the call starts others. -/
import Derived.Test.YtekkhljfkiojiaaGreatDoorRows
import GoSem.ClaimSeven
namespace Go.Proofs.YtekkhljfkiojiaaGreatDoor.yardProvesDone
set_option maxRecDepth 100000
theorem c9 : false = Rows.yardProvesRow.goesBy Tryz.pinned.checked.prog := by kernel_rfl
end Go.Proofs.YtekkhljfkiojiaaGreatDoor.yardProvesDone
