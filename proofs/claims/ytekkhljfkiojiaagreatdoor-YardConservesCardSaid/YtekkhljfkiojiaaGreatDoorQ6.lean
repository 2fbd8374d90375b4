/- A closed fact of YardConserves' row: whether the call starts others. -/
import Derived.Test.YtekkhljfkiojiaaGreatDoorRows
import GoSem.ClaimSeven
namespace Go.Proofs.YtekkhljfkiojiaaGreatDoor.yardConservesDone
set_option maxRecDepth 100000
theorem c9 : false = Rows.yardConservesRow.goesBy Tryz.pinned.checked.prog := by kernel_rfl
end Go.Proofs.YtekkhljfkiojiaaGreatDoor.yardConservesDone
