/- A closed fact of YardShifts' row: whether the call starts others. -/
import Derived.Test.YtekkhljfkiojiaaGreatDoorRows
import GoSem.ClaimSeven
namespace Go.Proofs.YtekkhljfkiojiaaGreatDoor.yardShiftsDone
set_option maxRecDepth 100000
theorem c9 : false = Rows.yardShiftsRow.goesBy Tryz.pinned.checked.prog := by kernel_rfl
end Go.Proofs.YtekkhljfkiojiaaGreatDoor.yardShiftsDone
