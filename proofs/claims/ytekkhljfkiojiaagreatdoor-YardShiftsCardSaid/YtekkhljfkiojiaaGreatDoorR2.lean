/- A closed fact of YardShifts' row: whether there is a text that is not followed. -/
import Derived.Test.YtekkhljfkiojiaaGreatDoorRows
import Derived.JoinedCond
namespace Go.Proofs.YtekkhljfkiojiaaGreatDoor.yardShiftsDone
set_option maxRecDepth 100000
theorem c2 : (Rows.yardShiftsRow.unfollowed == Tryz.prog.unfollowed 5) = true := by kernel_rfl
end Go.Proofs.YtekkhljfkiojiaaGreatDoor.yardShiftsDone
