/- A closed fact of YardShifts' row: what is answered in its place. -/
import Derived.Test.YtekkhljfkiojiaaGreatDoorRows
import Derived.JoinedCond
namespace Go.Proofs.YtekkhljfkiojiaaGreatDoor.yardShiftsDone
set_option maxRecDepth 100000
theorem c1 : (Rows.yardShiftsRow.inPlace == Tryz.prog.inPlace 5) = true := by kernel_rfl
end Go.Proofs.YtekkhljfkiojiaaGreatDoor.yardShiftsDone
