/- A closed fact of YardShifts' row: the variables that it names. -/
import Derived.Test.YtekkhljfkiojiaaGreatDoorRows
import Derived.JoinedCond
namespace Go.Proofs.YtekkhljfkiojiaaGreatDoor.yardShiftsDone
set_option maxRecDepth 100000
theorem c4 : (Rows.yardShiftsRow.named == Tryz.prog.varsNamed 5) = true := by kernel_rfl
end Go.Proofs.YtekkhljfkiojiaaGreatDoor.yardShiftsDone
