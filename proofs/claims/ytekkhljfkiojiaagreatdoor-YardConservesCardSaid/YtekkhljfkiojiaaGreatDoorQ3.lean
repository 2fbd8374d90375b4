/- A closed fact of YardConserves' row: whether it recurses. -/
import Derived.Test.YtekkhljfkiojiaaGreatDoorRows
import Derived.JoinedCond
namespace Go.Proofs.YtekkhljfkiojiaaGreatDoor.yardConservesDone
set_option maxRecDepth 100000
theorem c3 : (Rows.yardConservesRow.recurses == Tryz.prog.recurses 4) = true := by kernel_rfl
end Go.Proofs.YtekkhljfkiojiaaGreatDoor.yardConservesDone
