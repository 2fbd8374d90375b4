/- A closed fact of YardProves' row: whether it recurses. -/
import Derived.Test.YtekkhljfkiojiaaGreatDoorRows
import Derived.JoinedCond
namespace Go.Proofs.YtekkhljfkiojiaaGreatDoor.yardProvesDone
set_option maxRecDepth 100000
theorem c3 : (Rows.yardProvesRow.recurses == Tryz.prog.recurses 6) = true := by kernel_rfl
end Go.Proofs.YtekkhljfkiojiaaGreatDoor.yardProvesDone
