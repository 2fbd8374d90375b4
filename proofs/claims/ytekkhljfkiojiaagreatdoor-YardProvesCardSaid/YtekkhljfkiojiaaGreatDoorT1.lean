/- A closed fact of YardProves' row: what is answered in its place. -/
import Derived.Test.YtekkhljfkiojiaaGreatDoorRows
import Derived.JoinedCond
namespace Go.Proofs.YtekkhljfkiojiaaGreatDoor.yardProvesDone
set_option maxRecDepth 100000
theorem c1 : (Rows.yardProvesRow.inPlace == Tryz.prog.inPlace 6) = true := by kernel_rfl
end Go.Proofs.YtekkhljfkiojiaaGreatDoor.yardProvesDone
