/- A closed fact of YardConserves' row: what is answered in its place. -/
import Derived.Test.YtekkhljfkiojiaaGreatDoorRows
import Derived.JoinedCond
namespace Go.Proofs.YtekkhljfkiojiaaGreatDoor.yardConservesDone
set_option maxRecDepth 100000
theorem c1 : (Rows.yardConservesRow.inPlace == Tryz.prog.inPlace 4) = true := by kernel_rfl
end Go.Proofs.YtekkhljfkiojiaaGreatDoor.yardConservesDone
