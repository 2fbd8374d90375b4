/- A closed fact of YardConserves' row: the variables that it names. -/
import Derived.Test.YtekkhljfkiojiaaGreatDoorRows
import Derived.JoinedCond
namespace Go.Proofs.YtekkhljfkiojiaaGreatDoor.yardConservesDone
set_option maxRecDepth 100000
theorem c4 : (Rows.yardConservesRow.named == Tryz.prog.varsNamed 4) = true := by kernel_rfl
end Go.Proofs.YtekkhljfkiojiaaGreatDoor.yardConservesDone
