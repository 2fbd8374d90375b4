/- A closed fact of YardFinishes' row: what is answered in its place. -/
import Derived.Test.YtekkhljfkiojiaaGreatDoorRows
import Derived.JoinedCond
namespace Go.Proofs.YtekkhljfkiojiaaGreatDoor.yardFinishesDone
set_option maxRecDepth 100000
theorem c1 : (Rows.yardFinishesRow.inPlace == Tryz.prog.inPlace 8) = true := by kernel_rfl
end Go.Proofs.YtekkhljfkiojiaaGreatDoor.yardFinishesDone
