/- A closed fact of YardFinishes' row: whether it recurses. -/
import Derived.Test.YtekkhljfkiojiaaGreatDoorRows
import Derived.JoinedCond
namespace Go.Proofs.YtekkhljfkiojiaaGreatDoor.yardFinishesDone
set_option maxRecDepth 100000
theorem c3 : (Rows.yardFinishesRow.recurses == Tryz.prog.recurses 8) = true := by kernel_rfl
end Go.Proofs.YtekkhljfkiojiaaGreatDoor.yardFinishesDone
