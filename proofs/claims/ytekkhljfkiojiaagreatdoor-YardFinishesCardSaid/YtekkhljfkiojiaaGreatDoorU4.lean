/- A closed fact of YardFinishes' row: the variables that it names. -/
import Derived.Test.YtekkhljfkiojiaaGreatDoorRows
import Derived.JoinedCond
namespace Go.Proofs.YtekkhljfkiojiaaGreatDoor.yardFinishesDone
set_option maxRecDepth 100000
theorem c4 : (Rows.yardFinishesRow.named == Tryz.prog.varsNamed 8) = true := by kernel_rfl
end Go.Proofs.YtekkhljfkiojiaaGreatDoor.yardFinishesDone
