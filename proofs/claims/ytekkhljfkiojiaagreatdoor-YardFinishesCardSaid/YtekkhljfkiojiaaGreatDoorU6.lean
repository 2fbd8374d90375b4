/- A closed fact of YardFinishes' row: whether the call starts others. -/
import Derived.Test.YtekkhljfkiojiaaGreatDoorRows
import GoSem.ClaimSeven
namespace Go.Proofs.YtekkhljfkiojiaaGreatDoor.yardFinishesDone
set_option maxRecDepth 100000
theorem c9 : false = Rows.yardFinishesRow.goesBy Tryz.pinned.checked.prog := by kernel_rfl
end Go.Proofs.YtekkhljfkiojiaaGreatDoor.yardFinishesDone
