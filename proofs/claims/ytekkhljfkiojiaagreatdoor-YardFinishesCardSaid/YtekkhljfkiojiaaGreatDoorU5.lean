/- The closed facts of YardFinishes' row, together. -/
import Derived.Test.YtekkhljfkiojiaaGreatDoorU1
import Derived.Test.YtekkhljfkiojiaaGreatDoorU2
import Derived.Test.YtekkhljfkiojiaaGreatDoorU3
import Derived.Test.YtekkhljfkiojiaaGreatDoorU4
namespace Go.Proofs.YtekkhljfkiojiaaGreatDoor.yardFinishesDone
set_option maxRecDepth 100000
theorem c5 : laidOutB Tryz.prog = true := by kernel_rfl
theorem c6 : mapsRowed Tryz.prog = true := by kernel_rfl
theorem c7 : Tryz.prog.stopsHeard = true := by kernel_rfl
theorem c8 : Tryz.prog.mayEnter = true := by kernel_rfl
theorem closed : joinedFacts Tryz.prog 8 Tryz.f8 (OpenSpec.ofChange Rows.yardFinishesSpec).bare Rows.yardFinishesRow = true := by
  unfold joinedFacts
  rw [c1, c2, c3, c4, c5, c6, c7, c8]
  kernel_rfl
end Go.Proofs.YtekkhljfkiojiaaGreatDoor.yardFinishesDone
