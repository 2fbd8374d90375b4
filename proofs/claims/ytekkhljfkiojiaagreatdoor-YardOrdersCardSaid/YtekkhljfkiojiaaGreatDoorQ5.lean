/- The closed facts of YardOrders' row, together. -/
import Derived.Test.YtekkhljfkiojiaaGreatDoorQ1
import Derived.Test.YtekkhljfkiojiaaGreatDoorQ2
import Derived.Test.YtekkhljfkiojiaaGreatDoorQ3
import Derived.Test.YtekkhljfkiojiaaGreatDoorQ4
namespace Go.Proofs.YtekkhljfkiojiaaGreatDoor.yardOrdersDone
set_option maxRecDepth 100000
theorem c5 : laidOutB Tryz.prog = true := by kernel_rfl
theorem c6 : mapsRowed Tryz.prog = true := by kernel_rfl
theorem c7 : Tryz.prog.stopsHeard = true := by kernel_rfl
theorem c8 : Tryz.prog.mayEnter = true := by kernel_rfl
theorem closed : joinedFacts Tryz.prog 7 Tryz.f7 (OpenSpec.ofChange Rows.yardOrdersSpec).bare Rows.yardOrdersRow = true := by
  unfold joinedFacts
  rw [c1, c2, c3, c4, c5, c6, c7, c8]
  kernel_rfl
end Go.Proofs.YtekkhljfkiojiaaGreatDoor.yardOrdersDone
