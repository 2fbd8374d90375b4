/- The closed facts of YardShifts' row, together. -/
import Derived.Test.YtekkhljfkiojiaaGreatDoorR1
import Derived.Test.YtekkhljfkiojiaaGreatDoorR2
import Derived.Test.YtekkhljfkiojiaaGreatDoorR3
import Derived.Test.YtekkhljfkiojiaaGreatDoorR4
namespace Go.Proofs.YtekkhljfkiojiaaGreatDoor.yardShiftsDone
set_option maxRecDepth 100000
theorem c5 : laidOutB Tryz.prog = true := by kernel_rfl
theorem c6 : mapsRowed Tryz.prog = true := by kernel_rfl
theorem c7 : Tryz.prog.stopsHeard = true := by kernel_rfl
theorem c8 : Tryz.prog.mayEnter = true := by kernel_rfl
theorem closed : joinedFacts Tryz.prog 5 Tryz.f5 (OpenSpec.ofChange Rows.yardShiftsSpec).bare Rows.yardShiftsRow = true := by
  unfold joinedFacts
  rw [c1, c2, c3, c4, c5, c6, c7, c8]
  kernel_rfl
end Go.Proofs.YtekkhljfkiojiaaGreatDoor.yardShiftsDone
