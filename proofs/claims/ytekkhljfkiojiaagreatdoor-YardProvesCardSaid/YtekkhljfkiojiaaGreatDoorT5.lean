/- The closed facts of YardProves' row, together. -/
import Derived.Test.YtekkhljfkiojiaaGreatDoorT1
import Derived.Test.YtekkhljfkiojiaaGreatDoorT2
import Derived.Test.YtekkhljfkiojiaaGreatDoorT3
import Derived.Test.YtekkhljfkiojiaaGreatDoorT4
namespace Go.Proofs.YtekkhljfkiojiaaGreatDoor.yardProvesDone
set_option maxRecDepth 100000
theorem c5 : laidOutB Tryz.prog = true := by kernel_rfl
theorem c6 : mapsRowed Tryz.prog = true := by kernel_rfl
theorem c7 : Tryz.prog.stopsHeard = true := by kernel_rfl
theorem c8 : Tryz.prog.mayEnter = true := by kernel_rfl
theorem closed : joinedFacts Tryz.prog 6 Tryz.f6 (OpenSpec.ofChange Rows.yardProvesSpec).bare Rows.yardProvesRow = true := by
  unfold joinedFacts
  rw [c1, c2, c3, c4, c5, c6, c7, c8]
  kernel_rfl
end Go.Proofs.YtekkhljfkiojiaaGreatDoor.yardProvesDone
