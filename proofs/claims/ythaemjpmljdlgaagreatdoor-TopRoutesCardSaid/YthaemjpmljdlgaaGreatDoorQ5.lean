/- The closed facts of TopRoutes' row, together. -/
import Derived.Test.YthaemjpmljdlgaaGreatDoorQ1
import Derived.Test.YthaemjpmljdlgaaGreatDoorQ2
import Derived.Test.YthaemjpmljdlgaaGreatDoorQ3
import Derived.Test.YthaemjpmljdlgaaGreatDoorQ4
namespace Go.Proofs.YthaemjpmljdlgaaGreatDoor.topRoutesDone
set_option maxRecDepth 100000
theorem c5 : laidOutB Tryz.prog = true := by kernel_rfl
theorem c6 : mapsRowed Tryz.prog = true := by kernel_rfl
theorem c7 : Tryz.prog.stopsHeard = true := by kernel_rfl
theorem c8 : Tryz.prog.mayEnter = true := by kernel_rfl
theorem closed : joinedFacts Tryz.prog 3 Tryz.f3 (OpenSpec.ofChange Rows.topRoutesSpec).bare Rows.topRoutesRow = true := by
  unfold joinedFacts
  rw [c1, c2, c3, c4, c5, c6, c7, c8]
  kernel_rfl
end Go.Proofs.YthaemjpmljdlgaaGreatDoor.topRoutesDone
