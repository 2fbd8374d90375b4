/- A closed fact of TopRoutes' row: what is answered in its place. -/
import Derived.Test.YthaemjpmljdlgaaGreatDoorRows
import Derived.JoinedCond
namespace Go.Proofs.YthaemjpmljdlgaaGreatDoor.topRoutesDone
set_option maxRecDepth 100000
theorem c1 : (Rows.topRoutesRow.inPlace == Tryz.prog.inPlace 3) = true := by kernel_rfl
end Go.Proofs.YthaemjpmljdlgaaGreatDoor.topRoutesDone
