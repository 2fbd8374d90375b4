/- A closed fact of TopRoutes' row: whether it recurses. -/
import Derived.Test.YthaemjpmljdlgaaGreatDoorRows
import Derived.JoinedCond
namespace Go.Proofs.YthaemjpmljdlgaaGreatDoor.topRoutesDone
set_option maxRecDepth 100000
theorem c3 : (Rows.topRoutesRow.recurses == Tryz.prog.recurses 3) = true := by kernel_rfl
end Go.Proofs.YthaemjpmljdlgaaGreatDoor.topRoutesDone
