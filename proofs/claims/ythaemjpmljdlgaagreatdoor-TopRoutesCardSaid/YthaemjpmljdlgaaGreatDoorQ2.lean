/- A closed fact of TopRoutes' row: whether there is a text that is not followed. -/
import Derived.Test.YthaemjpmljdlgaaGreatDoorRows
import Derived.JoinedCond
namespace Go.Proofs.YthaemjpmljdlgaaGreatDoor.topRoutesDone
set_option maxRecDepth 100000
theorem c2 : (Rows.topRoutesRow.unfollowed == Tryz.prog.unfollowed 3) = true := by kernel_rfl
end Go.Proofs.YthaemjpmljdlgaaGreatDoor.topRoutesDone
