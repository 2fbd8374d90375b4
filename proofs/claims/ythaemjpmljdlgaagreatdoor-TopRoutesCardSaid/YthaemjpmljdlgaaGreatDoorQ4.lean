/- A closed fact of TopRoutes' row: the variables that it names. -/
import Derived.Test.YthaemjpmljdlgaaGreatDoorRows
import Derived.JoinedCond
namespace Go.Proofs.YthaemjpmljdlgaaGreatDoor.topRoutesDone
set_option maxRecDepth 100000
theorem c4 : (Rows.topRoutesRow.named == Tryz.prog.varsNamed 3) = true := by kernel_rfl
end Go.Proofs.YthaemjpmljdlgaaGreatDoor.topRoutesDone
