/- A closed fact of ScriptRoundTrips' row: whether there is a text that is not followed. -/
import Derived.Test.YtfmpkhcaifbonaaGreatDoorRows
import Derived.JoinedCond
namespace Go.Proofs.YtfmpkhcaifbonaaGreatDoor.scriptRoundTripsDone
set_option maxRecDepth 100000
theorem c2 : (Rows.scriptRoundTripsRow.unfollowed == Tryz.prog.unfollowed 4) = true := by kernel_rfl
end Go.Proofs.YtfmpkhcaifbonaaGreatDoor.scriptRoundTripsDone
