/- A closed fact of ScriptRoundTrips' row: whether it recurses. -/
import Derived.Test.YtfmpkhcaifbonaaGreatDoorRows
import Derived.JoinedCond
namespace Go.Proofs.YtfmpkhcaifbonaaGreatDoor.scriptRoundTripsDone
set_option maxRecDepth 100000
theorem c3 : (Rows.scriptRoundTripsRow.recurses == Tryz.prog.recurses 4) = true := by kernel_rfl
end Go.Proofs.YtfmpkhcaifbonaaGreatDoor.scriptRoundTripsDone
