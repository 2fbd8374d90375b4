/- A closed fact of ScriptRoundTrips' row: what is answered in its place. -/
import Derived.Test.YtfmpkhcaifbonaaGreatDoorRows
import Derived.JoinedCond
namespace Go.Proofs.YtfmpkhcaifbonaaGreatDoor.scriptRoundTripsDone
set_option maxRecDepth 100000
theorem c1 : (Rows.scriptRoundTripsRow.inPlace == Tryz.prog.inPlace 4) = true := by kernel_rfl
end Go.Proofs.YtfmpkhcaifbonaaGreatDoor.scriptRoundTripsDone
