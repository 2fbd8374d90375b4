/- A closed fact of ScriptRoundTrips' row: the variables that it names. -/
import Derived.Test.YtfmpkhcaifbonaaGreatDoorRows
import Derived.JoinedCond
namespace Go.Proofs.YtfmpkhcaifbonaaGreatDoor.scriptRoundTripsDone
set_option maxRecDepth 100000
theorem c4 : (Rows.scriptRoundTripsRow.named == Tryz.prog.varsNamed 4) = true := by kernel_rfl
end Go.Proofs.YtfmpkhcaifbonaaGreatDoor.scriptRoundTripsDone
