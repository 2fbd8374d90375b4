/- A closed fact of ScriptCodesUpto' row: what is answered in its place. -/
import Derived.Test.YtfmpkhcaifbonaaGreatDoorRows
import Derived.JoinedCond
namespace Go.Proofs.YtfmpkhcaifbonaaGreatDoor.scriptCodesUptoDone
set_option maxRecDepth 100000
theorem c1 : (Rows.scriptCodesUptoRow.inPlace == Tryz.prog.inPlace 3) = true := by kernel_rfl
end Go.Proofs.YtfmpkhcaifbonaaGreatDoor.scriptCodesUptoDone
