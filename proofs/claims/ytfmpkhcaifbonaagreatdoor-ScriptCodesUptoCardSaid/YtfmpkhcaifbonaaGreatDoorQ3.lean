/- A closed fact of ScriptCodesUpto' row: whether it recurses. -/
import Derived.Test.YtfmpkhcaifbonaaGreatDoorRows
import Derived.JoinedCond
namespace Go.Proofs.YtfmpkhcaifbonaaGreatDoor.scriptCodesUptoDone
set_option maxRecDepth 100000
theorem c3 : (Rows.scriptCodesUptoRow.recurses == Tryz.prog.recurses 3) = true := by kernel_rfl
end Go.Proofs.YtfmpkhcaifbonaaGreatDoor.scriptCodesUptoDone
