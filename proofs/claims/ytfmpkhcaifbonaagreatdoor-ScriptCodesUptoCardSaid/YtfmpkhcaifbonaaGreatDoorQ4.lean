/- A closed fact of ScriptCodesUpto' row: the variables that it names. -/
import Derived.Test.YtfmpkhcaifbonaaGreatDoorRows
import Derived.JoinedCond
namespace Go.Proofs.YtfmpkhcaifbonaaGreatDoor.scriptCodesUptoDone
set_option maxRecDepth 100000
theorem c4 : (Rows.scriptCodesUptoRow.named == Tryz.prog.varsNamed 3) = true := by kernel_rfl
end Go.Proofs.YtfmpkhcaifbonaaGreatDoor.scriptCodesUptoDone
