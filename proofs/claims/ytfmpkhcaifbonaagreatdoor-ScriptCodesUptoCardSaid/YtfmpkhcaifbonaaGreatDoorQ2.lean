/- A closed fact of ScriptCodesUpto' row: whether there is a text that is not followed. -/
import Derived.Test.YtfmpkhcaifbonaaGreatDoorRows
import Derived.JoinedCond
namespace Go.Proofs.YtfmpkhcaifbonaaGreatDoor.scriptCodesUptoDone
set_option maxRecDepth 100000
theorem c2 : (Rows.scriptCodesUptoRow.unfollowed == Tryz.prog.unfollowed 3) = true := by kernel_rfl
end Go.Proofs.YtfmpkhcaifbonaaGreatDoor.scriptCodesUptoDone
