/- The law's own check of the checker: it holds. -/
import Derived.Test.YthlaohffhjlkbaaWM
namespace Go.W
open Go.AM
set_option maxRecDepth 100000
theorem sane (M : Nat) : l07_sane (M + 60) = some true := by rfl
end Go.W
