/- What the maker makes: valid lists. -/
import Derived.Test.YtaoioacomnnhdaaLMade
import Derived.Test.YtaoioacomnnhdaaLVal
namespace Go.W
open Go.AM

theorem MadeL.err {l : List Wagon} (h : MadeL l) (hl : l.length ≤ 96) : listErr l = 0 := listErr_zero.2 ⟨hl, h.ok, h.nodup⟩
end Go.W
