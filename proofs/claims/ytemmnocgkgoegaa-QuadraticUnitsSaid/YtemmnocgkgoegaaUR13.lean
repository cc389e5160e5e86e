/- QuadraticUnits: closed runs from 757 on. No condition. -/
import Derived.Test.YtemmnocgkgoegaaUnm
set_option maxRecDepth 1000000
namespace Go.AM
theorem ur13 : rng 757 39 = true := by kernel_rfl
end Go.AM
