/- QuadraticUnits: closed runs from 673 on. No condition. -/
import Derived.Test.YtemmnocgkgoegaaUnm
set_option maxRecDepth 1000000
namespace Go.AM
theorem ur11 : rng 673 43 = true := by kernel_rfl
end Go.AM
