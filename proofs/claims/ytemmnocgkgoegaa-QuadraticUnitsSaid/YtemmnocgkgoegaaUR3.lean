/- QuadraticUnits: closed runs from 268 on. No condition. -/
import Derived.Test.YtemmnocgkgoegaaUnm
set_option maxRecDepth 1000000
namespace Go.AM
theorem ur3 : rng 268 69 = true := by kernel_rfl
end Go.AM
