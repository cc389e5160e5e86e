/- QuadraticUnits: closed runs from 0 on. No condition. -/
import Derived.Test.YtemmnocgkgoegaaUnm
set_option maxRecDepth 1000000
namespace Go.AM
theorem ur0 : rng 0 124 = true := by kernel_rfl
end Go.AM
