/- QuadraticUnits: closed runs from 124 on. No condition. -/
import Derived.Test.YtemmnocgkgoegaaUnm
set_option maxRecDepth 1000000
namespace Go.AM
theorem ur1 : rng 124 77 = true := by kernel_rfl
end Go.AM
