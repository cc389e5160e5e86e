/- QuadraticUnits: closed runs from 393 on. No condition. -/
import Derived.Test.YtemmnocgkgoegaaUnm
set_option maxRecDepth 1000000
namespace Go.AM
theorem ur5 : rng 393 51 = true := by kernel_rfl
end Go.AM
