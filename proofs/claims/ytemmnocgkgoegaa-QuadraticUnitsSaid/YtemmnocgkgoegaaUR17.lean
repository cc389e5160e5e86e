/- QuadraticUnits: closed runs from 921 on. No condition. -/
import Derived.Test.YtemmnocgkgoegaaUnm
set_option maxRecDepth 1000000
namespace Go.AM
theorem ur17 : rng 921 35 = true := by kernel_rfl
end Go.AM
