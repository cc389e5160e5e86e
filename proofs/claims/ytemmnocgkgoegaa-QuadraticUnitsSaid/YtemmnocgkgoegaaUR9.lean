/- QuadraticUnits: closed runs from 601 on. No condition. -/
import Derived.Test.YtemmnocgkgoegaaUnm
set_option maxRecDepth 1000000
namespace Go.AM
theorem ur9 : rng 601 40 = true := by kernel_rfl
end Go.AM
