/- QuadraticUnits: closed runs from 716 on. No condition. -/
import Derived.Test.YtemmnocgkgoegaaUnm
set_option maxRecDepth 1000000
namespace Go.AM
theorem ur12 : rng 716 41 = true := by kernel_rfl
end Go.AM
