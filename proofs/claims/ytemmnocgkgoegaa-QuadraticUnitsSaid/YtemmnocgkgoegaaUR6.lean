/- QuadraticUnits: closed runs from 444 on. No condition. -/
import Derived.Test.YtemmnocgkgoegaaUnm
set_option maxRecDepth 1000000
namespace Go.AM
theorem ur6 : rng 444 49 = true := by kernel_rfl
end Go.AM
