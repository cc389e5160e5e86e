/- QuadraticUnits: closed runs from 956 on. No condition. -/
import Derived.Test.YtemmnocgkgoegaaUnm
set_option maxRecDepth 1000000
namespace Go.AM
theorem ur18 : rng 956 45 = true := by kernel_rfl
end Go.AM
