/- QuadraticUnits: closed runs from 849 on. No condition. -/
import Derived.Test.YtemmnocgkgoegaaUnm
set_option maxRecDepth 1000000
namespace Go.AM
theorem ur15 : rng 849 32 = true := by kernel_rfl
end Go.AM
