/- QuadraticUnits: closed runs from 641 on. No condition. -/
import Derived.Test.YtemmnocgkgoegaaUnm
set_option maxRecDepth 1000000
namespace Go.AM
theorem ur10 : rng 641 32 = true := by kernel_rfl
end Go.AM
