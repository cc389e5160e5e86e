/- QuadraticUnits: closed runs from 796 on. No condition. -/
import Derived.Test.YtemmnocgkgoegaaUnm
set_option maxRecDepth 1000000
namespace Go.AM
theorem ur14 : rng 796 53 = true := by kernel_rfl
end Go.AM
