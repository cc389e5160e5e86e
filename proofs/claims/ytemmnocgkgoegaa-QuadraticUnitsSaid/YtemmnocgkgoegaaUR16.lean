/- QuadraticUnits: closed runs from 881 on. No condition. -/
import Derived.Test.YtemmnocgkgoegaaUnm
set_option maxRecDepth 1000000
namespace Go.AM
theorem ur16 : rng 881 40 = true := by kernel_rfl
end Go.AM
