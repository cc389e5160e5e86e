/- QuadraticUnits: closed runs from 337 on. No condition. -/
import Derived.Test.YtemmnocgkgoegaaUnm
set_option maxRecDepth 1000000
namespace Go.AM
theorem ur4 : rng 337 56 = true := by kernel_rfl
end Go.AM
