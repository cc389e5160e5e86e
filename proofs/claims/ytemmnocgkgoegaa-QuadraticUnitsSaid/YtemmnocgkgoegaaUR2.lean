/- QuadraticUnits: closed runs from 201 on. No condition. -/
import Derived.Test.YtemmnocgkgoegaaUnm
set_option maxRecDepth 1000000
namespace Go.AM
theorem ur2 : rng 201 67 = true := by kernel_rfl
end Go.AM
