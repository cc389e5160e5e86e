/- QuadraticUnits: closed runs from 553 on. No condition. -/
import Derived.Test.YtemmnocgkgoegaaUnm
set_option maxRecDepth 1000000
namespace Go.AM
theorem ur8 : rng 553 48 = true := by kernel_rfl
end Go.AM
