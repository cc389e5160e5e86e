/- QuadraticUnits: closed runs from 493 on. No condition. -/
import Derived.Test.YtemmnocgkgoegaaUnm
set_option maxRecDepth 1000000
namespace Go.AM
theorem ur7 : rng 493 60 = true := by kernel_rfl
end Go.AM
