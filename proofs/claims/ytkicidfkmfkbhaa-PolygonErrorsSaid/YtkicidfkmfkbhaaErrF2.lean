/- A part of PolygonErrors's runs. No condition. -/
import Derived.Test.YtkicidfkmfkbhaaErrX
set_option maxRecDepth 1000000
namespace Go.AM
open Go
theorem errs4 : upTo (fun k => errF (172 + k)) 43 = true := by kernel_rfl
theorem errs5 : upTo (fun k => errF (215 + k)) 43 = true := by kernel_rfl
end Go.AM
