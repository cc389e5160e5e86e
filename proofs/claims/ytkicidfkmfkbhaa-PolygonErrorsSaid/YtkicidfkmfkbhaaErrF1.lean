/- A part of PolygonErrors's runs. No condition. -/
import Derived.Test.YtkicidfkmfkbhaaErrX
set_option maxRecDepth 1000000
namespace Go.AM
open Go
theorem errs2 : upTo (fun k => errF (86 + k)) 43 = true := by kernel_rfl
theorem errs3 : upTo (fun k => errF (129 + k)) 43 = true := by kernel_rfl
end Go.AM
