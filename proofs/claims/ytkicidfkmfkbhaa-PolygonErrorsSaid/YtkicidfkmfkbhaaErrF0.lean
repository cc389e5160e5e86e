/- A part of PolygonErrors's runs. No condition. -/
import Derived.Test.YtkicidfkmfkbhaaErrX
set_option maxRecDepth 1000000
namespace Go.AM
open Go
theorem errs0 : upTo (fun k => errF (0 + k)) 43 = true := by kernel_rfl
theorem errs1 : upTo (fun k => errF (43 + k)) 43 = true := by kernel_rfl
end Go.AM
