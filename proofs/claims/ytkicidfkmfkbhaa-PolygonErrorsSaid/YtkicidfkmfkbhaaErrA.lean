/- A part of PolygonErrors's runs. No condition. -/
import Derived.Test.YtkicidfkmfkbhaaErrX
set_option maxRecDepth 1000000
namespace Go.AM
open Go
theorem err15 : errRun ((15 : Nat) : Int) = true := by kernel_rfl
end Go.AM
