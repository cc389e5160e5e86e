/- A part of PolygonErrors's runs. No condition. -/
import Derived.Test.YtkicidfkmfkbhaaErrX
set_option maxRecDepth 1000000
namespace Go.AM
open Go
theorem err12 : errRun ((12 : Nat) : Int) = true := by kernel_rfl
theorem err10 : errRun ((10 : Nat) : Int) = true := by kernel_rfl
theorem err14 : errRun ((14 : Nat) : Int) = true := by kernel_rfl
end Go.AM
