/- A part of PolygonErrors's runs. No condition. -/
import Derived.Test.YtkicidfkmfkbhaaErrX
set_option maxRecDepth 1000000
namespace Go.AM
open Go
theorem err3 : errRun ((3 : Nat) : Int) = true := by kernel_rfl
theorem err4 : errRun ((4 : Nat) : Int) = true := by kernel_rfl
theorem err5 : errRun ((5 : Nat) : Int) = true := by kernel_rfl
theorem err6 : errRun ((6 : Nat) : Int) = true := by kernel_rfl
theorem err7 : errRun ((7 : Nat) : Int) = true := by kernel_rfl
theorem err8 : errRun ((8 : Nat) : Int) = true := by kernel_rfl
theorem err9 : errRun ((9 : Nat) : Int) = true := by kernel_rfl
end Go.AM
