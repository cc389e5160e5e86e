/- A part of PolygonGauss's runs. No condition. -/
import Derived.Test.YtkicidfkmfkbhaaAwake
set_option maxRecDepth 1000000
namespace Go.AM
open Go
theorem gauss2 : upTo (fun k => isT (callF tab.get awakeI 100000 (.fn 5) [.int .u8 ((64 + k : Nat) : Int)] .empty)) 32 = true := by kernel_rfl
theorem gauss3 : upTo (fun k => isT (callF tab.get awakeI 100000 (.fn 5) [.int .u8 ((96 + k : Nat) : Int)] .empty)) 32 = true := by kernel_rfl
end Go.AM
