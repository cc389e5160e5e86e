/- A part of PolygonDecides's runs. No condition. -/
import Derived.Test.YtkicidfkmfkbhaaAwake
set_option maxRecDepth 1000000
namespace Go.AM
open Go
theorem dec4 : upTo (fun k => isT (callF tab.get awakeI 100000 (.fn 3) [.int .i64 ((172 + k : Nat) : Int)] .empty)) 43 = true := by kernel_rfl
theorem dec5 : upTo (fun k => isT (callF tab.get awakeI 100000 (.fn 3) [.int .i64 ((215 + k : Nat) : Int)] .empty)) 43 = true := by kernel_rfl
end Go.AM
