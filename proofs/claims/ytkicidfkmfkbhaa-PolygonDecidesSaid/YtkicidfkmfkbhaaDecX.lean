/- PolygonDecides's runs at numbers beyond its range. No condition. -/
import Derived.Test.YtkicidfkmfkbhaaAwake
set_option maxRecDepth 1000000
namespace Go.AM
open Go
theorem decLow : upTo (fun k => isT (callF tab.get awakeI 100000 (.fn 3) [.int .i64 ((k : Nat) : Int)] .empty)) 3 = true := by kernel_rfl
theorem decNeg (m : Nat) : isT (callF tab.get awakeI 100000 (.fn 3) [.int .i64 (Int.negSucc m)] .empty) = true := by kernel_rfl
theorem decBig (m : Nat) : isT (callF tab.get awakeI 100000 (.fn 3) [.int .i64 (Int.ofNat (m + 257))] .empty) = true := by kernel_rfl
end Go.AM
