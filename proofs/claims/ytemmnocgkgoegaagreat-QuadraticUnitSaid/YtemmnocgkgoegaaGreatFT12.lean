/- Fundamental units from d = 821 on: closed runs. No condition. -/
import Derived.Test.YtemmnocgkgoegaaGreatFt
set_option maxRecDepth 1000000
namespace Go.AM
def ftl12 : List (Nat × Nat × Nat × Bool) := [(821, 16189, 565, true), (824, 119070, 4148, false), (829, 30978564, 1075930, true), (840, 58, 2, false), (844, 556708747300, 19162705353, false), (849, 3003309425897390, 103073312660952, false), (853, 27483, 941, true), (856, 1390718379850, 47533775646, false), (857, 16237136, 554650, true), (860, 88, 3, false), (861, 1027, 35, false), (865, 696690216, 23688178, true)]
theorem ft12 : allF ftl12 = true := by kernel_rfl
end Go.AM
