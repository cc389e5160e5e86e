/- Fundamental units from d = 581 on: closed runs. No condition. -/
import Derived.Test.YtemmnocgkgoegaaGreatFt
set_option maxRecDepth 1000000
namespace Go.AM
def ftl7 : List (Nat × Nat × Nat × Bool) := [(581, 6725, 279, false), (584, 290, 12, false), (589, 4359377, 179625, false), (593, 1201264, 49330, true), (597, 9749, 399, false), (601, 278936607359064, 11378061539690, true), (604, 3456296080, 140634693, false), (609, 1211390, 49088, false), (613, 98763, 3989, true), (616, 42590, 1716, false), (617, 82019432, 3301978, true), (620, 498, 20, false), (629, 25, 1, true), (632, 15486, 616, false)]
theorem ft7 : allF ftl7 = true := by kernel_rfl
end Go.AM
