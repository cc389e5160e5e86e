/- Fundamental units from d = 633 on: closed runs. No condition. -/
import Derived.Test.YtemmnocgkgoegaaGreatFt
set_option maxRecDepth 1000000
namespace Go.AM
def ftl8 : List (Nat × Nat × Nat × Bool) := [(633, 881544494, 35038248, false), (636, 2648, 105, false), (641, 72241666936, 2853374290, true), (645, 127, 5, false), (649, 2247186452324398, 88209784190760, false), (652, 128160052, 5019135, false), (653, 1661, 65, true), (661, 1789539, 69605, true), (664, 3401805130, 132015642, false), (665, 27438, 1064, false), (668, 336, 13, false), (669, 305285, 11803, false)]
theorem ft8 : allF ftl8 = true := by kernel_rfl
end Go.AM
