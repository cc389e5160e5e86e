/- Fundamental units from d = 457 on: closed runs. No condition. -/
import Derived.Test.YtemmnocgkgoegaaGreatFt
set_option maxRecDepth 1000000
namespace Go.AM
def ftl5 : List (Nat × Nat × Nat × Bool) := [(457, 118179903168, 5528222698, true), (460, 2252, 105, false), (461, 365, 17, true), (465, 31742, 1472, false), (469, 65, 3, false), (472, 613834, 28254, false), (473, 174, 8, false), (476, 240, 11, false), (481, 1928280, 87922, true), (485, 44, 2, true), (488, 22, 1, true), (489, 15185259950, 686701192, false), (492, 244, 11, false), (493, 111, 5, true), (497, 2403774, 107824, false), (501, 28225, 1261, false), (505, 1618, 72, false), (508, 9461248, 419775, false), (509, 925, 41, true), (517, 10573, 465, false), (520, 114, 5, true)]
theorem ft5 : allF ftl5 = true := by kernel_rfl
end Go.AM
