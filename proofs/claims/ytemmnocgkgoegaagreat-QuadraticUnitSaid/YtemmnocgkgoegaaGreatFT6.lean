/- Fundamental units from d = 521 on: closed runs. No condition. -/
import Derived.Test.YtemmnocgkgoegaaGreatFt
set_option maxRecDepth 1000000
namespace Go.AM
def ftl6 : List (Nat × Nat × Nat × Bool) := [(521, 256754480, 11248618, true), (524, 21220, 927, false), (533, 23, 1, true), (536, 291850, 12606, false), (537, 384698926, 16600984, false), (541, 1396425, 60037, true), (545, 3922, 168, false), (552, 94, 4, false), (553, 1249271674814, 53124435408, false), (556, 155126500, 6578829, false), (557, 236, 10, true), (561, 1045570, 44144, false), (565, 309, 13, true), (568, 286, 12, false), (569, 5789727664, 242718010, true), (572, 24, 1, false), (573, 766, 32, false), (577, 48, 2, true)]
theorem ft6 : allF ftl6 = true := by kernel_rfl
end Go.AM
