/- Fundamental units from d = 401 on: closed runs. No condition. -/
import Derived.Test.YtemmnocgkgoegaaGreatFt
set_option maxRecDepth 1000000
namespace Go.AM
def ftl4 : List (Nat × Nat × Nat × Bool) := [(401, 40, 2, true), (408, 202, 10, false), (409, 223843593936, 11068353370, true), (412, 455056, 22419, false), (413, 61, 3, false), (417, 170645294, 8356536, false), (421, 444939, 21685, true), (424, 8010, 389, true), (428, 1924, 93, false), (429, 145, 7, false), (433, 14461321368, 694966754, true), (437, 21, 1, false), (440, 42, 2, false), (444, 590, 28, false), (445, 21, 1, true), (449, 378942664, 17883410, true), (453, 149, 7, false), (456, 2050, 96, false)]
theorem ft4 : allF ftl4 = true := by kernel_rfl
end Go.AM
