/- Fundamental units from d = 973 on: closed runs. No condition. -/
import Derived.Test.YtemmnocgkgoegaaGreatFt
set_option maxRecDepth 1000000
namespace Go.AM
def ftl15 : List (Nat × Nat × Nat × Bool) := [(973, 1806446, 57912, false), (977, 14753497736, 472006210, true), (984, 177610, 5662, false), (985, 816, 26, true), (988, 170584, 5427, false), (989, 103245, 3283, false), (993, 5294, 168, false), (997, 169812, 5378, true)]
theorem ft15 : allF ftl15 = true := by kernel_rfl
end Go.AM
