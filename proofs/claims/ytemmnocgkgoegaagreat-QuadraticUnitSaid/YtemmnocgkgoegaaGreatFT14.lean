/- Fundamental units from d = 921 on: closed runs. No condition. -/
import Derived.Test.YtemmnocgkgoegaaGreatFt
set_option maxRecDepth 1000000
namespace Go.AM
def ftl14 : List (Nat × Nat × Nat × Bool) := [(921, 5044115425671470, 166209254278824, false), (924, 152, 5, false), (929, 162634172936, 5335854130, true), (933, 150526, 4928, false), (937, 980453390021592, 32030016105242, true), (940, 92, 3, false), (941, 1135, 37, true), (949, 32685, 1061, true), (952, 23326, 756, false), (953, 5493729488, 177959354, true), (956, 12390240, 400729, false), (957, 31, 1, false), (965, 31, 1, true), (969, 27177902, 873080, false)]
theorem ft14 : allF ftl14 = true := by kernel_rfl
end Go.AM
