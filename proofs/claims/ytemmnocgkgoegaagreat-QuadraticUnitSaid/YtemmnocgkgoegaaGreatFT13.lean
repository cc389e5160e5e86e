/- Fundamental units from d = 869 on: closed runs. No condition. -/
import Derived.Test.YtemmnocgkgoegaaGreatFt
set_option maxRecDepth 1000000
namespace Go.AM
def ftl13 : List (Nat × Nat × Nat × Bool) := [(869, 49377, 1675, false), (872, 502, 17, true), (876, 148, 5, false), (877, 482652, 16298, true), (881, 212632342864, 7163765650, true), (885, 238, 8, false), (888, 298, 10, false), (889, 26463949435607314430, 887572376826907008, false), (892, 448, 15, false), (893, 2301, 77, false), (897, 1198, 40, false), (901, 60, 2, true), (904, 30, 1, true), (905, 722, 24, false), (908, 452, 15, false), (913, 1031468486160814, 34136624503128, false), (917, 1181, 39, false), (920, 182, 6, false)]
theorem ft13 : allF ftl13 = true := by kernel_rfl
end Go.AM
