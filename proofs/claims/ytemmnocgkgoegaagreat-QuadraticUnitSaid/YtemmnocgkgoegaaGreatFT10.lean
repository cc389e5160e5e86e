/- Fundamental units from d = 721 on: closed runs. No condition. -/
import Derived.Test.YtemmnocgkgoegaaGreatFt
set_option maxRecDepth 1000000
namespace Go.AM
def ftl10 : List (Nat × Nat × Nat × Bool) := [(721, 37264353886584830, 1387797060244224, false), (728, 54, 2, false), (732, 974, 36, false), (733, 27, 1, true), (737, 505950766, 18636936, false), (741, 245, 9, false), (744, 15002, 550, false), (745, 25538002, 935640, false), (748, 3364, 123, false), (749, 12945, 473, false), (753, 617052055726, 22486626968, false), (757, 2738652, 99538, true), (760, 104042, 3774, false), (761, 1600, 58, true), (764, 17988000, 650783, false)]
theorem ft10 : allF ftl10 = true := by kernel_rfl
end Go.AM
