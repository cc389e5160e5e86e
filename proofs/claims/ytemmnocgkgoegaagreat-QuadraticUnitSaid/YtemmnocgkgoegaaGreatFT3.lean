/- Fundamental units from d = 321 on: closed runs. No condition. -/
import Derived.Test.YtemmnocgkgoegaaGreatFt
set_option maxRecDepth 1000000
namespace Go.AM
def ftl3 : List (Nat × Nat × Nat × Bool) := [(321, 430, 24, false), (328, 18, 1, true), (329, 4752830, 262032, false), (332, 164, 9, false), (337, 2031654672, 110671282, true), (341, 277, 15, false), (344, 20810, 1122, false), (345, 13522, 728, false), (348, 56, 3, false), (349, 18420, 986, true), (353, 142528, 7586, true), (357, 19, 1, false), (364, 3148, 165, false), (365, 19, 1, true), (373, 10236, 530, true), (376, 4286590, 221064, false), (377, 466, 24, false), (380, 78, 4, false), (381, 2030, 104, false), (385, 191662, 9768, false), (389, 2564, 130, true), (393, 92874286, 4684888, false), (397, 3447, 173, true)]
theorem ft3 : allF ftl3 = true := by kernel_rfl
end Go.AM
