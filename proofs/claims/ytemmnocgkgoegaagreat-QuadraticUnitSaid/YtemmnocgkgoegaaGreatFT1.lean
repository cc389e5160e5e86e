/- Fundamental units from d = 152 on: closed runs. No condition. -/
import Derived.Test.YtemmnocgkgoegaaGreatFt
set_option maxRecDepth 1000000
namespace Go.AM
def ftl1 : List (Nat × Nat × Nat × Bool) := [(152, 74, 6, false), (156, 50, 4, false), (157, 213, 17, true), (161, 23550, 1856, false), (165, 13, 1, false), (168, 26, 2, false), (172, 6964, 531, false), (173, 13, 1, true), (177, 124846, 9384, false), (181, 1305, 97, true), (184, 48670, 3588, false), (185, 136, 10, true), (188, 96, 7, false), (193, 3528264, 253970, true), (197, 28, 2, true), (201, 1030190, 72664, false), (204, 100, 7, false), (205, 43, 3, false), (209, 93102, 6440, false), (213, 73, 5, false), (217, 7688126, 521904, false), (220, 178, 12, false), (221, 15, 1, false), (229, 15, 1, true), (232, 198, 13, true), (233, 46312, 3034, true), (236, 1060, 69, false), (237, 77, 5, false)]
theorem ft1 : allF ftl1 = true := by kernel_rfl
end Go.AM
