/- Fundamental units from d = 5 on: closed runs. No condition. -/
import Derived.Test.YtemmnocgkgoegaaGreatFt
set_option maxRecDepth 1000000
namespace Go.AM
def ftl0 : List (Nat × Nat × Nat × Bool) := [(5, 1, 1, true), (8, 2, 1, true), (12, 4, 1, false), (13, 3, 1, true), (17, 8, 2, true), (21, 5, 1, false), (24, 10, 2, false), (28, 16, 3, false), (29, 5, 1, true), (33, 46, 8, false), (37, 12, 2, true), (40, 6, 1, true), (41, 64, 10, true), (44, 20, 3, false), (53, 7, 1, true), (56, 30, 4, false), (57, 302, 40, false), (60, 8, 1, false), (61, 39, 5, true), (65, 16, 2, true), (69, 25, 3, false), (73, 2136, 250, true), (76, 340, 39, false), (77, 9, 1, false), (85, 9, 1, true), (88, 394, 42, false), (89, 1000, 106, true), (92, 48, 5, false), (93, 29, 3, false), (97, 11208, 1138, true), (101, 20, 2, true), (104, 10, 1, true), (105, 82, 8, false), (109, 261, 25, true), (113, 1552, 146, true), (120, 22, 2, false), (124, 3040, 273, false), (129, 33710, 2968, false), (133, 173, 15, false), (136, 70, 6, false), (137, 3488, 298, true), (140, 12, 1, false), (141, 190, 16, false), (145, 24, 2, true), (149, 61, 5, true)]
theorem ft0 : allF ftl0 = true := by kernel_rfl
end Go.AM
