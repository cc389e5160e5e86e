/- Fundamental units from d = 241 on: closed runs. No condition. -/
import Derived.Test.YtemmnocgkgoegaaGreatFt
set_option maxRecDepth 1000000
namespace Go.AM
def ftl2 : List (Nat × Nat × Nat × Bool) := [(241, 142022136, 9148450, true), (248, 126, 8, false), (249, 17107630, 1084152, false), (253, 1861, 117, false), (257, 32, 2, true), (264, 130, 8, false), (265, 12144, 746, true), (268, 97684, 5967, false), (269, 164, 10, true), (273, 1454, 88, false), (277, 2613, 157, true), (280, 502, 30, false), (281, 2127064, 126890, true), (284, 6960, 413, false), (285, 17, 1, false), (293, 17, 1, true), (296, 86, 5, true), (301, 22745, 1311, false), (305, 978, 56, false), (309, 5045, 287, false), (312, 106, 6, false), (313, 253724736, 14341370, true), (316, 160, 9, false), (317, 89, 5, true)]
theorem ft2 : allF ftl2 = true := by kernel_rfl
end Go.AM
