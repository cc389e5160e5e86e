/- Fundamental units from d = 673 on: closed runs. No condition. -/
import Derived.Test.YtemmnocgkgoegaaGreatFt
set_option maxRecDepth 1000000
namespace Go.AM
def ftl9 : List (Nat × Nat × Nat × Bool) := [(673, 97626910587864, 3763240848050, true), (677, 52, 2, true), (680, 26, 1, true), (681, 21486332006830, 823358031496, false), (685, 759, 29, true), (689, 210, 8, false), (696, 2902, 110, false), (697, 264, 10, true), (701, 23564, 890, true), (705, 474322, 17864, false), (709, 36490620, 1370434, true), (712, 3202, 120, false), (713, 10572734, 395952, false), (716, 8380420, 313191, false), (717, 241, 9, false)]
theorem ft9 : allF ftl9 = true := by kernel_rfl
end Go.AM
