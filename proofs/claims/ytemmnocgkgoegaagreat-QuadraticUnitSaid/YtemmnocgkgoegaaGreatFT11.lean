/- Fundamental units from d = 769 on: closed runs. No condition. -/
import Derived.Test.YtemmnocgkgoegaaGreatFt
set_option maxRecDepth 1000000
namespace Go.AM
def ftl11 : List (Nat × Nat × Nat × Bool) := [(769, 32734748155099080, 1180445209689554, true), (773, 139, 5, true), (776, 390, 14, false), (777, 446, 16, false), (780, 28, 1, false), (781, 135212398, 4838280, false), (785, 56, 2, true), (789, 31825, 1133, false), (793, 8786, 312, false), (796, 32532393040, 1153080099, false), (797, 367, 13, true), (805, 1447, 51, false), (808, 6282, 221, true), (809, 867704052080, 30506849866, true), (812, 114, 4, false), (813, 4334, 152, false), (817, 686, 24, false)]
theorem ft11 : allF ftl11 = true := by kernel_rfl
end Go.AM
