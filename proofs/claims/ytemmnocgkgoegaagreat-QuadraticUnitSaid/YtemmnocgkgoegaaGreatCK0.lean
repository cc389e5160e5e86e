/- The check of a part of the table of units. No condition. -/
import Derived.Test.YtemmnocgkgoegaaGreatCk
import Derived.Test.YtemmnocgkgoegaaGreatFT0
import Derived.Test.YtemmnocgkgoegaaGreatFT1
import Derived.Test.YtemmnocgkgoegaaGreatFT2
import Derived.Test.YtemmnocgkgoegaaGreatFT3
set_option maxRecDepth 1000000
namespace Go.AM
theorem ck0 : allK ftl0 = true := by kernel_rfl
theorem ck1 : allK ftl1 = true := by kernel_rfl
theorem ck2 : allK ftl2 = true := by kernel_rfl
theorem ck3 : allK ftl3 = true := by kernel_rfl
end Go.AM
