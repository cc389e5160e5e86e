/- The check of a part of the table of units. No condition. -/
import Derived.Test.YtemmnocgkgoegaaGreatCk
import Derived.Test.YtemmnocgkgoegaaGreatFT12
import Derived.Test.YtemmnocgkgoegaaGreatFT13
import Derived.Test.YtemmnocgkgoegaaGreatFT14
import Derived.Test.YtemmnocgkgoegaaGreatFT15
set_option maxRecDepth 1000000
namespace Go.AM
theorem ck12 : allK ftl12 = true := by kernel_rfl
theorem ck13 : allK ftl13 = true := by kernel_rfl
theorem ck14 : allK ftl14 = true := by kernel_rfl
theorem ck15 : allK ftl15 = true := by kernel_rfl
end Go.AM
