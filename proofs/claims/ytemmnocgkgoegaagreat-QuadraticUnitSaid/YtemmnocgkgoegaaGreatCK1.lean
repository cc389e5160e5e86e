/- The check of a part of the table of units. No condition. -/
import Derived.Test.YtemmnocgkgoegaaGreatCk
import Derived.Test.YtemmnocgkgoegaaGreatFT4
import Derived.Test.YtemmnocgkgoegaaGreatFT5
import Derived.Test.YtemmnocgkgoegaaGreatFT6
import Derived.Test.YtemmnocgkgoegaaGreatFT7
set_option maxRecDepth 1000000
namespace Go.AM
theorem ck4 : allK ftl4 = true := by kernel_rfl
theorem ck5 : allK ftl5 = true := by kernel_rfl
theorem ck6 : allK ftl6 = true := by kernel_rfl
theorem ck7 : allK ftl7 = true := by kernel_rfl
end Go.AM
