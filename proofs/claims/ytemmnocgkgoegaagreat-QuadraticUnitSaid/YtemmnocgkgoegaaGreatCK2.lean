/- The check of a part of the table of units. No condition. -/
import Derived.Test.YtemmnocgkgoegaaGreatCk
import Derived.Test.YtemmnocgkgoegaaGreatFT8
import Derived.Test.YtemmnocgkgoegaaGreatFT9
import Derived.Test.YtemmnocgkgoegaaGreatFT10
import Derived.Test.YtemmnocgkgoegaaGreatFT11
set_option maxRecDepth 1000000
namespace Go.AM
theorem ck8 : allK ftl8 = true := by kernel_rfl
theorem ck9 : allK ftl9 = true := by kernel_rfl
theorem ck10 : allK ftl10 = true := by kernel_rfl
theorem ck11 : allK ftl11 = true := by kernel_rfl
end Go.AM
