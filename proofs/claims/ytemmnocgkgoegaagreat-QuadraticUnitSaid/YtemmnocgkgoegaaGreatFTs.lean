/- The table of the fundamental units. No condition. -/
import Derived.Test.YtemmnocgkgoegaaGreatFT0
import Derived.Test.YtemmnocgkgoegaaGreatFT1
import Derived.Test.YtemmnocgkgoegaaGreatFT2
import Derived.Test.YtemmnocgkgoegaaGreatFT3
import Derived.Test.YtemmnocgkgoegaaGreatFT4
import Derived.Test.YtemmnocgkgoegaaGreatFT5
import Derived.Test.YtemmnocgkgoegaaGreatFT6
import Derived.Test.YtemmnocgkgoegaaGreatFT7
import Derived.Test.YtemmnocgkgoegaaGreatFT8
import Derived.Test.YtemmnocgkgoegaaGreatFT9
import Derived.Test.YtemmnocgkgoegaaGreatFT10
import Derived.Test.YtemmnocgkgoegaaGreatFT11
import Derived.Test.YtemmnocgkgoegaaGreatFT12
import Derived.Test.YtemmnocgkgoegaaGreatFT13
import Derived.Test.YtemmnocgkgoegaaGreatFT14
import Derived.Test.YtemmnocgkgoegaaGreatFT15
namespace Go.AM
open Go
def ftl : List (Nat × Nat × Nat × Bool) := ftl0 ++ (ftl1 ++ (ftl2 ++ (ftl3 ++ (ftl4 ++ (ftl5 ++ (ftl6 ++ (ftl7 ++ (ftl8 ++ (ftl9 ++ (ftl10 ++ (ftl11 ++ (ftl12 ++ (ftl13 ++ (ftl14 ++ (ftl15)))))))))))))))
theorem ftl_mem (e : Nat × Nat × Nat × Bool) (h : e ∈ ftl) : fOK e.1 e.2.1 e.2.2.1 e.2.2.2 = true := by
  unfold ftl at h
  rcases List.mem_append.1 h with h | h
  · exact allF_mem ft0 e h
  rcases List.mem_append.1 h with h | h
  · exact allF_mem ft1 e h
  rcases List.mem_append.1 h with h | h
  · exact allF_mem ft2 e h
  rcases List.mem_append.1 h with h | h
  · exact allF_mem ft3 e h
  rcases List.mem_append.1 h with h | h
  · exact allF_mem ft4 e h
  rcases List.mem_append.1 h with h | h
  · exact allF_mem ft5 e h
  rcases List.mem_append.1 h with h | h
  · exact allF_mem ft6 e h
  rcases List.mem_append.1 h with h | h
  · exact allF_mem ft7 e h
  rcases List.mem_append.1 h with h | h
  · exact allF_mem ft8 e h
  rcases List.mem_append.1 h with h | h
  · exact allF_mem ft9 e h
  rcases List.mem_append.1 h with h | h
  · exact allF_mem ft10 e h
  rcases List.mem_append.1 h with h | h
  · exact allF_mem ft11 e h
  rcases List.mem_append.1 h with h | h
  · exact allF_mem ft12 e h
  rcases List.mem_append.1 h with h | h
  · exact allF_mem ft13 e h
  rcases List.mem_append.1 h with h | h
  · exact allF_mem ft14 e h
  exact allF_mem ft15 e h
end Go.AM
