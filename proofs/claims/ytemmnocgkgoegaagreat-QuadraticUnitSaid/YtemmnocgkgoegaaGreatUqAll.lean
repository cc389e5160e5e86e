/- The check of the whole table of units; what the law answers. No condition. -/
import Derived.Test.YtemmnocgkgoegaaGreatUqLaw
import Derived.Test.YtemmnocgkgoegaaGreatCK0
import Derived.Test.YtemmnocgkgoegaaGreatCK1
import Derived.Test.YtemmnocgkgoegaaGreatCK2
import Derived.Test.YtemmnocgkgoegaaGreatCK3
namespace Go.AM
open Go
theorem ck_all (e : Nat × Nat × Nat × Bool) (h : e ∈ ftl) : ∃ s, entK e.1 e.2.1 e.2.2.1 e.2.2.2 s = true := by
  unfold ftl at h
  rcases List.mem_append.1 h with h | h
  · exact ⟨_, allK_mem ck0 e h⟩
  rcases List.mem_append.1 h with h | h
  · exact ⟨_, allK_mem ck1 e h⟩
  rcases List.mem_append.1 h with h | h
  · exact ⟨_, allK_mem ck2 e h⟩
  rcases List.mem_append.1 h with h | h
  · exact ⟨_, allK_mem ck3 e h⟩
  rcases List.mem_append.1 h with h | h
  · exact ⟨_, allK_mem ck4 e h⟩
  rcases List.mem_append.1 h with h | h
  · exact ⟨_, allK_mem ck5 e h⟩
  rcases List.mem_append.1 h with h | h
  · exact ⟨_, allK_mem ck6 e h⟩
  rcases List.mem_append.1 h with h | h
  · exact ⟨_, allK_mem ck7 e h⟩
  rcases List.mem_append.1 h with h | h
  · exact ⟨_, allK_mem ck8 e h⟩
  rcases List.mem_append.1 h with h | h
  · exact ⟨_, allK_mem ck9 e h⟩
  rcases List.mem_append.1 h with h | h
  · exact ⟨_, allK_mem ck10 e h⟩
  rcases List.mem_append.1 h with h | h
  · exact ⟨_, allK_mem ck11 e h⟩
  rcases List.mem_append.1 h with h | h
  · exact ⟨_, allK_mem ck12 e h⟩
  rcases List.mem_append.1 h with h | h
  · exact ⟨_, allK_mem ck13 e h⟩
  rcases List.mem_append.1 h with h | h
  · exact ⟨_, allK_mem ck14 e h⟩
  exact ⟨_, allK_mem ck15 e h⟩
theorem uqAll {d : Int} (h0 : 0 ≤ d) : ∃ n h', callF tab.get D23 n (.fn 3) [.int .u16 d] .empty = some (.bool true, h') := by
  obtain ⟨h', e⟩ := uqLaw h0 ck_all
  obtain ⟨n, e⟩ := lim_opt otabOK e
  exact ⟨n, h', e⟩
end Go.AM
