/- QuadraticUnits: the law's code answers true. No condition. -/
import Derived.Test.YtemmnocgkgoegaaUR0
import Derived.Test.YtemmnocgkgoegaaUR1
import Derived.Test.YtemmnocgkgoegaaUR2
import Derived.Test.YtemmnocgkgoegaaUR3
import Derived.Test.YtemmnocgkgoegaaUR4
import Derived.Test.YtemmnocgkgoegaaUR5
import Derived.Test.YtemmnocgkgoegaaUR6
import Derived.Test.YtemmnocgkgoegaaUR7
import Derived.Test.YtemmnocgkgoegaaUR8
import Derived.Test.YtemmnocgkgoegaaUR9
import Derived.Test.YtemmnocgkgoegaaUR10
import Derived.Test.YtemmnocgkgoegaaUR11
import Derived.Test.YtemmnocgkgoegaaUR12
import Derived.Test.YtemmnocgkgoegaaUR13
import Derived.Test.YtemmnocgkgoegaaUR14
import Derived.Test.YtemmnocgkgoegaaUR15
import Derived.Test.YtemmnocgkgoegaaUR16
import Derived.Test.YtemmnocgkgoegaaUR17
import Derived.Test.YtemmnocgkgoegaaUR18
import Derived.Test.YtemmnocgkgoegaaUnLaw
namespace Go.AM
open Go
theorem ur_all (d : Nat) (hd : d ≤ 1000) : ∃ h', callF otab.get U15 100000 (.fn 4) [.int .i64 (d : Int)] .empty = some (.bool true, h') := by
  by_cases h0 : d < 124
  · exact rng_spec ur0 d (by omega) (by omega)
  by_cases h1 : d < 201
  · exact rng_spec ur1 d (by omega) (by omega)
  by_cases h2 : d < 268
  · exact rng_spec ur2 d (by omega) (by omega)
  by_cases h3 : d < 337
  · exact rng_spec ur3 d (by omega) (by omega)
  by_cases h4 : d < 393
  · exact rng_spec ur4 d (by omega) (by omega)
  by_cases h5 : d < 444
  · exact rng_spec ur5 d (by omega) (by omega)
  by_cases h6 : d < 493
  · exact rng_spec ur6 d (by omega) (by omega)
  by_cases h7 : d < 553
  · exact rng_spec ur7 d (by omega) (by omega)
  by_cases h8 : d < 601
  · exact rng_spec ur8 d (by omega) (by omega)
  by_cases h9 : d < 641
  · exact rng_spec ur9 d (by omega) (by omega)
  by_cases h10 : d < 673
  · exact rng_spec ur10 d (by omega) (by omega)
  by_cases h11 : d < 716
  · exact rng_spec ur11 d (by omega) (by omega)
  by_cases h12 : d < 757
  · exact rng_spec ur12 d (by omega) (by omega)
  by_cases h13 : d < 796
  · exact rng_spec ur13 d (by omega) (by omega)
  by_cases h14 : d < 849
  · exact rng_spec ur14 d (by omega) (by omega)
  by_cases h15 : d < 881
  · exact rng_spec ur15 d (by omega) (by omega)
  by_cases h16 : d < 921
  · exact rng_spec ur16 d (by omega) (by omega)
  by_cases h17 : d < 956
  · exact rng_spec ur17 d (by omega) (by omega)
  exact rng_spec ur18 d (by omega) (by omega)
end Go.AM
namespace Go.AM
open Go
theorem unLaw (d : Int) : ∃ n h', callF tab.get U15 n (.fn 4) [.int .i64 d] .empty = some (.bool true, h') := by
  by_cases hd : d < 0 ∨ 1000 < d
  · obtain ⟨h', e⟩ := unLaw_err hd
    obtain ⟨n, e⟩ := lim_opt otabOK e
    exact ⟨n, h', e⟩
  · obtain ⟨k, rfl⟩ := Int.eq_ofNat_of_zero_le (show 0 ≤ d by omega)
    obtain ⟨h', e⟩ := ur_all k (by omega)
    exact ⟨_, h', callF_opt otabOK _ _ _ _ _ e⟩
end Go.AM
