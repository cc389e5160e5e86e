/- Fundamental units: closed runs, one after another. No condition. -/
import Derived.Test.YtemmnocgkgoegaaGreatUnm
namespace Go.AM
open Go
/-- what Fundamental answers -/
noncomputable def fuV (t u : Nat) (neg : Bool) : AV := .tup [.agg [.bool false, .str (nb t), .bool false, .str (nb u)], .int .i64 (Bool.rec (motive := fun _ => Int) 1 (-1) neg), .int .i64 0]
noncomputable def fOK (d t u : Nat) (neg : Bool) : Bool := match callF otab.get U15 100000 (.fn 6) [.int .i64 (Int.ofNat d)] .empty with
  | some (v, _) => AV.beq v (fuV t u neg)
  | none => false
noncomputable def allF (l : List (Nat × Nat × Nat × Bool)) : Bool := List.rec (motive := fun _ => Bool) true (fun e _ ih => Bool.rec (motive := fun _ => Bool) false ih (fOK e.1 e.2.1 e.2.2.1 e.2.2.2)) l
theorem allF_mem : ∀ {l : List (Nat × Nat × Nat × Bool)}, allF l = true → ∀ e ∈ l, fOK e.1 e.2.1 e.2.2.1 e.2.2.2 = true
  | [], _, e, h => nomatch h
  | x :: r, ha, e, h => by
    have h' : Bool.rec (motive := fun _ => Bool) false (allF r) (fOK x.1 x.2.1 x.2.2.1 x.2.2.2) = true := ha
    cases hf : fOK x.1 x.2.1 x.2.2.1 x.2.2.2 with
    | false => rw [hf] at h'; cases h'
    | true =>
      rw [hf] at h'
      rcases List.mem_cons.1 h with c | c
      · subst c; exact hf
      · exact allF_mem h' e c
end Go.AM
