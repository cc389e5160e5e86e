/- PolygonErrors: a run as a Boolean; the numbers with great figures. No condition. -/
import Derived.Test.YtkicidfkmfkbhaaAwake
import Derived.Test.YtkicidfkmfkbhaaOfTab
set_option maxRecDepth 1000000
namespace Go.AM
open Go
noncomputable def errRun (n : Int) : Bool := isT (callF otab.get awakeI 100000 (.fn 7) [.int .i64 n] .empty)
theorem errRun_ok {n : Int} (h : errRun n = true) : ∃ h', callF tab.get awakeI 100000 (.fn 7) [.int .i64 n] .empty = some (.bool true, h') := by
  obtain ⟨h', e⟩ := isT_eq h
  exact ⟨h', callF_opt otabOK 100000 _ _ _ _ e⟩
def errH : List Nat := [3, 4, 5, 6, 7, 8, 9, 10, 12, 14, 15, 16, 17, 20]
noncomputable def memb (k : Nat) (l : List Nat) : Bool := List.rec (motive := fun _ => Bool) false (fun x _ ih => Bool.rec (motive := fun _ => Bool) ih true (Nat.beq k x)) l
theorem memb_spec {k : Nat} : ∀ {l : List Nat}, memb k l = true → k ∈ l
  | [], h => by cases h
  | x :: r, h => by
    have h' : Bool.rec (motive := fun _ => Bool) (memb k r) true (Nat.beq k x) = true := h
    cases hb : Nat.beq k x with
    | true => rw [Nat.eq_of_beq_eq_true hb]; exact .head _
    | false => rw [hb] at h'; exact .tail _ (memb_spec h')
theorem errNeg (m : Nat) : errRun (Int.negSucc m) = true := by kernel_rfl
theorem errBig (m : Nat) : errRun (Int.ofNat (m + 257)) = true := by kernel_rfl
noncomputable def errF (k : Nat) : Bool := Bool.rec (motive := fun _ => Bool) (errRun (k : Int)) true (memb k errH)
end Go.AM
