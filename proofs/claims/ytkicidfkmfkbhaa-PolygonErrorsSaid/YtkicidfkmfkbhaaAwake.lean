/- The worked examples of the chapter hold: one closed run. No condition. -/
import Derived.Test.YtkicidfkmfkbhaaTab
set_option maxRecDepth 1000000
namespace Go.AM
open Go
abbrev noI : Oracle := fun _ _ _ => none
noncomputable def isT (r : Option (AV × AHeap)) : Bool := match r with | some (.bool b, _) => b | _ => false
theorem isT_eq {r : Option (AV × AHeap)} (h : isT r = true) : ∃ h', r = some (.bool true, h') := by
  unfold isT at h
  split at h
  · subst h; exact ⟨_, rfl⟩
  · cases h
noncomputable def upTo (f : Nat → Bool) (n : Nat) : Bool := Nat.rec (motive := fun _ => Bool) true (fun k ih => Bool.rec (motive := fun _ => Bool) false ih (f k)) n
theorem upTo_spec {f : Nat → Bool} : ∀ {n : Nat}, upTo f n = true → ∀ k, k < n → f k = true
  | 0, _, k, hk => by omega
  | n + 1, h, k, hk => by
    have h' : Bool.rec (motive := fun _ => Bool) false (upTo f n) (f n) = true := h
    cases hf : f n with
    | false => rw [hf] at h'; cases h'
    | true =>
      rw [hf] at h'
      by_cases e : k = n
      · rw [e]; exact hf
      · exact upTo_spec h' k (by omega)
theorem awake_run : isT (callF tab.get noI 100000 (.fn 11) [] .empty) = true := by kernel_rfl
def awakeS : List AV → Option AV := fun args => match args with | [] => some (.bool true) | _ => none
noncomputable def awakeI : Oracle := ext noI 11 awakeS
theorem awakeOK : IOK Go.Proofs.Try.prog awakeI := IOK.extend mixed tabOK IOK.none (g := 11) (fn := af11) rfl fun args av h => by
  unfold awakeS at h
  split at h <;> cases h
  obtain ⟨h', e⟩ := isT_eq awake_run
  exact ⟨rfl, rfl, _, h', e⟩
end Go.AM
