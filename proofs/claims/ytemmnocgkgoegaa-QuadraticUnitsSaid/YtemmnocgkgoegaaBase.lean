/- The functions without a body, and the chapter's worked examples: one closed run. No condition. -/
import Derived.Test.YtemmnocgkgoegaaTab
import Derived.Test.YtemmnocgkgoegaaAmB
set_option maxRecDepth 1000000
namespace Go.AM
open Go
noncomputable def baseI : Oracle := ext (ext (fun _ _ _ => none) 109 sub64S) 108 add64S
theorem baseOK : IOK Go.Proofs.Try.prog baseI :=
  IOK.extern (IOK.extern IOK.none (g := 109) (F := Go.Proofs.Try.f109) (e := sub64E) Go.Proofs.Try.func109 (by kernel_rfl) (by kernel_rfl) (by kernel_rfl) (by kernel_rfl) fun _ _ h => sub64_ok h)
    (g := 108) (F := Go.Proofs.Try.f108) (e := add64Entry) Go.Proofs.Try.func108 (by kernel_rfl) (by kernel_rfl) (by kernel_rfl) (by kernel_rfl) fun _ _ h => add64_ok h
noncomputable def isT (r : Option (AV × AHeap)) : Bool := match r with | some (.bool b, _) => b | _ => false
theorem isT_eq {r : Option (AV × AHeap)} (h : isT r = true) : ∃ h', r = some (.bool true, h') := by
  unfold isT at h
  split at h
  · subst h; exact ⟨_, rfl⟩
  · cases h
theorem awake_run : isT (callF tab.get baseI 100000 (.fn 17) [] .empty) = true := by kernel_rfl
def awakeS : List AV → Option AV := fun args => match args with | [] => some (.bool true) | _ => none
noncomputable def awakeI : Oracle := ext baseI 17 awakeS
theorem awakeOK : IOK Go.Proofs.Try.prog awakeI := IOK.extend mixed tabOK baseOK (g := 17) (fn := af17) rfl fun args av h => by
  unfold awakeS at h
  split at h <;> cases h
  obtain ⟨h', e⟩ := isT_eq awake_run
  exact ⟨rfl, rfl, _, h', e⟩
end Go.AM
