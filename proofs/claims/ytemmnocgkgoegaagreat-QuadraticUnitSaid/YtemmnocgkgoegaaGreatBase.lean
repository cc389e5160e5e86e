/- The functions without a body, and the chapter's worked examples: one closed run. No condition. -/
import Derived.Test.YtemmnocgkgoegaaGreatTab
import Derived.Test.YtemmnocgkgoegaaGreatAmB
set_option maxRecDepth 1000000
namespace Go.AM
open Go
noncomputable def baseI : Oracle := ext (ext (fun _ _ _ => none) 94 sub64S) 93 add64S
theorem baseOK : IOK Go.Proofs.Tryz.prog baseI :=
  IOK.extern (IOK.extern IOK.none (g := 94) (F := Go.Proofs.Tryz.f94) (e := sub64E) Go.Proofs.Tryz.func94 (by kernel_rfl) (by kernel_rfl) (by kernel_rfl) (by kernel_rfl) fun _ _ h => sub64_ok h)
    (g := 93) (F := Go.Proofs.Tryz.f93) (e := add64Entry) Go.Proofs.Tryz.func93 (by kernel_rfl) (by kernel_rfl) (by kernel_rfl) (by kernel_rfl) fun _ _ h => add64_ok h
noncomputable def isT (r : Option (AV × AHeap)) : Bool := match r with | some (.bool b, _) => b | _ => false
theorem isT_eq {r : Option (AV × AHeap)} (h : isT r = true) : ∃ h', r = some (.bool true, h') := by
  unfold isT at h
  split at h
  · subst h; exact ⟨_, rfl⟩
  · cases h
theorem awake_run : isT (callF tab.get baseI 100000 (.fn 5) [] .empty) = true := by kernel_rfl
def awakeS : List AV → Option AV := fun args => match args with | [] => some (.bool true) | _ => none
noncomputable def awakeI : Oracle := ext baseI 5 awakeS
theorem awakeOK : IOK Go.Proofs.Tryz.prog awakeI := IOK.extend mixed tabOK baseOK (g := 5) (fn := af5) rfl fun args av h => by
  unfold awakeS at h
  split at h <;> cases h
  obtain ⟨h', e⟩ := isT_eq awake_run
  exact ⟨rfl, rfl, _, h', e⟩
end Go.AM
