/- PolygonGauss returns true for every input. No condition. -/
import Derived.Test.YtkicidfkmfkbhaaRows
import Derived.Test.YtkicidfkmfkbhaaAm24
import Derived.Test.YtkicidfkmfkbhaaGauss0
import Derived.Test.YtkicidfkmfkbhaaGauss1
import Derived.Test.YtkicidfkmfkbhaaGauss2
import Derived.Test.YtkicidfkmfkbhaaGauss3
import Derived.WalkKit
import Derived.ProofKit
import Derived.OpenShut
namespace Go.Proofs.Ytkicidfkmfkbhaa.polygonGauss
open Go.ChangeShapes Go.WideShapes Go.ChangeAt Go.RowKit
set_option linter.unusedVariables false      -- a walk need not use every 'w<i>' (that an integer argument fits its kind)

theorem own : ownKnob Try.prog.godebug = none := by kernel_rfl

theorem walk (a0 : Int) (w0 : (Lit.int .u8 a0).wf = true) (w : World) :
    Calls Try.prog 5 #[.int .u8 a0] w fun e w' => e = .returned (.bool true) ∧ Below w.heap.size w w' := by
  obtain ⟨k, hk, rfl⟩ := AM.u8_of w0
  have hrun : AM.isT (AM.callF AM.tab.get AM.awakeI 100000 (.fn 5) [.int .u8 ((k : Nat) : Int)] .empty) = true := by
    have pick : ∀ lo, lo ≤ k → k < lo + 32 → AM.upTo (fun k => AM.isT (AM.callF AM.tab.get AM.awakeI 100000 (.fn 5) [.int .u8 ((lo + k : Nat) : Int)] .empty)) 32 = true →
        AM.isT (AM.callF AM.tab.get AM.awakeI 100000 (.fn 5) [.int .u8 ((k : Nat) : Int)] .empty) = true := by
      intro lo h1 h2 h
      have := AM.upTo_spec h (k - lo) (by omega)
      rw [show lo + (k - lo) = k by omega] at this
      exact this
    by_cases c0 : k < 32
    · exact pick 0 (by omega) (by omega) AM.gauss0
    by_cases c1 : k < 64
    · exact pick 32 (by omega) (by omega) AM.gauss1
    by_cases c2 : k < 96
    · exact pick 64 (by omega) (by omega) AM.gauss2
    by_cases c3 : k < 128
    · exact pick 96 (by omega) (by omega) AM.gauss3
    by_cases c4 : k < 160
    · exact pick 128 (by omega) (by omega) AM.gauss4
    by_cases c5 : k < 192
    · exact pick 160 (by omega) (by omega) AM.gauss5
    by_cases c6 : k < 224
    · exact pick 192 (by omega) (by omega) AM.gauss6
    · exact pick 224 (by omega) (by omega) AM.gauss7
  obtain ⟨h', e⟩ := AM.isT_eq hrun
  exact AM.calls_plain AM.mixed AM.tabOK AM.awakeOK e (.cons (.int _ _) .nil) (fn := AM.af5) rfl w

/-! ### THE ROW's STEP: WRITTEN OUT: LEAVE IT -/
set_option maxRecDepth 100000 in
theorem lifted (os : Os) (started : os.Started) (H : Type) (enc : TypeId × Value → H) :
    ReturnsInHanded {} Try.checked os 5 .any (Rows.polygonGaussSpec.pre6 enc Try.prog Try.f5 Rows.polygonGaussRow.domain false) (Rows.polygonGaussSpec.post enc Try.prog Try.f5 false true false false) := by
  refine returnsInHanded_of_change (C := Try.checked) own started (by kernel_rfl) Try.func5
    (ChangeSpec.witness6 (enc := enc) (C := Try.checked) false ⟨#[], #[.int .u8 0], []⟩ 8 (by kernel_rfl) (by kernel_rfl) (by kernel_rfl) (by kernel_rfl)) ?_
  intro W base args ds gs before hval0 hW hcnd _
  have hval : ∀ (j : Nat) t v, Try.f5.params[j]? = some t → args[j]? = some v → Value.okWide Try.prog W .any base t v := hval0
  have hW' := hW
  obtain ⟨p, q, hA0, hV, rfl, hfz, hnd⟩ := hW
  have hA : DataW.TrodAll enc Try.prog W 0 (fun _ => true) true Try.f5.params.toList args.toList ds p := hA0
  rw [Try.params5] at hA hval
  obtain ⟨v0, vs0, d0, ds0, p0, q0, hargs, rfl, rfl, h0, r0⟩ := trodAll_cons hA
  obtain ⟨rfl, rfl, rfl⟩ := trodAll_nil r0
  obtain rfl : args = #[v0] := by cases args; simp_all
  obtain ⟨rfl, rfl⟩ := trodVars_none hV
  obtain ⟨a0, rfl, rfl, rfl, w0⟩ := open_int Try.underlying5 (hval 0 5 v0 rfl rfl) h0
  clear hA0 hval0
  simp only [List.append_nil] at hW'
  refine (walk a0 w0 W).mono fun e W' ⟨he, hg⟩ => ?_
  subst he
  exact ⟨_, rfl, AM.post_of_below (pa := []) (pv := []) hW' (fun _ _ _ => (trodAll_cons_mk (shut_bool Try.underlying4 _) trodAll_mk0)) (fun sp _ => (trodAll_cons_mk (shut_int Try.underlying5 w0) trodAll_mk0)) (fun _ _ => rfl) rfl
    hg (ok_one (by kernel_rfl) rfl (okWide_bool_mk Try.underlying4 _))⟩

theorem over : Rows.polygonGaussRow.holds Try.pinned (OpenSpec.ofChange Rows.polygonGaussSpec) :=
  OpenClaim.holds_of_wide 5 Try.f5 rfl rfl rfl rfl rfl rfl rfl ⟨rfl, rfl, rfl, rfl, rfl⟩ rfl rfl rfl rfl rfl (by kernel_rfl) Try.func5 (by kernel_rfl)
    (of_decide_eq_true (by kernel_rfl)) (by unfold Func.isWrapper; first | (rw [if_pos (by decide +kernel)]; kernel_rfl) | (rw [if_neg (by decide +kernel)]; exact ⟨rfl, rfl⟩))
    (fun os started H enc _ => lifted os started H enc)

/-- ████ THE STATEMENT ████ -/
theorem proved : Rows.PolygonGaussSaid :=
  over
end Go.Proofs.Ytkicidfkmfkbhaa.polygonGauss
