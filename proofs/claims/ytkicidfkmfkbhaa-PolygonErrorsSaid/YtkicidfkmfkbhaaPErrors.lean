/- PolygonErrors returns true for every input. No condition. -/
import Derived.Test.YtkicidfkmfkbhaaRows
import Derived.Test.YtkicidfkmfkbhaaAm24
import Derived.Test.YtkicidfkmfkbhaaErrA
import Derived.Test.YtkicidfkmfkbhaaErrB
import Derived.Test.YtkicidfkmfkbhaaErrC
import Derived.Test.YtkicidfkmfkbhaaErrD
import Derived.Test.YtkicidfkmfkbhaaErrE
import Derived.Test.YtkicidfkmfkbhaaErrF0
import Derived.Test.YtkicidfkmfkbhaaErrF1
import Derived.Test.YtkicidfkmfkbhaaErrF2
import Derived.WalkKit
import Derived.ProofKit
import Derived.OpenShut
namespace Go.Proofs.Ytkicidfkmfkbhaa.polygonErrors
open Go.ChangeShapes Go.WideShapes Go.ChangeAt Go.RowKit
set_option linter.unusedVariables false      -- a walk need not use every 'w<i>' (that an integer argument fits its kind)

theorem own : ownKnob Try.prog.godebug = none := by kernel_rfl

theorem walk (a0 : Int) (w0 : (Lit.int .i64 a0).wf = true) (w : World) :
    Calls Try.prog 7 #[.int .i64 a0] w fun e w' => e = .returned (.bool true) ∧ Below w.heap.size w w' := by
  obtain ⟨f, hf⟩ : ∃ f : Int → Bool, f = AM.errRun := ⟨_, rfl⟩
  have e3 : f ((3 : Nat) : Int) = true := by subst hf; exact AM.err3
  have e4 : f ((4 : Nat) : Int) = true := by subst hf; exact AM.err4
  have e5 : f ((5 : Nat) : Int) = true := by subst hf; exact AM.err5
  have e6 : f ((6 : Nat) : Int) = true := by subst hf; exact AM.err6
  have e7 : f ((7 : Nat) : Int) = true := by subst hf; exact AM.err7
  have e8 : f ((8 : Nat) : Int) = true := by subst hf; exact AM.err8
  have e9 : f ((9 : Nat) : Int) = true := by subst hf; exact AM.err9
  have e10 : f ((10 : Nat) : Int) = true := by subst hf; exact AM.err10
  have e12 : f ((12 : Nat) : Int) = true := by subst hf; exact AM.err12
  have e14 : f ((14 : Nat) : Int) = true := by subst hf; exact AM.err14
  have e15 : f ((15 : Nat) : Int) = true := by subst hf; exact AM.err15
  have e16 : f ((16 : Nat) : Int) = true := by subst hf; exact AM.err16
  have e17 : f ((17 : Nat) : Int) = true := by subst hf; exact AM.err17
  have e20 : f ((20 : Nat) : Int) = true := by subst hf; exact AM.err20
  have hF : ∀ k : Nat, AM.errF k = true → f (k : Int) = true := by
    intro k h
    subst hf
    have h' : Bool.rec (motive := fun _ => Bool) (AM.errRun (k : Int)) true (AM.memb k AM.errH) = true := h
    cases hb : AM.memb k AM.errH with
    | false => rw [hb] at h'; exact h'
    | true =>
      have hm : k ∈ AM.errH := AM.memb_spec hb
      simp only [AM.errH, List.mem_cons, List.not_mem_nil, or_false] at hm
      rcases hm with rfl | rfl | rfl | rfl | rfl | rfl | rfl | rfl | rfl | rfl | rfl | rfl | rfl | rfl
      · exact e3
      · exact e4
      · exact e5
      · exact e6
      · exact e7
      · exact e8
      · exact e9
      · exact e10
      · exact e12
      · exact e14
      · exact e15
      · exact e16
      · exact e17
      · exact e20
  obtain ⟨g, hg⟩ : ∃ g : Nat → Bool, g = AM.errF := ⟨_, rfl⟩
  rw [← hg] at hF
  have g0 : AM.upTo (fun k => g (0 + k)) 43 = true := by subst hg; exact AM.errs0
  have g1 : AM.upTo (fun k => g (43 + k)) 43 = true := by subst hg; exact AM.errs1
  have g2 : AM.upTo (fun k => g (86 + k)) 43 = true := by subst hg; exact AM.errs2
  have g3 : AM.upTo (fun k => g (129 + k)) 43 = true := by subst hg; exact AM.errs3
  have g4 : AM.upTo (fun k => g (172 + k)) 43 = true := by subst hg; exact AM.errs4
  have g5 : AM.upTo (fun k => g (215 + k)) 43 = true := by subst hg; exact AM.errs5
  have gn : ∀ m : Nat, f (Int.negSucc m) = true := by subst hf; exact AM.errNeg
  have gb : ∀ m : Nat, f (Int.ofNat (m + 257)) = true := by subst hf; exact AM.errBig
  have hrun : f a0 = true := by
    have pick : ∀ (lo k : Nat), lo ≤ k → k < lo + 43 → AM.upTo (fun k => g (lo + k)) 43 = true → f ((k : Nat) : Int) = true := by
      intro lo k h1 h2 h
      have := AM.upTo_spec h (k - lo) (by omega)
      rw [show lo + (k - lo) = k by omega] at this
      exact hF k this
    by_cases hneg : a0 < 0
    · obtain ⟨m, rfl⟩ := Int.eq_negSucc_of_lt_zero hneg
      exact gn m
    obtain ⟨k, rfl⟩ := Int.eq_ofNat_of_zero_le (Int.not_lt.1 hneg)
    by_cases c0 : k < 43
    · exact pick 0 k (by omega) (by omega) g0
    by_cases c1 : k < 86
    · exact pick 43 k (by omega) (by omega) g1
    by_cases c2 : k < 129
    · exact pick 86 k (by omega) (by omega) g2
    by_cases c3 : k < 172
    · exact pick 129 k (by omega) (by omega) g3
    by_cases c4 : k < 215
    · exact pick 172 k (by omega) (by omega) g4
    by_cases c5 : k < 258
    · exact pick 215 k (by omega) (by omega) g5
    have h := gb (k - 257)
    rw [show k - 257 + 257 = k by omega] at h
    exact h
  rw [hf] at hrun
  obtain ⟨h', e⟩ := AM.errRun_ok hrun
  exact AM.calls_plain AM.mixed AM.tabOK AM.awakeOK e (.cons (.int _ _) .nil) (fn := AM.af7) rfl w
/-! ### THE ROW's STEP: WRITTEN OUT: LEAVE IT -/
set_option maxRecDepth 100000 in
theorem lifted (os : Os) (started : os.Started) (H : Type) (enc : TypeId × Value → H) :
    ReturnsInHanded {} Try.checked os 7 .any (Rows.polygonErrorsSpec.pre6 enc Try.prog Try.f7 Rows.polygonErrorsRow.domain false) (Rows.polygonErrorsSpec.post enc Try.prog Try.f7 false true false false) := by
  refine returnsInHanded_of_change (C := Try.checked) own started (by kernel_rfl) Try.func7
    (ChangeSpec.witness6 (enc := enc) (C := Try.checked) false ⟨#[], #[.int .i64 0], []⟩ 8 (by kernel_rfl) (by kernel_rfl) (by kernel_rfl) (by kernel_rfl)) ?_
  intro W base args ds gs before hval0 hW hcnd _
  have hval : ∀ (j : Nat) t v, Try.f7.params[j]? = some t → args[j]? = some v → Value.okWide Try.prog W .any base t v := hval0
  have hW' := hW
  obtain ⟨p, q, hA0, hV, rfl, hfz, hnd⟩ := hW
  have hA : DataW.TrodAll enc Try.prog W 0 (fun _ => true) true Try.f7.params.toList args.toList ds p := hA0
  rw [Try.params7] at hA hval
  obtain ⟨v0, vs0, d0, ds0, p0, q0, hargs, rfl, rfl, h0, r0⟩ := trodAll_cons hA
  obtain ⟨rfl, rfl, rfl⟩ := trodAll_nil r0
  obtain rfl : args = #[v0] := by cases args; simp_all
  obtain ⟨rfl, rfl⟩ := trodVars_none hV
  obtain ⟨a0, rfl, rfl, rfl, w0⟩ := open_int Try.underlying3 (hval 0 3 v0 rfl rfl) h0
  clear hA0 hval0
  simp only [List.append_nil] at hW'
  refine (walk a0 w0 W).mono fun e W' ⟨he, hg⟩ => ?_
  subst he
  exact ⟨_, rfl, AM.post_of_below (pa := []) (pv := []) hW' (fun _ _ _ => (trodAll_cons_mk (shut_bool Try.underlying4 _) trodAll_mk0)) (fun sp _ => (trodAll_cons_mk (shut_int Try.underlying3 w0) trodAll_mk0)) (fun _ _ => rfl) rfl
    hg (ok_one (by kernel_rfl) rfl (okWide_bool_mk Try.underlying4 _))⟩

theorem over : Rows.polygonErrorsRow.holds Try.pinned (OpenSpec.ofChange Rows.polygonErrorsSpec) :=
  OpenClaim.holds_of_wide 7 Try.f7 rfl rfl rfl rfl rfl rfl rfl ⟨rfl, rfl, rfl, rfl, rfl⟩ rfl rfl rfl rfl rfl (by kernel_rfl) Try.func7 (by kernel_rfl)
    (of_decide_eq_true (by kernel_rfl)) (by unfold Func.isWrapper; first | (rw [if_pos (by decide +kernel)]; kernel_rfl) | (rw [if_neg (by decide +kernel)]; exact ⟨rfl, rfl⟩))
    (fun os started H enc _ => lifted os started H enc)

/-- ████ THE STATEMENT ████ -/
theorem proved : Rows.PolygonErrorsSaid :=
  over
end Go.Proofs.Ytkicidfkmfkbhaa.polygonErrors
