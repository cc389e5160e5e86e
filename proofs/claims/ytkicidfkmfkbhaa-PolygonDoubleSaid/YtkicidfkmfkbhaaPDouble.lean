/- PolygonDouble returns true for every input. No condition. -/
import Derived.Test.YtkicidfkmfkbhaaRows
import Derived.Test.YtkicidfkmfkbhaaAm24
import Derived.Test.YtkicidfkmfkbhaaDbl0
import Derived.Test.YtkicidfkmfkbhaaDbl1
import Derived.Test.YtkicidfkmfkbhaaDbl2
import Derived.Test.YtkicidfkmfkbhaaDbl3
import Derived.WalkKit
import Derived.ProofKit
import Derived.OpenShut
namespace Go.Proofs.Ytkicidfkmfkbhaa.polygonDouble
open Go.ChangeShapes Go.WideShapes Go.ChangeAt Go.RowKit
set_option linter.unusedVariables false      -- a walk need not use every 'w<i>' (that an integer argument fits its kind)

theorem own : ownKnob Try.prog.godebug = none := by kernel_rfl

theorem walk (a0 : Int) (a1 : Int) (w0 : (Lit.int .u8 a0).wf = true) (w1 : (Lit.int .u8 a1).wf = true) (w : World) :
    Calls Try.prog 6 #[.int .u8 a0, .int .u8 a1] w fun e w' => e = .returned (.bool true) ∧ Below w.heap.size w w' := by
  obtain ⟨i, hi, rfl⟩ := AM.u8_of w0
  obtain ⟨j, hj, rfl⟩ := AM.u8_of w1
  have hrun : ∀ (z0 z1 z2 z3 z4 z5 z6 z7 : AM.AV) (p : Nat), p < 13 → ∀ q : Nat, q < 13 → AM.run6 z0 z1 z2 z3 z4 z5 z6 z7 (3 + p) (3 + q) = true := by
    intro z0 z1 z2 z3 z4 z5 z6 z7 p hp q hq
    have key : ∀ m, AM.upTo (fun j => AM.run6 z0 z1 z2 z3 z4 z5 z6 z7 m (3 + j)) 13 = true → AM.run6 z0 z1 z2 z3 z4 z5 z6 z7 m (3 + q) = true := fun m h => AM.upTo_spec h q hq
    match p, hp with
    | 0, _ => exact key 3 (AM.dbl0 z0 z1 z2 z3 z4 z5 z6 z7)
    | 1, _ => exact key 4 (AM.dbl1 z0 z1 z2 z3 z4 z5 z6 z7)
    | 2, _ => exact key 5 (AM.dbl2 z0 z1 z2 z3 z4 z5 z6 z7)
    | 3, _ => exact key 6 (AM.dbl3 z0 z1 z2 z3 z4 z5 z6 z7)
    | 4, _ => exact key 7 (AM.dbl4 z0 z1 z2 z3 z4 z5 z6 z7)
    | 5, _ => exact key 8 (AM.dbl5 z0 z1 z2 z3 z4 z5 z6 z7)
    | 6, _ => exact key 9 (AM.dbl6 z0 z1 z2 z3 z4 z5 z6 z7)
    | 7, _ => exact key 10 (AM.dbl7 z0 z1 z2 z3 z4 z5 z6 z7)
    | 8, _ => exact key 11 (AM.dbl8 z0 z1 z2 z3 z4 z5 z6 z7)
    | 9, _ => exact key 12 (AM.dbl9 z0 z1 z2 z3 z4 z5 z6 z7)
    | 10, _ => exact key 13 (AM.dbl10 z0 z1 z2 z3 z4 z5 z6 z7)
    | 11, _ => exact key 14 (AM.dbl11 z0 z1 z2 z3 z4 z5 z6 z7)
    | 12, _ => exact key 15 (AM.dbl12 z0 z1 z2 z3 z4 z5 z6 z7)
    | n + 13, h => omega
  have e1 : (3 + (i : Int) % 13) = ((3 + i % 13 : Nat) : Int) := by omega
  have e2 : (3 + (j : Int) % 13) = ((3 + j % 13 : Nat) : Int) := by omega
  obtain ⟨n, h', e⟩ := AM.dblPre (i : Int) (j : Int) (by omega) (by omega) (by omega) (by omega) (by
    rw [e1, e2]
    exact hrun _ _ _ _ _ _ _ _ (i % 13) (Nat.mod_lt _ (by omega)) (j % 13) (Nat.mod_lt _ (by omega)))
  exact AM.calls_plain AM.mixed AM.tabOK AM.awakeOK e (.cons (.int _ _) (.cons (.int _ _) .nil)) (fn := AM.af6) rfl w
/-! ### THE ROW's STEP: WRITTEN OUT: LEAVE IT -/
set_option maxRecDepth 100000 in
theorem lifted (os : Os) (started : os.Started) (H : Type) (enc : TypeId × Value → H) :
    ReturnsInHanded {} Try.checked os 6 .any (Rows.polygonDoubleSpec.pre6 enc Try.prog Try.f6 Rows.polygonDoubleRow.domain false) (Rows.polygonDoubleSpec.post enc Try.prog Try.f6 false true false false) := by
  refine returnsInHanded_of_change (C := Try.checked) own started (by kernel_rfl) Try.func6
    (ChangeSpec.witness6 (enc := enc) (C := Try.checked) false ⟨#[], #[.int .u8 0, .int .u8 0], []⟩ 8 (by kernel_rfl) (by kernel_rfl) (by kernel_rfl) (by kernel_rfl)) ?_
  intro W base args ds gs before hval0 hW hcnd _
  have hval : ∀ (j : Nat) t v, Try.f6.params[j]? = some t → args[j]? = some v → Value.okWide Try.prog W .any base t v := hval0
  have hW' := hW
  obtain ⟨p, q, hA0, hV, rfl, hfz, hnd⟩ := hW
  have hA : DataW.TrodAll enc Try.prog W 0 (fun _ => true) true Try.f6.params.toList args.toList ds p := hA0
  rw [Try.params6] at hA hval
  obtain ⟨v0, vs0, d0, ds0, p0, q0, hargs, rfl, rfl, h0, r0⟩ := trodAll_cons hA
  obtain ⟨v1, vs1, d1, ds1, p1, q1, rfl, rfl, rfl, h1, r1⟩ := trodAll_cons r0
  obtain ⟨rfl, rfl, rfl⟩ := trodAll_nil r1
  obtain rfl : args = #[v0, v1] := by cases args; simp_all
  obtain ⟨rfl, rfl⟩ := trodVars_none hV
  obtain ⟨a0, rfl, rfl, rfl, w0⟩ := open_int Try.underlying5 (hval 0 5 v0 rfl rfl) h0
  obtain ⟨a1, rfl, rfl, rfl, w1⟩ := open_int Try.underlying5 (hval 1 5 v1 rfl rfl) h1
  clear hA0 hval0
  simp only [List.append_nil] at hW'
  refine (walk a0 a1 w0 w1 W).mono fun e W' ⟨he, hg⟩ => ?_
  subst he
  exact ⟨_, rfl, AM.post_of_below (pa := []) (pv := []) hW' (fun _ _ _ => (trodAll_cons_mk (shut_bool Try.underlying4 _) trodAll_mk0)) (fun sp _ => (trodAll_cons_mk (shut_int Try.underlying5 w0) (trodAll_cons_mk (shut_int Try.underlying5 w1) trodAll_mk0))) (fun _ _ => rfl) rfl
    hg (ok_one (by kernel_rfl) rfl (okWide_bool_mk Try.underlying4 _))⟩

theorem over : Rows.polygonDoubleRow.holds Try.pinned (OpenSpec.ofChange Rows.polygonDoubleSpec) :=
  OpenClaim.holds_of_wide 6 Try.f6 rfl rfl rfl rfl rfl rfl rfl ⟨rfl, rfl, rfl, rfl, rfl⟩ rfl rfl rfl rfl rfl (by kernel_rfl) Try.func6 (by kernel_rfl)
    (of_decide_eq_true (by kernel_rfl)) (by unfold Func.isWrapper; first | (rw [if_pos (by decide +kernel)]; kernel_rfl) | (rw [if_neg (by decide +kernel)]; exact ⟨rfl, rfl⟩))
    (fun os started H enc _ => lifted os started H enc)

/-- ████ THE STATEMENT ████ -/
theorem proved : Rows.PolygonDoubleSaid :=
  over
end Go.Proofs.Ytkicidfkmfkbhaa.polygonDouble
