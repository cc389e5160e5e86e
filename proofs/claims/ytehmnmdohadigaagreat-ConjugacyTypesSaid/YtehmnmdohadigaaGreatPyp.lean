/- ConjugacyTypes returns true for every input. No condition. No condition. -/
import Derived.Test.YtehmnmdohadigaaGreatRows
import Derived.Test.YtehmnmdohadigaaGreatPyb1
set_option linter.unusedVariables false      -- a walk need not use every number's bounds
namespace Go.Proofs.YtehmnmdohadigaaGreat.conjugacyTypes
open Go.ChangeShapes Go.WideShapes Go.ChangeAt Go.RowKit Go.Joins
theorem own:ownKnob Tryz.prog.godebug = none:=by kernel_rfl
set_option maxRecDepth 100000 in
theorem lifted (os : Os) (started : os.Started) (H : Type) (enc : TypeId × Value -> H) :
  ReturnsInHanded {} Tryz.checked os 19 .any (Rows.conjugacyTypesSpec.pre6 enc Tryz.prog Tryz.f19 Rows.conjugacyTypesRow.domain false) (Rows.conjugacyTypesSpec.post enc Tryz.prog Tryz.f19 false true false false):=by
 refine returnsInHanded_of_change (C:=Tryz.checked) own started (by kernel_rfl) Tryz.func19
  (ChangeSpec.witness6 (enc:=enc) (C:=Tryz.checked) false ⟨#[], #[.slice none 0 0, .slice none 0 0], []⟩ 8 (by kernel_rfl) (by kernel_rfl) (by kernel_rfl) (by kernel_rfl)) ?_
 intro W base args ds gs before hval0 hW hcnd _
 have hval:∀ (j:Nat) t v,Tryz.f19.params[j]? = some t -> args[j]? = some v -> Value.okWide Tryz.prog W .any base t v:=hval0
 have hW':=hW
 have hlt:=hW.lt
 obtain ⟨p,q,hA0,hV,rfl,hfz,hnd⟩:=hW
 have hA:DataW.TrodAll enc Tryz.prog W 0 (fun _ => true) true Tryz.f19.params.toList args.toList ds p:=hA0
 have hAk:=hA
 rw [Tryz.params19] at hA hval
 obtain ⟨v0,vs0,d0,ds0,p0,q0,hargs,rfl,rfl,h0,r0⟩:=trodAll_cons hA
 obtain ⟨v1,vs1,d1,ds1,p1,q1,rfl,rfl,rfl,h1,r1⟩:=trodAll_cons r0
 obtain ⟨rfl,rfl,rfl⟩:=trodAll_nil r1
 obtain rfl:args = #[v0,v1]:=by cases args; simp_all
 obtain ⟨rfl,rfl⟩:=trodVars_none hV
 obtain ⟨ρ0,e0,a0,l0,x0,I0,g0,u0,f0⟩:=AM.ints_in (AM.InitH.empty W) Tryz.underlying62 (hval 0 62 v0 rfl rfl) h0
 obtain ⟨ρ1,e1,a1,l1,x1,I1,g1,u1,f1⟩:=AM.ints_in I0 Tryz.underlying62 (hval 1 62 v1 rfl rfl) h1
 replace f0:=AM.IAt.gro f0 g1
 replace u0:=AM.VR.mono x1 u0
 clear hA0 hval0
 simp only [List.append_nil] at hW' hlt hAk
 obtain ⟨hh,ee,_⟩:=AM.lawTyp_spec AM.cls_cls f0 f1
 obtain ⟨n,ee⟩:=AM.lim_opt AM.otabOK ee
 refine (AM.calls_init AM.mixed AM.tabOK AM.clsOK I1 ee (.cons (u0) (.cons (u1) .nil)) (fn:=AM.af19) rfl).mono fun e W' ⟨he,hg⟩ => ?_
 subst he
 refine ⟨_,rfl,AM.post_of_below (pv:=[]) hW' (fun _ _ _ => (trodAll_cons_mk (shut_bool Tryz.underlying4 _) trodAll_mk0)) (fun sp hs => AM.trodAll_stays AM.laid (fun t ht => ?_) hAk (fun x hx => hg.same (hlt x hx)) hs) (fun _ _ => rfl) (by simp only [List.append_nil])
  hg (ok_one (by kernel_rfl) rfl (okWide_bool_mk Tryz.underlying4 _))⟩
 rw [Tryz.params19] at ht
 simp only [List.mem_cons,List.not_mem_nil,or_false] at ht
 rcases ht with rfl | rfl <;> exact ⟨by kernel_rfl,of_decide_eq_true (by kernel_rfl)⟩
theorem j0:(Rows.conjugacyTypesRow.wf (OpenSpec.ofChange Rows.conjugacyTypesSpec)) = true:=by kernel_rfl
theorem j1:(laidOutB Tryz.prog) = true:=by kernel_rfl
theorem j2:(mapsRowed Tryz.prog) = true:=by kernel_rfl
theorem j3:(Tryz.f19.params.all (Tryz.prog.readableRec ·)) = true:=by kernel_rfl
theorem j4:(namedTie Tryz.prog Rows.conjugacyTypesRow.named Rows.conjugacyTypesSpec.vars) = true:=by kernel_rfl
theorem j5:(Rows.conjugacyTypesRow.stops == []) = true:=by kernel_rfl
theorem j6:(Tryz.prog.stops == []) = true:=by kernel_rfl
theorem j7:(Rows.conjugacyTypesRow.knobs == []) = true:=by kernel_rfl
theorem j8:(Tryz.prog.stopKnobs == []) = true:=by kernel_rfl
theorem j9:(Rows.conjugacyTypesRow.inPlace == Tryz.prog.inPlace 19) = true:=by kernel_rfl
theorem j10:(Rows.conjugacyTypesRow.unfollowed == Tryz.prog.unfollowed 19) = true:=by kernel_rfl
theorem j11:(Rows.conjugacyTypesRow.recurses == Tryz.prog.recurses 19) = true:=by kernel_rfl
theorem j12:(Rows.conjugacyTypesRow.named == Tryz.prog.varsNamed 19) = true:=by kernel_rfl
theorem j13:(Rows.conjugacyTypesRow.maps == (Tryz.f19.params.toList ++ Rows.conjugacyTypesSpec.plain.varTypes Tryz.prog).any (Tryz.prog.mapsRec ·)) = true:=by kernel_rfl
theorem j14:(Rows.conjugacyTypesRow.ifaces == (Tryz.f19.params.toList ++ Rows.conjugacyTypesSpec.plain.varTypes Tryz.prog).any (Tryz.prog.ifacesRec ·)) = true:=by kernel_rfl
theorem j15:(Rows.conjugacyTypesRow.mapsOut == Tryz.prog.mapsAmong Tryz.f19.resultTypes.toList) = true:=by kernel_rfl
theorem j16:(Rows.conjugacyTypesRow.loops == (Tryz.f19.params.toList ++ Rows.conjugacyTypesSpec.plain.varTypes Tryz.prog).any (Tryz.prog.loopsFrom ·)) = true:=by kernel_rfl
theorem j17:(Rows.conjugacyTypesRow.wideKeys == (Tryz.f19.params.toList ++ Rows.conjugacyTypesSpec.plain.varTypes Tryz.prog ++ Tryz.f19.resultTypes.toList).any (Tryz.prog.wideKeysFrom ·)) = true:=by kernel_rfl
theorem j18:(Rows.conjugacyTypesSpec.vars.all (Tryz.prog.varReadable ·)) = true:=by kernel_rfl
theorem j19:(Tryz.f19.resultTypes.all (fun t => Tryz.prog.readableRec t && decide (t < Tryz.prog.types.size))) = true:=by kernel_rfl
theorem j20:(Rows.conjugacyTypesRow.ifacesOut == Tryz.f19.resultTypes.toList.any (Tryz.prog.ifacesRec ·)) = true:=by kernel_rfl
theorem j21:(Rows.conjugacyTypesRow.loopsOut == Tryz.f19.resultTypes.toList.any (Tryz.prog.loopsFrom ·)) = true:=by kernel_rfl
theorem j22:(Rows.conjugacyTypesRow.plainKeys == Tryz.prog.plainKeys) = true:=by kernel_rfl
theorem j23:(Rows.conjugacyTypesRow.shortTexts.isNone) = true:=by kernel_rfl
theorem j24:(Tryz.prog.stopsHeard) = true:=by kernel_rfl
theorem j25:(Tryz.prog.mayEnter) = true:=by kernel_rfl
theorem j26:(Rows.conjugacyTypesRow.lifted == Tryz.prog.liftsFinal) = true:=by kernel_rfl
theorem j27:(Tryz.prog.make == some Rows.conjugacyTypesRow.make) = true:=by kernel_rfl
theorem j29:(Rows.conjugacyTypesRow.pinned == Rows.conjugacyTypesRow.pinnedBy) = true:=by kernel_rfl
theorem j30:(Rows.conjugacyTypesRow.veiled == (Tryz.f19.params.toList ++ Rows.conjugacyTypesSpec.plain.varTypes Tryz.prog ++ Tryz.f19.resultTypes.toList).any (Tryz.prog.veiledRec ·)) = true:=by kernel_rfl
theorem j31:(Rows.conjugacyTypesRow.veiledFits Tryz.prog Tryz.f19.params.toList (Tryz.f19.params.toList ++ Rows.conjugacyTypesSpec.plain.varTypes Tryz.prog ++ Tryz.f19.resultTypes.toList)) = true:=by kernel_rfl
theorem joined:joinedFacts Tryz.prog 19 Tryz.f19 Rows.conjugacyTypesSpec Rows.conjugacyTypesRow = true:=by
 unfold joinedFacts
 rw [j0,j1,j2,j3,j4,j5,j6,j7,j8,j9,j10,j11,j12,j13,j14,j15,j16,j17,j18,j19,j20,j21,j22,j23,j24,j25,j26,j27,j29,j30,j31]
 kernel_rfl
theorem over:Rows.conjugacyTypesRow.holds Tryz.pinned (OpenSpec.ofChange Rows.conjugacyTypesSpec) :=
 OpenClaim.holds_of_wide 19 Tryz.f19 rfl rfl rfl rfl rfl rfl rfl ⟨rfl,rfl,rfl,rfl,rfl⟩ rfl rfl rfl rfl rfl (by kernel_rfl) Tryz.func19 joined
  (of_decide_eq_true (by kernel_rfl)) (by unfold Func.isWrapper; first | (rw [if_pos (by decide +kernel)]; kernel_rfl) | (rw [if_neg (by decide +kernel)]; exact ⟨rfl,rfl⟩))
  (fun os started H enc _ => lifted os started H enc)
theorem proved:Rows.ConjugacyTypesSaid :=
 over
end Go.Proofs.YtehmnmdohadigaaGreat.conjugacyTypes
