/-
  No cell of these rows narrows 'for every input' (looked for: loops, veiled, ifaces, maps, wideKeys, modest, calm, conditions, laid).
  DERIVED. THE GIVEN ROWS OF THIS SEAT. 18 by the template 'for every input the law returns true; each argument reads behind the call as it read before'; 0 by the template 'total and deterministic' (their statements: YtehmnmdohadigaaGreatTotals.lean).
  GIVEN WITH THE SEED: the statements are not yours to turn. If you find one false, say at which input.
  Laid BY PROGRAM, IN A SANDBOX (cutbox-rows.mjs): the forced cells as the released guide's own fill.sh prints them over the translation d7a012d67abf20d8… (all of the seat's roots in one cut). By AI agents, Wed Nov 11 2026. No macro, syntax, notation, axiom, sorry.
-/
import Derived.Test.YtehmnmdohadigaaGreatChecked
import GoSem.Claim
import GoSem.ClaimJoined
import GoSem.ClaimMapViews
import Derived.JoinedTies
import Derived.KernelRfl
namespace Go.Proofs.YtehmnmdohadigaaGreat
/- THE CELL 'sum', in the pinned program and in every row, IS THE sha256 OF THE DUMP (.gsa) THAT YtehmnmdohadigaaGreatProg.lean LOADS. Nothing in Lean hashes anything: it is a label: what it is worth is what the hold of that sum in a sandbox is worth. -/
noncomputable def Tryz.pinned : Pinned := { name := "ytehmnmdohadigaagreat", sum := "d7a012d67abf20d86c823baf23be256acfb1289492cd7286eca14f4126a7cee6", checked := Tryz.checked }
namespace Rows
def none {H : Type} : Left H := { results := [], args := [] }

/-- 'galoislaw28.SubgroupsAll': WHATEVER THE INPUT: true; the input reads as it did. -/
def subgroupsAllSpec : ChangeSpec := { name := "subgroupsAll", fn := fun _ => fun
  | [d] => { results := [.lit (.bool true)], args := [d] }
  | _ => none }
def subgroupsAllRow : OpenClaim := { program := "ytehmnmdohadigaagreat", sum := "d7a012d67abf20d86c823baf23be256acfb1289492cd7286eca14f4126a7cee6", func := "galois/galoislaw28.SubgroupsAll", spec := "subgroupsAll", unfollowed := true, recurses := true, plainKeys := false, apart := false }
def SubgroupsAllSaid : Prop := subgroupsAllRow.holds Tryz.pinned (OpenSpec.ofChange subgroupsAllSpec)

/-- ITS FALSE NEIGHBOUR: 'it returns false'. Refute it at one input. -/
def subgroupsAllWrong : ChangeSpec := { name := "subgroupsAll", fn := fun _ => fun
  | [d] => { results := [.lit (.bool false)], args := [d] }
  | _ => none }
def SubgroupsAllWrongFalsely : Prop := subgroupsAllRow.holds Tryz.pinned (OpenSpec.ofChange subgroupsAllWrong)

/-- 'galoislaw28.SubgroupsGenerate': WHATEVER THE INPUT: true; the input reads as it did. -/
def subgroupsGenerateSpec : ChangeSpec := { name := "subgroupsGenerate", fn := fun _ => fun
  | [d] => { results := [.lit (.bool true)], args := [d] }
  | _ => none }
def subgroupsGenerateRow : OpenClaim := { program := "ytehmnmdohadigaagreat", sum := "d7a012d67abf20d86c823baf23be256acfb1289492cd7286eca14f4126a7cee6", func := "galois/galoislaw28.SubgroupsGenerate", spec := "subgroupsGenerate", unfollowed := true, recurses := true, plainKeys := false, apart := false }
def SubgroupsGenerateSaid : Prop := subgroupsGenerateRow.holds Tryz.pinned (OpenSpec.ofChange subgroupsGenerateSpec)

/-- ITS FALSE NEIGHBOUR: 'it returns false'. Refute it at one input. -/
def subgroupsGenerateWrong : ChangeSpec := { name := "subgroupsGenerate", fn := fun _ => fun
  | [d] => { results := [.lit (.bool false)], args := [d] }
  | _ => none }
def SubgroupsGenerateWrongFalsely : Prop := subgroupsGenerateRow.holds Tryz.pinned (OpenSpec.ofChange subgroupsGenerateWrong)

/-- 'galoislaw28.SubgroupsMeets': WHATEVER THE INPUT: true; the input reads as it did. -/
def subgroupsMeetsSpec : ChangeSpec := { name := "subgroupsMeets", fn := fun _ => fun
  | [d1, d2, d3] => { results := [.lit (.bool true)], args := [d1, d2, d3] }
  | _ => none }
def subgroupsMeetsRow : OpenClaim := { program := "ytehmnmdohadigaagreat", sum := "d7a012d67abf20d86c823baf23be256acfb1289492cd7286eca14f4126a7cee6", func := "galois/galoislaw28.SubgroupsMeets", spec := "subgroupsMeets", unfollowed := true, recurses := true, plainKeys := false, apart := false }
def SubgroupsMeetsSaid : Prop := subgroupsMeetsRow.holds Tryz.pinned (OpenSpec.ofChange subgroupsMeetsSpec)

/-- ITS FALSE NEIGHBOUR: 'it returns false'. Refute it at one input. -/
def subgroupsMeetsWrong : ChangeSpec := { name := "subgroupsMeets", fn := fun _ => fun
  | [d1, d2, d3] => { results := [.lit (.bool false)], args := [d1, d2, d3] }
  | _ => none }
def SubgroupsMeetsWrongFalsely : Prop := subgroupsMeetsRow.holds Tryz.pinned (OpenSpec.ofChange subgroupsMeetsWrong)

/-- 'galoislaw28.SubgroupsLattice': WHATEVER THE INPUT: true; the input reads as it did. -/
def subgroupsLatticeSpec : ChangeSpec := { name := "subgroupsLattice", fn := fun _ => fun
  | [d] => { results := [.lit (.bool true)], args := [d] }
  | _ => none }
def subgroupsLatticeRow : OpenClaim := { program := "ytehmnmdohadigaagreat", sum := "d7a012d67abf20d86c823baf23be256acfb1289492cd7286eca14f4126a7cee6", func := "galois/galoislaw28.SubgroupsLattice", spec := "subgroupsLattice", unfollowed := true, recurses := true, plainKeys := false, apart := false }
def SubgroupsLatticeSaid : Prop := subgroupsLatticeRow.holds Tryz.pinned (OpenSpec.ofChange subgroupsLatticeSpec)

/-- ITS FALSE NEIGHBOUR: 'it returns false'. Refute it at one input. -/
def subgroupsLatticeWrong : ChangeSpec := { name := "subgroupsLattice", fn := fun _ => fun
  | [d] => { results := [.lit (.bool false)], args := [d] }
  | _ => none }
def SubgroupsLatticeWrongFalsely : Prop := subgroupsLatticeRow.holds Tryz.pinned (OpenSpec.ofChange subgroupsLatticeWrong)

/-- 'galoislaw28.SubgroupsClosures': WHATEVER THE INPUT: true; the input reads as it did. -/
def subgroupsClosuresSpec : ChangeSpec := { name := "subgroupsClosures", fn := fun _ => fun
  | [d1, d2] => { results := [.lit (.bool true)], args := [d1, d2] }
  | _ => none }
def subgroupsClosuresRow : OpenClaim := { program := "ytehmnmdohadigaagreat", sum := "d7a012d67abf20d86c823baf23be256acfb1289492cd7286eca14f4126a7cee6", func := "galois/galoislaw28.SubgroupsClosures", spec := "subgroupsClosures", unfollowed := true, recurses := true, plainKeys := false, apart := false }
def SubgroupsClosuresSaid : Prop := subgroupsClosuresRow.holds Tryz.pinned (OpenSpec.ofChange subgroupsClosuresSpec)

/-- ITS FALSE NEIGHBOUR: 'it returns false'. Refute it at one input. -/
def subgroupsClosuresWrong : ChangeSpec := { name := "subgroupsClosures", fn := fun _ => fun
  | [d1, d2] => { results := [.lit (.bool false)], args := [d1, d2] }
  | _ => none }
def SubgroupsClosuresWrongFalsely : Prop := subgroupsClosuresRow.holds Tryz.pinned (OpenSpec.ofChange subgroupsClosuresWrong)

/-- 'galoislaw28.SubgroupsIndices': WHATEVER THE INPUT: true; the input reads as it did. -/
def subgroupsIndicesSpec : ChangeSpec := { name := "subgroupsIndices", fn := fun _ => fun
  | [d1, d2] => { results := [.lit (.bool true)], args := [d1, d2] }
  | _ => none }
def subgroupsIndicesRow : OpenClaim := { program := "ytehmnmdohadigaagreat", sum := "d7a012d67abf20d86c823baf23be256acfb1289492cd7286eca14f4126a7cee6", func := "galois/galoislaw28.SubgroupsIndices", spec := "subgroupsIndices", unfollowed := true, recurses := true, plainKeys := false, apart := false }
def SubgroupsIndicesSaid : Prop := subgroupsIndicesRow.holds Tryz.pinned (OpenSpec.ofChange subgroupsIndicesSpec)

/-- ITS FALSE NEIGHBOUR: 'it returns false'. Refute it at one input. -/
def subgroupsIndicesWrong : ChangeSpec := { name := "subgroupsIndices", fn := fun _ => fun
  | [d1, d2] => { results := [.lit (.bool false)], args := [d1, d2] }
  | _ => none }
def SubgroupsIndicesWrongFalsely : Prop := subgroupsIndicesRow.holds Tryz.pinned (OpenSpec.ofChange subgroupsIndicesWrong)

/-- 'galoislaw28.SubgroupsSylow': WHATEVER THE INPUT: true; the input reads as it did. -/
def subgroupsSylowSpec : ChangeSpec := { name := "subgroupsSylow", fn := fun _ => fun
  | [d1, d2] => { results := [.lit (.bool true)], args := [d1, d2] }
  | _ => none }
def subgroupsSylowRow : OpenClaim := { program := "ytehmnmdohadigaagreat", sum := "d7a012d67abf20d86c823baf23be256acfb1289492cd7286eca14f4126a7cee6", func := "galois/galoislaw28.SubgroupsSylow", spec := "subgroupsSylow", unfollowed := true, recurses := true, plainKeys := false, apart := false }
def SubgroupsSylowSaid : Prop := subgroupsSylowRow.holds Tryz.pinned (OpenSpec.ofChange subgroupsSylowSpec)

/-- ITS FALSE NEIGHBOUR: 'it returns false'. Refute it at one input. -/
def subgroupsSylowWrong : ChangeSpec := { name := "subgroupsSylow", fn := fun _ => fun
  | [d1, d2] => { results := [.lit (.bool false)], args := [d1, d2] }
  | _ => none }
def SubgroupsSylowWrongFalsely : Prop := subgroupsSylowRow.holds Tryz.pinned (OpenSpec.ofChange subgroupsSylowWrong)

/-- 'galoislaw28.SubgroupsCongruence': WHATEVER THE INPUT: true; the input reads as it did. -/
def subgroupsCongruenceSpec : ChangeSpec := { name := "subgroupsCongruence", fn := fun _ => fun
  | [d] => { results := [.lit (.bool true)], args := [d] }
  | _ => none }
def subgroupsCongruenceRow : OpenClaim := { program := "ytehmnmdohadigaagreat", sum := "d7a012d67abf20d86c823baf23be256acfb1289492cd7286eca14f4126a7cee6", func := "galois/galoislaw28.SubgroupsCongruence", spec := "subgroupsCongruence", unfollowed := true, recurses := true, plainKeys := false, apart := false }
def SubgroupsCongruenceSaid : Prop := subgroupsCongruenceRow.holds Tryz.pinned (OpenSpec.ofChange subgroupsCongruenceSpec)

/-- ITS FALSE NEIGHBOUR: 'it returns false'. Refute it at one input. -/
def subgroupsCongruenceWrong : ChangeSpec := { name := "subgroupsCongruence", fn := fun _ => fun
  | [d] => { results := [.lit (.bool false)], args := [d] }
  | _ => none }
def SubgroupsCongruenceWrongFalsely : Prop := subgroupsCongruenceRow.holds Tryz.pinned (OpenSpec.ofChange subgroupsCongruenceWrong)

/-- 'galoislaw28.SubgroupsCorrespond': WHATEVER THE INPUT: true; the input reads as it did. -/
def subgroupsCorrespondSpec : ChangeSpec := { name := "subgroupsCorrespond", fn := fun _ => fun
  | [d1, d2] => { results := [.lit (.bool true)], args := [d1, d2] }
  | _ => none }
def subgroupsCorrespondRow : OpenClaim := { program := "ytehmnmdohadigaagreat", sum := "d7a012d67abf20d86c823baf23be256acfb1289492cd7286eca14f4126a7cee6", func := "galois/galoislaw28.SubgroupsCorrespond", spec := "subgroupsCorrespond", unfollowed := true, recurses := true, plainKeys := false, apart := false }
def SubgroupsCorrespondSaid : Prop := subgroupsCorrespondRow.holds Tryz.pinned (OpenSpec.ofChange subgroupsCorrespondSpec)

/-- ITS FALSE NEIGHBOUR: 'it returns false'. Refute it at one input. -/
def subgroupsCorrespondWrong : ChangeSpec := { name := "subgroupsCorrespond", fn := fun _ => fun
  | [d1, d2] => { results := [.lit (.bool false)], args := [d1, d2] }
  | _ => none }
def SubgroupsCorrespondWrongFalsely : Prop := subgroupsCorrespondRow.holds Tryz.pinned (OpenSpec.ofChange subgroupsCorrespondWrong)

/-- 'galoislaw25.ConjugacyPowers': WHATEVER THE INPUT: true; the input reads as it did. -/
def conjugacyPowersSpec : ChangeSpec := { name := "conjugacyPowers", fn := fun _ => fun
  | [d1, d2] => { results := [.lit (.bool true)], args := [d1, d2] }
  | _ => none }
def conjugacyPowersRow : OpenClaim := { program := "ytehmnmdohadigaagreat", sum := "d7a012d67abf20d86c823baf23be256acfb1289492cd7286eca14f4126a7cee6", func := "galois/galoislaw25.ConjugacyPowers", spec := "conjugacyPowers", unfollowed := true, recurses := true, plainKeys := false, apart := false }
def ConjugacyPowersSaid : Prop := conjugacyPowersRow.holds Tryz.pinned (OpenSpec.ofChange conjugacyPowersSpec)

/-- ITS FALSE NEIGHBOUR: 'it returns false'. Refute it at one input. -/
def conjugacyPowersWrong : ChangeSpec := { name := "conjugacyPowers", fn := fun _ => fun
  | [d1, d2] => { results := [.lit (.bool false)], args := [d1, d2] }
  | _ => none }
def ConjugacyPowersWrongFalsely : Prop := conjugacyPowersRow.holds Tryz.pinned (OpenSpec.ofChange conjugacyPowersWrong)

/-- 'galoislaw25.ConjugacyComposed': WHATEVER THE INPUT: true; the input reads as it did. -/
def conjugacyComposedSpec : ChangeSpec := { name := "conjugacyComposed", fn := fun _ => fun
  | [d1, d2, d3] => { results := [.lit (.bool true)], args := [d1, d2, d3] }
  | _ => none }
def conjugacyComposedRow : OpenClaim := { program := "ytehmnmdohadigaagreat", sum := "d7a012d67abf20d86c823baf23be256acfb1289492cd7286eca14f4126a7cee6", func := "galois/galoislaw25.ConjugacyComposed", spec := "conjugacyComposed", unfollowed := true, recurses := true, plainKeys := false, apart := false }
def ConjugacyComposedSaid : Prop := conjugacyComposedRow.holds Tryz.pinned (OpenSpec.ofChange conjugacyComposedSpec)

/-- ITS FALSE NEIGHBOUR: 'it returns false'. Refute it at one input. -/
def conjugacyComposedWrong : ChangeSpec := { name := "conjugacyComposed", fn := fun _ => fun
  | [d1, d2, d3] => { results := [.lit (.bool false)], args := [d1, d2, d3] }
  | _ => none }
def ConjugacyComposedWrongFalsely : Prop := conjugacyComposedRow.holds Tryz.pinned (OpenSpec.ofChange conjugacyComposedWrong)

/-- 'galoislaw25.ConjugacyCentralizers': WHATEVER THE INPUT: true; the input reads as it did. -/
def conjugacyCentralizersSpec : ChangeSpec := { name := "conjugacyCentralizers", fn := fun _ => fun
  | [d1, d2, d3] => { results := [.lit (.bool true)], args := [d1, d2, d3] }
  | _ => none }
def conjugacyCentralizersRow : OpenClaim := { program := "ytehmnmdohadigaagreat", sum := "d7a012d67abf20d86c823baf23be256acfb1289492cd7286eca14f4126a7cee6", func := "galois/galoislaw25.ConjugacyCentralizers", spec := "conjugacyCentralizers", unfollowed := true, recurses := true, plainKeys := false, apart := false }
def ConjugacyCentralizersSaid : Prop := conjugacyCentralizersRow.holds Tryz.pinned (OpenSpec.ofChange conjugacyCentralizersSpec)

/-- ITS FALSE NEIGHBOUR: 'it returns false'. Refute it at one input. -/
def conjugacyCentralizersWrong : ChangeSpec := { name := "conjugacyCentralizers", fn := fun _ => fun
  | [d1, d2, d3] => { results := [.lit (.bool false)], args := [d1, d2, d3] }
  | _ => none }
def ConjugacyCentralizersWrongFalsely : Prop := conjugacyCentralizersRow.holds Tryz.pinned (OpenSpec.ofChange conjugacyCentralizersWrong)

/-- 'galoislaw25.ConjugacyEquation': WHATEVER THE INPUT: true; the input reads as it did. -/
def conjugacyEquationSpec : ChangeSpec := { name := "conjugacyEquation", fn := fun _ => fun
  | [d] => { results := [.lit (.bool true)], args := [d] }
  | _ => none }
def conjugacyEquationRow : OpenClaim := { program := "ytehmnmdohadigaagreat", sum := "d7a012d67abf20d86c823baf23be256acfb1289492cd7286eca14f4126a7cee6", func := "galois/galoislaw25.ConjugacyEquation", spec := "conjugacyEquation", unfollowed := true, recurses := true, plainKeys := false, apart := false }
def ConjugacyEquationSaid : Prop := conjugacyEquationRow.holds Tryz.pinned (OpenSpec.ofChange conjugacyEquationSpec)

/-- ITS FALSE NEIGHBOUR: 'it returns false'. Refute it at one input. -/
def conjugacyEquationWrong : ChangeSpec := { name := "conjugacyEquation", fn := fun _ => fun
  | [d] => { results := [.lit (.bool false)], args := [d] }
  | _ => none }
def ConjugacyEquationWrongFalsely : Prop := conjugacyEquationRow.holds Tryz.pinned (OpenSpec.ofChange conjugacyEquationWrong)

/-- 'galoislaw25.ConjugacyConjugators': WHATEVER THE INPUT: true; the input reads as it did. -/
def conjugacyConjugatorsSpec : ChangeSpec := { name := "conjugacyConjugators", fn := fun _ => fun
  | [d1, d2, d3] => { results := [.lit (.bool true)], args := [d1, d2, d3] }
  | _ => none }
def conjugacyConjugatorsRow : OpenClaim := { program := "ytehmnmdohadigaagreat", sum := "d7a012d67abf20d86c823baf23be256acfb1289492cd7286eca14f4126a7cee6", func := "galois/galoislaw25.ConjugacyConjugators", spec := "conjugacyConjugators", unfollowed := true, recurses := true, plainKeys := false, apart := false }
def ConjugacyConjugatorsSaid : Prop := conjugacyConjugatorsRow.holds Tryz.pinned (OpenSpec.ofChange conjugacyConjugatorsSpec)

/-- ITS FALSE NEIGHBOUR: 'it returns false'. Refute it at one input. -/
def conjugacyConjugatorsWrong : ChangeSpec := { name := "conjugacyConjugators", fn := fun _ => fun
  | [d1, d2, d3] => { results := [.lit (.bool false)], args := [d1, d2, d3] }
  | _ => none }
def ConjugacyConjugatorsWrongFalsely : Prop := conjugacyConjugatorsRow.holds Tryz.pinned (OpenSpec.ofChange conjugacyConjugatorsWrong)

/-- 'galoislaw25.ConjugacyClasses': WHATEVER THE INPUT: true; the input reads as it did. -/
def conjugacyClassesSpec : ChangeSpec := { name := "conjugacyClasses", fn := fun _ => fun
  | [d1, d2] => { results := [.lit (.bool true)], args := [d1, d2] }
  | _ => none }
def conjugacyClassesRow : OpenClaim := { program := "ytehmnmdohadigaagreat", sum := "d7a012d67abf20d86c823baf23be256acfb1289492cd7286eca14f4126a7cee6", func := "galois/galoislaw25.ConjugacyClasses", spec := "conjugacyClasses", unfollowed := true, recurses := true, plainKeys := false, apart := false }
def ConjugacyClassesSaid : Prop := conjugacyClassesRow.holds Tryz.pinned (OpenSpec.ofChange conjugacyClassesSpec)

/-- ITS FALSE NEIGHBOUR: 'it returns false'. Refute it at one input. -/
def conjugacyClassesWrong : ChangeSpec := { name := "conjugacyClasses", fn := fun _ => fun
  | [d1, d2] => { results := [.lit (.bool false)], args := [d1, d2] }
  | _ => none }
def ConjugacyClassesWrongFalsely : Prop := conjugacyClassesRow.holds Tryz.pinned (OpenSpec.ofChange conjugacyClassesWrong)

/-- 'galoislaw25.ConjugacyGroups': WHATEVER THE INPUT: true; the input reads as it did. -/
def conjugacyGroupsSpec : ChangeSpec := { name := "conjugacyGroups", fn := fun _ => fun
  | [d1, d2, d3] => { results := [.lit (.bool true)], args := [d1, d2, d3] }
  | _ => none }
def conjugacyGroupsRow : OpenClaim := { program := "ytehmnmdohadigaagreat", sum := "d7a012d67abf20d86c823baf23be256acfb1289492cd7286eca14f4126a7cee6", func := "galois/galoislaw25.ConjugacyGroups", spec := "conjugacyGroups", unfollowed := true, recurses := true, plainKeys := false, apart := false }
def ConjugacyGroupsSaid : Prop := conjugacyGroupsRow.holds Tryz.pinned (OpenSpec.ofChange conjugacyGroupsSpec)

/-- ITS FALSE NEIGHBOUR: 'it returns false'. Refute it at one input. -/
def conjugacyGroupsWrong : ChangeSpec := { name := "conjugacyGroups", fn := fun _ => fun
  | [d1, d2, d3] => { results := [.lit (.bool false)], args := [d1, d2, d3] }
  | _ => none }
def ConjugacyGroupsWrongFalsely : Prop := conjugacyGroupsRow.holds Tryz.pinned (OpenSpec.ofChange conjugacyGroupsWrong)

/-- 'galoislaw25.ConjugacyTypes': WHATEVER THE INPUT: true; the input reads as it did. -/
def conjugacyTypesSpec : ChangeSpec := { name := "conjugacyTypes", fn := fun _ => fun
  | [d1, d2] => { results := [.lit (.bool true)], args := [d1, d2] }
  | _ => none }
def conjugacyTypesRow : OpenClaim := { program := "ytehmnmdohadigaagreat", sum := "d7a012d67abf20d86c823baf23be256acfb1289492cd7286eca14f4126a7cee6", func := "galois/galoislaw25.ConjugacyTypes", spec := "conjugacyTypes", unfollowed := true, recurses := true, plainKeys := false, apart := false }
def ConjugacyTypesSaid : Prop := conjugacyTypesRow.holds Tryz.pinned (OpenSpec.ofChange conjugacyTypesSpec)

/-- ITS FALSE NEIGHBOUR: 'it returns false'. Refute it at one input. -/
def conjugacyTypesWrong : ChangeSpec := { name := "conjugacyTypes", fn := fun _ => fun
  | [d1, d2] => { results := [.lit (.bool false)], args := [d1, d2] }
  | _ => none }
def ConjugacyTypesWrongFalsely : Prop := conjugacyTypesRow.holds Tryz.pinned (OpenSpec.ofChange conjugacyTypesWrong)

/-- 'galoislaw25.ConjugacyNormalizers': WHATEVER THE INPUT: true; the input reads as it did. -/
def conjugacyNormalizersSpec : ChangeSpec := { name := "conjugacyNormalizers", fn := fun _ => fun
  | [d1, d2] => { results := [.lit (.bool true)], args := [d1, d2] }
  | _ => none }
def conjugacyNormalizersRow : OpenClaim := { program := "ytehmnmdohadigaagreat", sum := "d7a012d67abf20d86c823baf23be256acfb1289492cd7286eca14f4126a7cee6", func := "galois/galoislaw25.ConjugacyNormalizers", spec := "conjugacyNormalizers", unfollowed := true, recurses := true, plainKeys := false, apart := false }
def ConjugacyNormalizersSaid : Prop := conjugacyNormalizersRow.holds Tryz.pinned (OpenSpec.ofChange conjugacyNormalizersSpec)

/-- ITS FALSE NEIGHBOUR: 'it returns false'. Refute it at one input. -/
def conjugacyNormalizersWrong : ChangeSpec := { name := "conjugacyNormalizers", fn := fun _ => fun
  | [d1, d2] => { results := [.lit (.bool false)], args := [d1, d2] }
  | _ => none }
def ConjugacyNormalizersWrongFalsely : Prop := conjugacyNormalizersRow.holds Tryz.pinned (OpenSpec.ofChange conjugacyNormalizersWrong)

/- THE SECOND FORM. 'bulk': how many values and letters a reading holds, each counted each time it is reached (what is shared counts as often as it is met; a slice's spare places count too). A statement '..UptoSaid' is the law's where the arguments, and the package variables that the reading takes, are together of bulk at most 1048576: NARROWER than '..Said'. Prove '..Said' where nothing that the law and all that it calls make is longer than what came in: it says more and counts as full. Else prove '..UptoSaid'. A law counts once. -/
mutual
def uptoBulk {H : Type} : DataW H → Nat
  | .lit (.string bytes) => bytes.length + 1
  | .lit _ => 1
  | .nil => 1
  | .ptr d => uptoBulk d + 1
  | .slice elems spare => uptoBulkAll elems + uptoBulkAll spare + 1
  | .agg parts => uptoBulkAll parts + 1
  | .iface _ d => uptoBulk d + 1
  | .map entries => uptoBulkEntries entries + 1
  | .held _ => 1
def uptoBulkAll {H : Type} : List (DataW H) → Nat
  | [] => 0
  | d :: r => uptoBulk d + uptoBulkAll r
def uptoBulkEntries {H : Type} : List (Lit × DataW H) → Nat
  | [] => 0
  | x :: r => uptoBulkEntry x + uptoBulkEntries r
def uptoBulkEntry {H : Type} : Lit × DataW H → Nat
  | (.string bytes, d) => bytes.length + uptoBulk d + 1
  | (_, d) => uptoBulk d + 1
 end
def uptoSmall : (H : Type) → List (DataW H) → Bool := fun _ ds => decide (uptoBulkAll ds ≤ 1048576)
def OpenSpec.upto (s : _root_.Go.ChangeSpec) : _root_.Go.OpenSpec := { _root_.Go.OpenSpec.ofChange s with cond := some uptoSmall }

/-- 'galoislaw28.SubgroupsAll', WHERE WHAT IT READS IS OF BULK AT MOST 1048576: true; the input reads as it did. -/
def subgroupsAllUptoRow : OpenClaim := { program := "ytehmnmdohadigaagreat", sum := "d7a012d67abf20d86c823baf23be256acfb1289492cd7286eca14f4126a7cee6", func := "galois/galoislaw28.SubgroupsAll", spec := "subgroupsAll", unfollowed := true, recurses := true, plainKeys := false, apart := false, narrowed := true }
def SubgroupsAllUptoSaid : Prop := subgroupsAllUptoRow.holds Tryz.pinned (OpenSpec.upto subgroupsAllSpec)

/-- 'galoislaw28.SubgroupsGenerate', WHERE WHAT IT READS IS OF BULK AT MOST 1048576: true; the input reads as it did. -/
def subgroupsGenerateUptoRow : OpenClaim := { program := "ytehmnmdohadigaagreat", sum := "d7a012d67abf20d86c823baf23be256acfb1289492cd7286eca14f4126a7cee6", func := "galois/galoislaw28.SubgroupsGenerate", spec := "subgroupsGenerate", unfollowed := true, recurses := true, plainKeys := false, apart := false, narrowed := true }
def SubgroupsGenerateUptoSaid : Prop := subgroupsGenerateUptoRow.holds Tryz.pinned (OpenSpec.upto subgroupsGenerateSpec)

/-- 'galoislaw28.SubgroupsMeets', WHERE WHAT IT READS IS OF BULK AT MOST 1048576: true; the input reads as it did. -/
def subgroupsMeetsUptoRow : OpenClaim := { program := "ytehmnmdohadigaagreat", sum := "d7a012d67abf20d86c823baf23be256acfb1289492cd7286eca14f4126a7cee6", func := "galois/galoislaw28.SubgroupsMeets", spec := "subgroupsMeets", unfollowed := true, recurses := true, plainKeys := false, apart := false, narrowed := true }
def SubgroupsMeetsUptoSaid : Prop := subgroupsMeetsUptoRow.holds Tryz.pinned (OpenSpec.upto subgroupsMeetsSpec)

/-- 'galoislaw28.SubgroupsLattice', WHERE WHAT IT READS IS OF BULK AT MOST 1048576: true; the input reads as it did. -/
def subgroupsLatticeUptoRow : OpenClaim := { program := "ytehmnmdohadigaagreat", sum := "d7a012d67abf20d86c823baf23be256acfb1289492cd7286eca14f4126a7cee6", func := "galois/galoislaw28.SubgroupsLattice", spec := "subgroupsLattice", unfollowed := true, recurses := true, plainKeys := false, apart := false, narrowed := true }
def SubgroupsLatticeUptoSaid : Prop := subgroupsLatticeUptoRow.holds Tryz.pinned (OpenSpec.upto subgroupsLatticeSpec)

/-- 'galoislaw28.SubgroupsClosures', WHERE WHAT IT READS IS OF BULK AT MOST 1048576: true; the input reads as it did. -/
def subgroupsClosuresUptoRow : OpenClaim := { program := "ytehmnmdohadigaagreat", sum := "d7a012d67abf20d86c823baf23be256acfb1289492cd7286eca14f4126a7cee6", func := "galois/galoislaw28.SubgroupsClosures", spec := "subgroupsClosures", unfollowed := true, recurses := true, plainKeys := false, apart := false, narrowed := true }
def SubgroupsClosuresUptoSaid : Prop := subgroupsClosuresUptoRow.holds Tryz.pinned (OpenSpec.upto subgroupsClosuresSpec)

/-- 'galoislaw28.SubgroupsIndices', WHERE WHAT IT READS IS OF BULK AT MOST 1048576: true; the input reads as it did. -/
def subgroupsIndicesUptoRow : OpenClaim := { program := "ytehmnmdohadigaagreat", sum := "d7a012d67abf20d86c823baf23be256acfb1289492cd7286eca14f4126a7cee6", func := "galois/galoislaw28.SubgroupsIndices", spec := "subgroupsIndices", unfollowed := true, recurses := true, plainKeys := false, apart := false, narrowed := true }
def SubgroupsIndicesUptoSaid : Prop := subgroupsIndicesUptoRow.holds Tryz.pinned (OpenSpec.upto subgroupsIndicesSpec)

/-- 'galoislaw28.SubgroupsSylow', WHERE WHAT IT READS IS OF BULK AT MOST 1048576: true; the input reads as it did. -/
def subgroupsSylowUptoRow : OpenClaim := { program := "ytehmnmdohadigaagreat", sum := "d7a012d67abf20d86c823baf23be256acfb1289492cd7286eca14f4126a7cee6", func := "galois/galoislaw28.SubgroupsSylow", spec := "subgroupsSylow", unfollowed := true, recurses := true, plainKeys := false, apart := false, narrowed := true }
def SubgroupsSylowUptoSaid : Prop := subgroupsSylowUptoRow.holds Tryz.pinned (OpenSpec.upto subgroupsSylowSpec)

/-- 'galoislaw28.SubgroupsCongruence', WHERE WHAT IT READS IS OF BULK AT MOST 1048576: true; the input reads as it did. -/
def subgroupsCongruenceUptoRow : OpenClaim := { program := "ytehmnmdohadigaagreat", sum := "d7a012d67abf20d86c823baf23be256acfb1289492cd7286eca14f4126a7cee6", func := "galois/galoislaw28.SubgroupsCongruence", spec := "subgroupsCongruence", unfollowed := true, recurses := true, plainKeys := false, apart := false, narrowed := true }
def SubgroupsCongruenceUptoSaid : Prop := subgroupsCongruenceUptoRow.holds Tryz.pinned (OpenSpec.upto subgroupsCongruenceSpec)

/-- 'galoislaw28.SubgroupsCorrespond', WHERE WHAT IT READS IS OF BULK AT MOST 1048576: true; the input reads as it did. -/
def subgroupsCorrespondUptoRow : OpenClaim := { program := "ytehmnmdohadigaagreat", sum := "d7a012d67abf20d86c823baf23be256acfb1289492cd7286eca14f4126a7cee6", func := "galois/galoislaw28.SubgroupsCorrespond", spec := "subgroupsCorrespond", unfollowed := true, recurses := true, plainKeys := false, apart := false, narrowed := true }
def SubgroupsCorrespondUptoSaid : Prop := subgroupsCorrespondUptoRow.holds Tryz.pinned (OpenSpec.upto subgroupsCorrespondSpec)

/-- 'galoislaw25.ConjugacyPowers', WHERE WHAT IT READS IS OF BULK AT MOST 1048576: true; the input reads as it did. -/
def conjugacyPowersUptoRow : OpenClaim := { program := "ytehmnmdohadigaagreat", sum := "d7a012d67abf20d86c823baf23be256acfb1289492cd7286eca14f4126a7cee6", func := "galois/galoislaw25.ConjugacyPowers", spec := "conjugacyPowers", unfollowed := true, recurses := true, plainKeys := false, apart := false, narrowed := true }
def ConjugacyPowersUptoSaid : Prop := conjugacyPowersUptoRow.holds Tryz.pinned (OpenSpec.upto conjugacyPowersSpec)

/-- 'galoislaw25.ConjugacyComposed', WHERE WHAT IT READS IS OF BULK AT MOST 1048576: true; the input reads as it did. -/
def conjugacyComposedUptoRow : OpenClaim := { program := "ytehmnmdohadigaagreat", sum := "d7a012d67abf20d86c823baf23be256acfb1289492cd7286eca14f4126a7cee6", func := "galois/galoislaw25.ConjugacyComposed", spec := "conjugacyComposed", unfollowed := true, recurses := true, plainKeys := false, apart := false, narrowed := true }
def ConjugacyComposedUptoSaid : Prop := conjugacyComposedUptoRow.holds Tryz.pinned (OpenSpec.upto conjugacyComposedSpec)

/-- 'galoislaw25.ConjugacyCentralizers', WHERE WHAT IT READS IS OF BULK AT MOST 1048576: true; the input reads as it did. -/
def conjugacyCentralizersUptoRow : OpenClaim := { program := "ytehmnmdohadigaagreat", sum := "d7a012d67abf20d86c823baf23be256acfb1289492cd7286eca14f4126a7cee6", func := "galois/galoislaw25.ConjugacyCentralizers", spec := "conjugacyCentralizers", unfollowed := true, recurses := true, plainKeys := false, apart := false, narrowed := true }
def ConjugacyCentralizersUptoSaid : Prop := conjugacyCentralizersUptoRow.holds Tryz.pinned (OpenSpec.upto conjugacyCentralizersSpec)

/-- 'galoislaw25.ConjugacyEquation', WHERE WHAT IT READS IS OF BULK AT MOST 1048576: true; the input reads as it did. -/
def conjugacyEquationUptoRow : OpenClaim := { program := "ytehmnmdohadigaagreat", sum := "d7a012d67abf20d86c823baf23be256acfb1289492cd7286eca14f4126a7cee6", func := "galois/galoislaw25.ConjugacyEquation", spec := "conjugacyEquation", unfollowed := true, recurses := true, plainKeys := false, apart := false, narrowed := true }
def ConjugacyEquationUptoSaid : Prop := conjugacyEquationUptoRow.holds Tryz.pinned (OpenSpec.upto conjugacyEquationSpec)

/-- 'galoislaw25.ConjugacyConjugators', WHERE WHAT IT READS IS OF BULK AT MOST 1048576: true; the input reads as it did. -/
def conjugacyConjugatorsUptoRow : OpenClaim := { program := "ytehmnmdohadigaagreat", sum := "d7a012d67abf20d86c823baf23be256acfb1289492cd7286eca14f4126a7cee6", func := "galois/galoislaw25.ConjugacyConjugators", spec := "conjugacyConjugators", unfollowed := true, recurses := true, plainKeys := false, apart := false, narrowed := true }
def ConjugacyConjugatorsUptoSaid : Prop := conjugacyConjugatorsUptoRow.holds Tryz.pinned (OpenSpec.upto conjugacyConjugatorsSpec)

/-- 'galoislaw25.ConjugacyClasses', WHERE WHAT IT READS IS OF BULK AT MOST 1048576: true; the input reads as it did. -/
def conjugacyClassesUptoRow : OpenClaim := { program := "ytehmnmdohadigaagreat", sum := "d7a012d67abf20d86c823baf23be256acfb1289492cd7286eca14f4126a7cee6", func := "galois/galoislaw25.ConjugacyClasses", spec := "conjugacyClasses", unfollowed := true, recurses := true, plainKeys := false, apart := false, narrowed := true }
def ConjugacyClassesUptoSaid : Prop := conjugacyClassesUptoRow.holds Tryz.pinned (OpenSpec.upto conjugacyClassesSpec)

/-- 'galoislaw25.ConjugacyGroups', WHERE WHAT IT READS IS OF BULK AT MOST 1048576: true; the input reads as it did. -/
def conjugacyGroupsUptoRow : OpenClaim := { program := "ytehmnmdohadigaagreat", sum := "d7a012d67abf20d86c823baf23be256acfb1289492cd7286eca14f4126a7cee6", func := "galois/galoislaw25.ConjugacyGroups", spec := "conjugacyGroups", unfollowed := true, recurses := true, plainKeys := false, apart := false, narrowed := true }
def ConjugacyGroupsUptoSaid : Prop := conjugacyGroupsUptoRow.holds Tryz.pinned (OpenSpec.upto conjugacyGroupsSpec)

/-- 'galoislaw25.ConjugacyTypes', WHERE WHAT IT READS IS OF BULK AT MOST 1048576: true; the input reads as it did. -/
def conjugacyTypesUptoRow : OpenClaim := { program := "ytehmnmdohadigaagreat", sum := "d7a012d67abf20d86c823baf23be256acfb1289492cd7286eca14f4126a7cee6", func := "galois/galoislaw25.ConjugacyTypes", spec := "conjugacyTypes", unfollowed := true, recurses := true, plainKeys := false, apart := false, narrowed := true }
def ConjugacyTypesUptoSaid : Prop := conjugacyTypesUptoRow.holds Tryz.pinned (OpenSpec.upto conjugacyTypesSpec)

/-- 'galoislaw25.ConjugacyNormalizers', WHERE WHAT IT READS IS OF BULK AT MOST 1048576: true; the input reads as it did. -/
def conjugacyNormalizersUptoRow : OpenClaim := { program := "ytehmnmdohadigaagreat", sum := "d7a012d67abf20d86c823baf23be256acfb1289492cd7286eca14f4126a7cee6", func := "galois/galoislaw25.ConjugacyNormalizers", spec := "conjugacyNormalizers", unfollowed := true, recurses := true, plainKeys := false, apart := false, narrowed := true }
def ConjugacyNormalizersUptoSaid : Prop := conjugacyNormalizersUptoRow.holds Tryz.pinned (OpenSpec.upto conjugacyNormalizersSpec)

end Rows
end Go.Proofs.YtehmnmdohadigaaGreat
