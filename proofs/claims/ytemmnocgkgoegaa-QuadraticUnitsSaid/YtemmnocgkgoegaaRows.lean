/-
  No cell of these rows narrows 'for every input' (looked for: loops, veiled, ifaces, maps, wideKeys, modest, calm, conditions, laid).
  DERIVED. THE GIVEN ROWS OF THIS SEAT. 9 by the template 'for every input the law returns true; each argument reads behind the call as it read before'; 0 by the template 'total and deterministic' (their statements: YtemmnocgkgoegaaTotals.lean).
  GIVEN WITH THE SEED: the statements are not yours to turn. If you find one false, say at which input.
  Laid BY PROGRAM, IN A SANDBOX (cutbox-rows.mjs): the forced cells as the released guide's own fill.sh prints them over the translation ef92da4edac7c6a0… (all of the seat's roots in one cut). By AI agents, Wed Nov 11 2026. No macro, syntax, notation, axiom, sorry.
-/
import Derived.Test.YtemmnocgkgoegaaChecked
import GoSem.Claim
import GoSem.ClaimJoined
import GoSem.ClaimMapViews
import Derived.JoinedTies
import Derived.KernelRfl
namespace Go.Proofs.Ytemmnocgkgoegaa
/- THE CELL 'sum', in the pinned program and in every row, IS THE sha256 OF THE DUMP (.gsa) THAT YtemmnocgkgoegaaProg.lean LOADS. Nothing in Lean hashes anything: it is a label: what it is worth is what the hold of that sum in a sandbox is worth. -/
noncomputable def Try.pinned : Pinned := { name := "ytemmnocgkgoegaa", sum := "ef92da4edac7c6a0469043ef5e08de52020d0e0b06f56b6f408d5cf7ce59fecc", checked := Try.checked }
namespace Rows
def none {H : Type} : Left H := { results := [], args := [] }

/-- 'galoislaw50.QuadraticDiscriminants': WHATEVER THE INPUT: true; the input reads as it did. -/
def quadraticDiscriminantsSpec : ChangeSpec := { name := "quadraticDiscriminants", fn := fun _ => fun
  | [d] => { results := [.lit (.bool true)], args := [d] }
  | _ => none }
def quadraticDiscriminantsRow : OpenClaim := { program := "ytemmnocgkgoegaa", sum := "ef92da4edac7c6a0469043ef5e08de52020d0e0b06f56b6f408d5cf7ce59fecc", func := "galois/galoislaw50.QuadraticDiscriminants", spec := "quadraticDiscriminants", inPlace := ["math/bits.Add64", "math/bits.Sub64"], unfollowed := true, recurses := true, apart := false }
def QuadraticDiscriminantsSaid : Prop := quadraticDiscriminantsRow.holds Try.pinned (OpenSpec.ofChange quadraticDiscriminantsSpec)

/-- ITS FALSE NEIGHBOUR: 'it returns false'. Refute it at one input. -/
def quadraticDiscriminantsWrong : ChangeSpec := { name := "quadraticDiscriminants", fn := fun _ => fun
  | [d] => { results := [.lit (.bool false)], args := [d] }
  | _ => none }
def QuadraticDiscriminantsWrongFalsely : Prop := quadraticDiscriminantsRow.holds Try.pinned (OpenSpec.ofChange quadraticDiscriminantsWrong)

/-- 'galoislaw50.QuadraticUnits': WHATEVER THE INPUT: true; the input reads as it did. -/
def quadraticUnitsSpec : ChangeSpec := { name := "quadraticUnits", fn := fun _ => fun
  | [d] => { results := [.lit (.bool true)], args := [d] }
  | _ => none }
def quadraticUnitsRow : OpenClaim := { program := "ytemmnocgkgoegaa", sum := "ef92da4edac7c6a0469043ef5e08de52020d0e0b06f56b6f408d5cf7ce59fecc", func := "galois/galoislaw50.QuadraticUnits", spec := "quadraticUnits", inPlace := ["math/bits.Add64", "math/bits.Sub64"], unfollowed := true, recurses := true, apart := false }
def QuadraticUnitsSaid : Prop := quadraticUnitsRow.holds Try.pinned (OpenSpec.ofChange quadraticUnitsSpec)

/-- ITS FALSE NEIGHBOUR: 'it returns false'. Refute it at one input. -/
def quadraticUnitsWrong : ChangeSpec := { name := "quadraticUnits", fn := fun _ => fun
  | [d] => { results := [.lit (.bool false)], args := [d] }
  | _ => none }
def QuadraticUnitsWrongFalsely : Prop := quadraticUnitsRow.holds Try.pinned (OpenSpec.ofChange quadraticUnitsWrong)

/-- 'galoislaw50.QuadraticForms': WHATEVER THE INPUT: true; the input reads as it did. -/
def quadraticFormsSpec : ChangeSpec := { name := "quadraticForms", fn := fun _ => fun
  | [d] => { results := [.lit (.bool true)], args := [d] }
  | _ => none }
def quadraticFormsRow : OpenClaim := { program := "ytemmnocgkgoegaa", sum := "ef92da4edac7c6a0469043ef5e08de52020d0e0b06f56b6f408d5cf7ce59fecc", func := "galois/galoislaw50.QuadraticForms", spec := "quadraticForms", inPlace := ["math/bits.Add64", "math/bits.Sub64"], unfollowed := true, recurses := true, apart := false }
def QuadraticFormsSaid : Prop := quadraticFormsRow.holds Try.pinned (OpenSpec.ofChange quadraticFormsSpec)

/-- ITS FALSE NEIGHBOUR: 'it returns false'. Refute it at one input. -/
def quadraticFormsWrong : ChangeSpec := { name := "quadraticForms", fn := fun _ => fun
  | [d] => { results := [.lit (.bool false)], args := [d] }
  | _ => none }
def QuadraticFormsWrongFalsely : Prop := quadraticFormsRow.holds Try.pinned (OpenSpec.ofChange quadraticFormsWrong)

/-- 'galoislaw50.QuadraticReduces': WHATEVER THE INPUT: true; the input reads as it did. -/
def quadraticReducesSpec : ChangeSpec := { name := "quadraticReduces", fn := fun _ => fun
  | [d] => { results := [.lit (.bool true)], args := [d] }
  | _ => none }
def quadraticReducesRow : OpenClaim := { program := "ytemmnocgkgoegaa", sum := "ef92da4edac7c6a0469043ef5e08de52020d0e0b06f56b6f408d5cf7ce59fecc", func := "galois/galoislaw50.QuadraticReduces", spec := "quadraticReduces", inPlace := ["math/bits.Add64", "math/bits.Sub64"], unfollowed := true, recurses := true, apart := false }
def QuadraticReducesSaid : Prop := quadraticReducesRow.holds Try.pinned (OpenSpec.ofChange quadraticReducesSpec)

/-- ITS FALSE NEIGHBOUR: 'it returns false'. Refute it at one input. -/
def quadraticReducesWrong : ChangeSpec := { name := "quadraticReduces", fn := fun _ => fun
  | [d] => { results := [.lit (.bool false)], args := [d] }
  | _ => none }
def QuadraticReducesWrongFalsely : Prop := quadraticReducesRow.holds Try.pinned (OpenSpec.ofChange quadraticReducesWrong)

/-- 'galoislaw50.QuadraticRepresents': WHATEVER THE INPUT: true; the input reads as it did. -/
def quadraticRepresentsSpec : ChangeSpec := { name := "quadraticRepresents", fn := fun _ => fun
  | [d1, d2] => { results := [.lit (.bool true)], args := [d1, d2] }
  | _ => none }
def quadraticRepresentsRow : OpenClaim := { program := "ytemmnocgkgoegaa", sum := "ef92da4edac7c6a0469043ef5e08de52020d0e0b06f56b6f408d5cf7ce59fecc", func := "galois/galoislaw50.QuadraticRepresents", spec := "quadraticRepresents", inPlace := ["math/bits.Add64", "math/bits.Sub64"], unfollowed := true, recurses := true, apart := false }
def QuadraticRepresentsSaid : Prop := quadraticRepresentsRow.holds Try.pinned (OpenSpec.ofChange quadraticRepresentsSpec)

/-- ITS FALSE NEIGHBOUR: 'it returns false'. Refute it at one input. -/
def quadraticRepresentsWrong : ChangeSpec := { name := "quadraticRepresents", fn := fun _ => fun
  | [d1, d2] => { results := [.lit (.bool false)], args := [d1, d2] }
  | _ => none }
def QuadraticRepresentsWrongFalsely : Prop := quadraticRepresentsRow.holds Try.pinned (OpenSpec.ofChange quadraticRepresentsWrong)

/-- 'galoislaw50.QuadraticCharacter': WHATEVER THE INPUT: true; the input reads as it did. -/
def quadraticCharacterSpec : ChangeSpec := { name := "quadraticCharacter", fn := fun _ => fun
  | [d1, d2, d3] => { results := [.lit (.bool true)], args := [d1, d2, d3] }
  | _ => none }
def quadraticCharacterRow : OpenClaim := { program := "ytemmnocgkgoegaa", sum := "ef92da4edac7c6a0469043ef5e08de52020d0e0b06f56b6f408d5cf7ce59fecc", func := "galois/galoislaw50.QuadraticCharacter", spec := "quadraticCharacter", inPlace := ["math/bits.Add64", "math/bits.Sub64"], unfollowed := true, recurses := true, apart := false }
def QuadraticCharacterSaid : Prop := quadraticCharacterRow.holds Try.pinned (OpenSpec.ofChange quadraticCharacterSpec)

/-- ITS FALSE NEIGHBOUR: 'it returns false'. Refute it at one input. -/
def quadraticCharacterWrong : ChangeSpec := { name := "quadraticCharacter", fn := fun _ => fun
  | [d1, d2, d3] => { results := [.lit (.bool false)], args := [d1, d2, d3] }
  | _ => none }
def QuadraticCharacterWrongFalsely : Prop := quadraticCharacterRow.holds Try.pinned (OpenSpec.ofChange quadraticCharacterWrong)

/-- 'galoislaw50.QuadraticEquivalence': WHATEVER THE INPUT: true; the input reads as it did. -/
def quadraticEquivalenceSpec : ChangeSpec := { name := "quadraticEquivalence", fn := fun _ => fun
  | [d1, d2] => { results := [.lit (.bool true)], args := [d1, d2] }
  | _ => none }
def quadraticEquivalenceRow : OpenClaim := { program := "ytemmnocgkgoegaa", sum := "ef92da4edac7c6a0469043ef5e08de52020d0e0b06f56b6f408d5cf7ce59fecc", func := "galois/galoislaw50.QuadraticEquivalence", spec := "quadraticEquivalence", inPlace := ["math/bits.Add64", "math/bits.Sub64"], unfollowed := true, recurses := true, apart := false }
def QuadraticEquivalenceSaid : Prop := quadraticEquivalenceRow.holds Try.pinned (OpenSpec.ofChange quadraticEquivalenceSpec)

/-- ITS FALSE NEIGHBOUR: 'it returns false'. Refute it at one input. -/
def quadraticEquivalenceWrong : ChangeSpec := { name := "quadraticEquivalence", fn := fun _ => fun
  | [d1, d2] => { results := [.lit (.bool false)], args := [d1, d2] }
  | _ => none }
def QuadraticEquivalenceWrongFalsely : Prop := quadraticEquivalenceRow.holds Try.pinned (OpenSpec.ofChange quadraticEquivalenceWrong)

/-- 'galoislaw50.QuadraticSymbols': WHATEVER THE INPUT: true; the input reads as it did. -/
def quadraticSymbolsSpec : ChangeSpec := { name := "quadraticSymbols", fn := fun _ => fun
  | [d1, d2] => { results := [.lit (.bool true)], args := [d1, d2] }
  | _ => none }
def quadraticSymbolsRow : OpenClaim := { program := "ytemmnocgkgoegaa", sum := "ef92da4edac7c6a0469043ef5e08de52020d0e0b06f56b6f408d5cf7ce59fecc", func := "galois/galoislaw50.QuadraticSymbols", spec := "quadraticSymbols", inPlace := ["math/bits.Add64", "math/bits.Sub64"], unfollowed := true, recurses := true, apart := false }
def QuadraticSymbolsSaid : Prop := quadraticSymbolsRow.holds Try.pinned (OpenSpec.ofChange quadraticSymbolsSpec)

/-- ITS FALSE NEIGHBOUR: 'it returns false'. Refute it at one input. -/
def quadraticSymbolsWrong : ChangeSpec := { name := "quadraticSymbols", fn := fun _ => fun
  | [d1, d2] => { results := [.lit (.bool false)], args := [d1, d2] }
  | _ => none }
def QuadraticSymbolsWrongFalsely : Prop := quadraticSymbolsRow.holds Try.pinned (OpenSpec.ofChange quadraticSymbolsWrong)

/-- 'galoislaw50.QuadraticClasses': WHATEVER THE INPUT: true; the input reads as it did. -/
def quadraticClassesSpec : ChangeSpec := { name := "quadraticClasses", fn := fun _ => fun
  | [d1, d2] => { results := [.lit (.bool true)], args := [d1, d2] }
  | _ => none }
def quadraticClassesRow : OpenClaim := { program := "ytemmnocgkgoegaa", sum := "ef92da4edac7c6a0469043ef5e08de52020d0e0b06f56b6f408d5cf7ce59fecc", func := "galois/galoislaw50.QuadraticClasses", spec := "quadraticClasses", inPlace := ["math/bits.Add64", "math/bits.Sub64"], unfollowed := true, recurses := true, apart := false }
def QuadraticClassesSaid : Prop := quadraticClassesRow.holds Try.pinned (OpenSpec.ofChange quadraticClassesSpec)

/-- ITS FALSE NEIGHBOUR: 'it returns false'. Refute it at one input. -/
def quadraticClassesWrong : ChangeSpec := { name := "quadraticClasses", fn := fun _ => fun
  | [d1, d2] => { results := [.lit (.bool false)], args := [d1, d2] }
  | _ => none }
def QuadraticClassesWrongFalsely : Prop := quadraticClassesRow.holds Try.pinned (OpenSpec.ofChange quadraticClassesWrong)

/- THE SECOND FORM. 'bulk': how many values and letters a reading holds, each counted each time it is reached (what is shared counts as often as it is met; a slice's spare places count too). A statement '..UptoSaid' is the law's where the arguments, and the package variables that the reading takes, are together of bulk at most 1048576: NARROWER than '..Said'. Prove '..Said' where nothing that the law and all that it calls make is longer than what came in: it says more and counts as full. Else prove '..UptoSaid'. A law counts once. -/
mutual
def uptoBulk {H : Type} : DataW H → Nat
  | .lit (.string bytes) => bytes.length + 1
  | .lit _ => 1
  | .nil => 1
  | .ptr d => uptoBulk d + 1
  | .slice elems spare => uptoBulkAll elems + uptoBulkAll spare + 1
  | .agg parts => uptoBulkAll parts + 1
  | .iface _ d => uptoBulk d + 1
  | .map entries => uptoBulkEntries entries + 1
  | .held _ => 1
def uptoBulkAll {H : Type} : List (DataW H) → Nat
  | [] => 0
  | d :: r => uptoBulk d + uptoBulkAll r
def uptoBulkEntries {H : Type} : List (Lit × DataW H) → Nat
  | [] => 0
  | x :: r => uptoBulkEntry x + uptoBulkEntries r
def uptoBulkEntry {H : Type} : Lit × DataW H → Nat
  | (.string bytes, d) => bytes.length + uptoBulk d + 1
  | (_, d) => uptoBulk d + 1
 end
def uptoSmall : (H : Type) → List (DataW H) → Bool := fun _ ds => decide (uptoBulkAll ds ≤ 1048576)
def OpenSpec.upto (s : _root_.Go.ChangeSpec) : _root_.Go.OpenSpec := { _root_.Go.OpenSpec.ofChange s with cond := some uptoSmall }

/-- 'galoislaw50.QuadraticDiscriminants', WHERE WHAT IT READS IS OF BULK AT MOST 1048576: true; the input reads as it did. -/
def quadraticDiscriminantsUptoRow : OpenClaim := { program := "ytemmnocgkgoegaa", sum := "ef92da4edac7c6a0469043ef5e08de52020d0e0b06f56b6f408d5cf7ce59fecc", func := "galois/galoislaw50.QuadraticDiscriminants", spec := "quadraticDiscriminants", inPlace := ["math/bits.Add64", "math/bits.Sub64"], unfollowed := true, recurses := true, apart := false, narrowed := true }
def QuadraticDiscriminantsUptoSaid : Prop := quadraticDiscriminantsUptoRow.holds Try.pinned (OpenSpec.upto quadraticDiscriminantsSpec)

/-- 'galoislaw50.QuadraticUnits', WHERE WHAT IT READS IS OF BULK AT MOST 1048576: true; the input reads as it did. -/
def quadraticUnitsUptoRow : OpenClaim := { program := "ytemmnocgkgoegaa", sum := "ef92da4edac7c6a0469043ef5e08de52020d0e0b06f56b6f408d5cf7ce59fecc", func := "galois/galoislaw50.QuadraticUnits", spec := "quadraticUnits", inPlace := ["math/bits.Add64", "math/bits.Sub64"], unfollowed := true, recurses := true, apart := false, narrowed := true }
def QuadraticUnitsUptoSaid : Prop := quadraticUnitsUptoRow.holds Try.pinned (OpenSpec.upto quadraticUnitsSpec)

/-- 'galoislaw50.QuadraticForms', WHERE WHAT IT READS IS OF BULK AT MOST 1048576: true; the input reads as it did. -/
def quadraticFormsUptoRow : OpenClaim := { program := "ytemmnocgkgoegaa", sum := "ef92da4edac7c6a0469043ef5e08de52020d0e0b06f56b6f408d5cf7ce59fecc", func := "galois/galoislaw50.QuadraticForms", spec := "quadraticForms", inPlace := ["math/bits.Add64", "math/bits.Sub64"], unfollowed := true, recurses := true, apart := false, narrowed := true }
def QuadraticFormsUptoSaid : Prop := quadraticFormsUptoRow.holds Try.pinned (OpenSpec.upto quadraticFormsSpec)

/-- 'galoislaw50.QuadraticReduces', WHERE WHAT IT READS IS OF BULK AT MOST 1048576: true; the input reads as it did. -/
def quadraticReducesUptoRow : OpenClaim := { program := "ytemmnocgkgoegaa", sum := "ef92da4edac7c6a0469043ef5e08de52020d0e0b06f56b6f408d5cf7ce59fecc", func := "galois/galoislaw50.QuadraticReduces", spec := "quadraticReduces", inPlace := ["math/bits.Add64", "math/bits.Sub64"], unfollowed := true, recurses := true, apart := false, narrowed := true }
def QuadraticReducesUptoSaid : Prop := quadraticReducesUptoRow.holds Try.pinned (OpenSpec.upto quadraticReducesSpec)

/-- 'galoislaw50.QuadraticRepresents', WHERE WHAT IT READS IS OF BULK AT MOST 1048576: true; the input reads as it did. -/
def quadraticRepresentsUptoRow : OpenClaim := { program := "ytemmnocgkgoegaa", sum := "ef92da4edac7c6a0469043ef5e08de52020d0e0b06f56b6f408d5cf7ce59fecc", func := "galois/galoislaw50.QuadraticRepresents", spec := "quadraticRepresents", inPlace := ["math/bits.Add64", "math/bits.Sub64"], unfollowed := true, recurses := true, apart := false, narrowed := true }
def QuadraticRepresentsUptoSaid : Prop := quadraticRepresentsUptoRow.holds Try.pinned (OpenSpec.upto quadraticRepresentsSpec)

/-- 'galoislaw50.QuadraticCharacter', WHERE WHAT IT READS IS OF BULK AT MOST 1048576: true; the input reads as it did. -/
def quadraticCharacterUptoRow : OpenClaim := { program := "ytemmnocgkgoegaa", sum := "ef92da4edac7c6a0469043ef5e08de52020d0e0b06f56b6f408d5cf7ce59fecc", func := "galois/galoislaw50.QuadraticCharacter", spec := "quadraticCharacter", inPlace := ["math/bits.Add64", "math/bits.Sub64"], unfollowed := true, recurses := true, apart := false, narrowed := true }
def QuadraticCharacterUptoSaid : Prop := quadraticCharacterUptoRow.holds Try.pinned (OpenSpec.upto quadraticCharacterSpec)

/-- 'galoislaw50.QuadraticEquivalence', WHERE WHAT IT READS IS OF BULK AT MOST 1048576: true; the input reads as it did. -/
def quadraticEquivalenceUptoRow : OpenClaim := { program := "ytemmnocgkgoegaa", sum := "ef92da4edac7c6a0469043ef5e08de52020d0e0b06f56b6f408d5cf7ce59fecc", func := "galois/galoislaw50.QuadraticEquivalence", spec := "quadraticEquivalence", inPlace := ["math/bits.Add64", "math/bits.Sub64"], unfollowed := true, recurses := true, apart := false, narrowed := true }
def QuadraticEquivalenceUptoSaid : Prop := quadraticEquivalenceUptoRow.holds Try.pinned (OpenSpec.upto quadraticEquivalenceSpec)

/-- 'galoislaw50.QuadraticSymbols', WHERE WHAT IT READS IS OF BULK AT MOST 1048576: true; the input reads as it did. -/
def quadraticSymbolsUptoRow : OpenClaim := { program := "ytemmnocgkgoegaa", sum := "ef92da4edac7c6a0469043ef5e08de52020d0e0b06f56b6f408d5cf7ce59fecc", func := "galois/galoislaw50.QuadraticSymbols", spec := "quadraticSymbols", inPlace := ["math/bits.Add64", "math/bits.Sub64"], unfollowed := true, recurses := true, apart := false, narrowed := true }
def QuadraticSymbolsUptoSaid : Prop := quadraticSymbolsUptoRow.holds Try.pinned (OpenSpec.upto quadraticSymbolsSpec)

/-- 'galoislaw50.QuadraticClasses', WHERE WHAT IT READS IS OF BULK AT MOST 1048576: true; the input reads as it did. -/
def quadraticClassesUptoRow : OpenClaim := { program := "ytemmnocgkgoegaa", sum := "ef92da4edac7c6a0469043ef5e08de52020d0e0b06f56b6f408d5cf7ce59fecc", func := "galois/galoislaw50.QuadraticClasses", spec := "quadraticClasses", inPlace := ["math/bits.Add64", "math/bits.Sub64"], unfollowed := true, recurses := true, apart := false, narrowed := true }
def QuadraticClassesUptoSaid : Prop := quadraticClassesUptoRow.holds Try.pinned (OpenSpec.upto quadraticClassesSpec)

end Rows
end Go.Proofs.Ytemmnocgkgoegaa
