/-
  No cell of these rows narrows 'for every input' (looked for: loops, veiled, ifaces, maps, wideKeys, modest, calm, conditions, laid).
  DERIVED. THE GIVEN ROWS OF THIS SEAT. 5 by the template 'for every input the law returns true; each argument reads behind the call as it read before'; 0 by the template 'total and deterministic' (their statements: YtkicidfkmfkbhaaTotals.lean).
  GIVEN WITH THE SEED: the statements are not yours to turn. If you find one false, say at which input.
  Laid BY PROGRAM, IN A SANDBOX (cutbox-rows.mjs): the forced cells as the released guide's own fill.sh prints them over the translation 652e50ad97efb33a… (all of the seat's roots in one cut). By AI agents, Wed Nov 11 2026. No macro, syntax, notation, axiom, sorry.
-/
import Derived.Test.YtkicidfkmfkbhaaChecked
import GoSem.Claim
import GoSem.ClaimJoined
import GoSem.ClaimMapViews
import Derived.JoinedTies
import Derived.KernelRfl
namespace Go.Proofs.Ytkicidfkmfkbhaa
/- THE CELL 'sum', in the pinned program and in every row, IS THE sha256 OF THE DUMP (.gsa) THAT YtkicidfkmfkbhaaProg.lean LOADS. Nothing in Lean hashes anything: it is a label: what it is worth is what the hold of that sum in a sandbox is worth. -/
noncomputable def Try.pinned : Pinned := { name := "ytkicidfkmfkbhaa", sum := "652e50ad97efb33a0f333aa54fa56e23d11abef8ff6aded0d8d723c6c74d3dd4", checked := Try.checked }
namespace Rows
def none {H : Type} : Left H := { results := [], args := [] }

/-- 'galoislaw59.PolygonDecides': WHATEVER THE INPUT: true; the input reads as it did. -/
def polygonDecidesSpec : ChangeSpec := { name := "polygonDecides", fn := fun _ => fun
  | [d] => { results := [.lit (.bool true)], args := [d] }
  | _ => none }
def polygonDecidesRow : OpenClaim := { program := "ytkicidfkmfkbhaa", sum := "652e50ad97efb33a0f333aa54fa56e23d11abef8ff6aded0d8d723c6c74d3dd4", func := "galois/galoislaw59.PolygonDecides", spec := "polygonDecides", unfollowed := true, recurses := true, apart := false }
def PolygonDecidesSaid : Prop := polygonDecidesRow.holds Try.pinned (OpenSpec.ofChange polygonDecidesSpec)

/-- ITS FALSE NEIGHBOUR: 'it returns false'. Refute it at one input. -/
def polygonDecidesWrong : ChangeSpec := { name := "polygonDecides", fn := fun _ => fun
  | [d] => { results := [.lit (.bool false)], args := [d] }
  | _ => none }
def PolygonDecidesWrongFalsely : Prop := polygonDecidesRow.holds Try.pinned (OpenSpec.ofChange polygonDecidesWrong)

/-- 'galoislaw59.PolygonCosines': WHATEVER THE INPUT: true; the input reads as it did. -/
def polygonCosinesSpec : ChangeSpec := { name := "polygonCosines", fn := fun _ => fun
  | [d] => { results := [.lit (.bool true)], args := [d] }
  | _ => none }
def polygonCosinesRow : OpenClaim := { program := "ytkicidfkmfkbhaa", sum := "652e50ad97efb33a0f333aa54fa56e23d11abef8ff6aded0d8d723c6c74d3dd4", func := "galois/galoislaw59.PolygonCosines", spec := "polygonCosines", unfollowed := true, recurses := true, apart := false }
def PolygonCosinesSaid : Prop := polygonCosinesRow.holds Try.pinned (OpenSpec.ofChange polygonCosinesSpec)

/-- ITS FALSE NEIGHBOUR: 'it returns false'. Refute it at one input. -/
def polygonCosinesWrong : ChangeSpec := { name := "polygonCosines", fn := fun _ => fun
  | [d] => { results := [.lit (.bool false)], args := [d] }
  | _ => none }
def PolygonCosinesWrongFalsely : Prop := polygonCosinesRow.holds Try.pinned (OpenSpec.ofChange polygonCosinesWrong)

/-- 'galoislaw59.PolygonGauss': WHATEVER THE INPUT: true; the input reads as it did. -/
def polygonGaussSpec : ChangeSpec := { name := "polygonGauss", fn := fun _ => fun
  | [d] => { results := [.lit (.bool true)], args := [d] }
  | _ => none }
def polygonGaussRow : OpenClaim := { program := "ytkicidfkmfkbhaa", sum := "652e50ad97efb33a0f333aa54fa56e23d11abef8ff6aded0d8d723c6c74d3dd4", func := "galois/galoislaw59.PolygonGauss", spec := "polygonGauss", unfollowed := true, recurses := true, apart := false }
def PolygonGaussSaid : Prop := polygonGaussRow.holds Try.pinned (OpenSpec.ofChange polygonGaussSpec)

/-- ITS FALSE NEIGHBOUR: 'it returns false'. Refute it at one input. -/
def polygonGaussWrong : ChangeSpec := { name := "polygonGauss", fn := fun _ => fun
  | [d] => { results := [.lit (.bool false)], args := [d] }
  | _ => none }
def PolygonGaussWrongFalsely : Prop := polygonGaussRow.holds Try.pinned (OpenSpec.ofChange polygonGaussWrong)

/-- 'galoislaw59.PolygonDouble': WHATEVER THE INPUT: true; the input reads as it did. -/
def polygonDoubleSpec : ChangeSpec := { name := "polygonDouble", fn := fun _ => fun
  | [d1, d2] => { results := [.lit (.bool true)], args := [d1, d2] }
  | _ => none }
def polygonDoubleRow : OpenClaim := { program := "ytkicidfkmfkbhaa", sum := "652e50ad97efb33a0f333aa54fa56e23d11abef8ff6aded0d8d723c6c74d3dd4", func := "galois/galoislaw59.PolygonDouble", spec := "polygonDouble", unfollowed := true, recurses := true, apart := false }
def PolygonDoubleSaid : Prop := polygonDoubleRow.holds Try.pinned (OpenSpec.ofChange polygonDoubleSpec)

/-- ITS FALSE NEIGHBOUR: 'it returns false'. Refute it at one input. -/
def polygonDoubleWrong : ChangeSpec := { name := "polygonDouble", fn := fun _ => fun
  | [d1, d2] => { results := [.lit (.bool false)], args := [d1, d2] }
  | _ => none }
def PolygonDoubleWrongFalsely : Prop := polygonDoubleRow.holds Try.pinned (OpenSpec.ofChange polygonDoubleWrong)

/-- 'galoislaw59.PolygonErrors': WHATEVER THE INPUT: true; the input reads as it did. -/
def polygonErrorsSpec : ChangeSpec := { name := "polygonErrors", fn := fun _ => fun
  | [d] => { results := [.lit (.bool true)], args := [d] }
  | _ => none }
def polygonErrorsRow : OpenClaim := { program := "ytkicidfkmfkbhaa", sum := "652e50ad97efb33a0f333aa54fa56e23d11abef8ff6aded0d8d723c6c74d3dd4", func := "galois/galoislaw59.PolygonErrors", spec := "polygonErrors", unfollowed := true, recurses := true, apart := false }
def PolygonErrorsSaid : Prop := polygonErrorsRow.holds Try.pinned (OpenSpec.ofChange polygonErrorsSpec)

/-- ITS FALSE NEIGHBOUR: 'it returns false'. Refute it at one input. -/
def polygonErrorsWrong : ChangeSpec := { name := "polygonErrors", fn := fun _ => fun
  | [d] => { results := [.lit (.bool false)], args := [d] }
  | _ => none }
def PolygonErrorsWrongFalsely : Prop := polygonErrorsRow.holds Try.pinned (OpenSpec.ofChange polygonErrorsWrong)

/- THE SECOND FORM. 'bulk': how many values and letters a reading holds, each counted each time it is reached (what is shared counts as often as it is met; a slice's spare places count too). A statement '..UptoSaid' is the law's where the arguments, and the package variables that the reading takes, are together of bulk at most 1048576: NARROWER than '..Said'. Prove '..Said' where nothing that the law and all that it calls make is longer than what came in: it says more and counts as full. Else prove '..UptoSaid'. A law counts once. -/
mutual
def uptoBulk {H : Type} : DataW H → Nat
  | .lit (.string bytes) => bytes.length + 1
  | .lit _ => 1
  | .nil => 1
  | .ptr d => uptoBulk d + 1
  | .slice elems spare => uptoBulkAll elems + uptoBulkAll spare + 1
  | .agg parts => uptoBulkAll parts + 1
  | .iface _ d => uptoBulk d + 1
  | .map entries => uptoBulkEntries entries + 1
  | .held _ => 1
def uptoBulkAll {H : Type} : List (DataW H) → Nat
  | [] => 0
  | d :: r => uptoBulk d + uptoBulkAll r
def uptoBulkEntries {H : Type} : List (Lit × DataW H) → Nat
  | [] => 0
  | x :: r => uptoBulkEntry x + uptoBulkEntries r
def uptoBulkEntry {H : Type} : Lit × DataW H → Nat
  | (.string bytes, d) => bytes.length + uptoBulk d + 1
  | (_, d) => uptoBulk d + 1
 end
def uptoSmall : (H : Type) → List (DataW H) → Bool := fun _ ds => decide (uptoBulkAll ds ≤ 1048576)
def OpenSpec.upto (s : _root_.Go.ChangeSpec) : _root_.Go.OpenSpec := { _root_.Go.OpenSpec.ofChange s with cond := some uptoSmall }

/-- 'galoislaw59.PolygonDecides', WHERE WHAT IT READS IS OF BULK AT MOST 1048576: true; the input reads as it did. -/
def polygonDecidesUptoRow : OpenClaim := { program := "ytkicidfkmfkbhaa", sum := "652e50ad97efb33a0f333aa54fa56e23d11abef8ff6aded0d8d723c6c74d3dd4", func := "galois/galoislaw59.PolygonDecides", spec := "polygonDecides", unfollowed := true, recurses := true, apart := false, narrowed := true }
def PolygonDecidesUptoSaid : Prop := polygonDecidesUptoRow.holds Try.pinned (OpenSpec.upto polygonDecidesSpec)

/-- 'galoislaw59.PolygonCosines', WHERE WHAT IT READS IS OF BULK AT MOST 1048576: true; the input reads as it did. -/
def polygonCosinesUptoRow : OpenClaim := { program := "ytkicidfkmfkbhaa", sum := "652e50ad97efb33a0f333aa54fa56e23d11abef8ff6aded0d8d723c6c74d3dd4", func := "galois/galoislaw59.PolygonCosines", spec := "polygonCosines", unfollowed := true, recurses := true, apart := false, narrowed := true }
def PolygonCosinesUptoSaid : Prop := polygonCosinesUptoRow.holds Try.pinned (OpenSpec.upto polygonCosinesSpec)

/-- 'galoislaw59.PolygonGauss', WHERE WHAT IT READS IS OF BULK AT MOST 1048576: true; the input reads as it did. -/
def polygonGaussUptoRow : OpenClaim := { program := "ytkicidfkmfkbhaa", sum := "652e50ad97efb33a0f333aa54fa56e23d11abef8ff6aded0d8d723c6c74d3dd4", func := "galois/galoislaw59.PolygonGauss", spec := "polygonGauss", unfollowed := true, recurses := true, apart := false, narrowed := true }
def PolygonGaussUptoSaid : Prop := polygonGaussUptoRow.holds Try.pinned (OpenSpec.upto polygonGaussSpec)

/-- 'galoislaw59.PolygonDouble', WHERE WHAT IT READS IS OF BULK AT MOST 1048576: true; the input reads as it did. -/
def polygonDoubleUptoRow : OpenClaim := { program := "ytkicidfkmfkbhaa", sum := "652e50ad97efb33a0f333aa54fa56e23d11abef8ff6aded0d8d723c6c74d3dd4", func := "galois/galoislaw59.PolygonDouble", spec := "polygonDouble", unfollowed := true, recurses := true, apart := false, narrowed := true }
def PolygonDoubleUptoSaid : Prop := polygonDoubleUptoRow.holds Try.pinned (OpenSpec.upto polygonDoubleSpec)

/-- 'galoislaw59.PolygonErrors', WHERE WHAT IT READS IS OF BULK AT MOST 1048576: true; the input reads as it did. -/
def polygonErrorsUptoRow : OpenClaim := { program := "ytkicidfkmfkbhaa", sum := "652e50ad97efb33a0f333aa54fa56e23d11abef8ff6aded0d8d723c6c74d3dd4", func := "galois/galoislaw59.PolygonErrors", spec := "polygonErrors", unfollowed := true, recurses := true, apart := false, narrowed := true }
def PolygonErrorsUptoSaid : Prop := polygonErrorsUptoRow.holds Try.pinned (OpenSpec.upto polygonErrorsSpec)

end Rows
end Go.Proofs.Ytkicidfkmfkbhaa
