/-
  No cell of these rows narrows 'for every input' (looked for: loops, veiled, ifaces, maps, wideKeys, modest, calm, conditions, laid).
  DERIVED. THE GIVEN ROWS OF THIS SEAT. 5 by the template 'for every input the law returns true; each argument reads behind the call as it read before'; 0 by the template 'total and deterministic' (their statements: YtjoiijdhelmjmaaTotals.lean).
  GIVEN WITH THE SEED: the statements are not yours to turn. If you find one false, say at which input.
  Laid BY PROGRAM, IN A SANDBOX (cutbox-rows.mjs): the forced cells as the released guide's own fill.sh prints them over the translation 76364a81f3c65464… (all of the seat's roots in one cut). By AI agents, Wed Nov 11 2026. No macro, syntax, notation, axiom, sorry.
-/
import Derived.Test.YtjoiijdhelmjmaaChecked
import GoSem.Claim
import GoSem.ClaimJoined
import GoSem.ClaimMapViews
import Derived.JoinedTies
import Derived.KernelRfl
namespace Go.Proofs.Ytjoiijdhelmjmaa
/- THE CELL 'sum', in the pinned program and in every row, IS THE sha256 OF THE DUMP (.gsa) THAT YtjoiijdhelmjmaaProg.lean LOADS. Nothing in Lean hashes anything: it is a label: what it is worth is what the hold of that sum in a sandbox is worth. -/
noncomputable def Try.pinned : Pinned := { name := "ytjoiijdhelmjmaa", sum := "76364a81f3c65464c5507eeb3b0bcd88979c4f2e0e45e23ecb3d33dcdf7f5eb7", checked := Try.checked }
namespace Rows
def none {H : Type} : Left H := { results := [], args := [] }

/-- 'clerestorylaw06.IvlSets': WHATEVER THE INPUT: true; the input reads as it did. -/
def ivlSetsSpec : ChangeSpec := { name := "ivlSets", fn := fun _ => fun
  | [d1, d2, d3] => { results := [.lit (.bool true)], args := [d1, d2, d3] }
  | _ => none }
def ivlSetsRow : OpenClaim := { program := "ytjoiijdhelmjmaa", sum := "76364a81f3c65464c5507eeb3b0bcd88979c4f2e0e45e23ecb3d33dcdf7f5eb7", func := "clerestory/clerestorylaw06.IvlSets", spec := "ivlSets", unfollowed := true, recurses := true, apart := false }
def IvlSetsSaid : Prop := ivlSetsRow.holds Try.pinned (OpenSpec.ofChange ivlSetsSpec)

/-- ITS FALSE NEIGHBOUR: 'it returns false'. Refute it at one input. -/
def ivlSetsWrong : ChangeSpec := { name := "ivlSets", fn := fun _ => fun
  | [d1, d2, d3] => { results := [.lit (.bool false)], args := [d1, d2, d3] }
  | _ => none }
def IvlSetsWrongFalsely : Prop := ivlSetsRow.holds Try.pinned (OpenSpec.ofChange ivlSetsWrong)

/-- 'clerestorylaw06.IvlAlgebra': WHATEVER THE INPUT: true; the input reads as it did. -/
def ivlAlgebraSpec : ChangeSpec := { name := "ivlAlgebra", fn := fun _ => fun
  | [d1, d2, d3, d4] => { results := [.lit (.bool true)], args := [d1, d2, d3, d4] }
  | _ => none }
def ivlAlgebraRow : OpenClaim := { program := "ytjoiijdhelmjmaa", sum := "76364a81f3c65464c5507eeb3b0bcd88979c4f2e0e45e23ecb3d33dcdf7f5eb7", func := "clerestory/clerestorylaw06.IvlAlgebra", spec := "ivlAlgebra", unfollowed := true, recurses := true, apart := false }
def IvlAlgebraSaid : Prop := ivlAlgebraRow.holds Try.pinned (OpenSpec.ofChange ivlAlgebraSpec)

/-- ITS FALSE NEIGHBOUR: 'it returns false'. Refute it at one input. -/
def ivlAlgebraWrong : ChangeSpec := { name := "ivlAlgebra", fn := fun _ => fun
  | [d1, d2, d3, d4] => { results := [.lit (.bool false)], args := [d1, d2, d3, d4] }
  | _ => none }
def IvlAlgebraWrongFalsely : Prop := ivlAlgebraRow.holds Try.pinned (OpenSpec.ofChange ivlAlgebraWrong)

/-- 'clerestorylaw06.IvlKeys': WHATEVER THE INPUT: true; the input reads as it did. -/
def ivlKeysSpec : ChangeSpec := { name := "ivlKeys", fn := fun _ => fun
  | [d1, d2] => { results := [.lit (.bool true)], args := [d1, d2] }
  | _ => none }
def ivlKeysRow : OpenClaim := { program := "ytjoiijdhelmjmaa", sum := "76364a81f3c65464c5507eeb3b0bcd88979c4f2e0e45e23ecb3d33dcdf7f5eb7", func := "clerestory/clerestorylaw06.IvlKeys", spec := "ivlKeys", unfollowed := true, recurses := true, apart := false }
def IvlKeysSaid : Prop := ivlKeysRow.holds Try.pinned (OpenSpec.ofChange ivlKeysSpec)

/-- ITS FALSE NEIGHBOUR: 'it returns false'. Refute it at one input. -/
def ivlKeysWrong : ChangeSpec := { name := "ivlKeys", fn := fun _ => fun
  | [d1, d2] => { results := [.lit (.bool false)], args := [d1, d2] }
  | _ => none }
def IvlKeysWrongFalsely : Prop := ivlKeysRow.holds Try.pinned (OpenSpec.ofChange ivlKeysWrong)

/-- 'clerestorylaw06.IvlSides': WHATEVER THE INPUT: true; the input reads as it did. -/
def ivlSidesSpec : ChangeSpec := { name := "ivlSides", fn := fun _ => fun
  | [d1, d2, d3, d4] => { results := [.lit (.bool true)], args := [d1, d2, d3, d4] }
  | _ => none }
def ivlSidesRow : OpenClaim := { program := "ytjoiijdhelmjmaa", sum := "76364a81f3c65464c5507eeb3b0bcd88979c4f2e0e45e23ecb3d33dcdf7f5eb7", func := "clerestory/clerestorylaw06.IvlSides", spec := "ivlSides", unfollowed := true, recurses := true, apart := false }
def IvlSidesSaid : Prop := ivlSidesRow.holds Try.pinned (OpenSpec.ofChange ivlSidesSpec)

/-- ITS FALSE NEIGHBOUR: 'it returns false'. Refute it at one input. -/
def ivlSidesWrong : ChangeSpec := { name := "ivlSides", fn := fun _ => fun
  | [d1, d2, d3, d4] => { results := [.lit (.bool false)], args := [d1, d2, d3, d4] }
  | _ => none }
def IvlSidesWrongFalsely : Prop := ivlSidesRow.holds Try.pinned (OpenSpec.ofChange ivlSidesWrong)

/-- 'clerestorylaw06.IvlThree': WHATEVER THE INPUT: true; the input reads as it did. -/
def ivlThreeSpec : ChangeSpec := { name := "ivlThree", fn := fun _ => fun
  | [d1, d2, d3] => { results := [.lit (.bool true)], args := [d1, d2, d3] }
  | _ => none }
def ivlThreeRow : OpenClaim := { program := "ytjoiijdhelmjmaa", sum := "76364a81f3c65464c5507eeb3b0bcd88979c4f2e0e45e23ecb3d33dcdf7f5eb7", func := "clerestory/clerestorylaw06.IvlThree", spec := "ivlThree", unfollowed := true, recurses := true, apart := false }
def IvlThreeSaid : Prop := ivlThreeRow.holds Try.pinned (OpenSpec.ofChange ivlThreeSpec)

/-- ITS FALSE NEIGHBOUR: 'it returns false'. Refute it at one input. -/
def ivlThreeWrong : ChangeSpec := { name := "ivlThree", fn := fun _ => fun
  | [d1, d2, d3] => { results := [.lit (.bool false)], args := [d1, d2, d3] }
  | _ => none }
def IvlThreeWrongFalsely : Prop := ivlThreeRow.holds Try.pinned (OpenSpec.ofChange ivlThreeWrong)

/- THE SECOND FORM. 'bulk': how many values and letters a reading holds, each counted each time it is reached (what is shared counts as often as it is met; a slice's spare places count too). A statement '..UptoSaid' is the law's where the arguments, and the package variables that the reading takes, are together of bulk at most 1048576: NARROWER than '..Said'. Prove '..Said' where nothing that the law and all that it calls make is longer than what came in: it says more and counts as full. Else prove '..UptoSaid'. A law counts once. -/
mutual
def uptoBulk {H : Type} : DataW H → Nat
  | .lit (.string bytes) => bytes.length + 1
  | .lit _ => 1
  | .nil => 1
  | .ptr d => uptoBulk d + 1
  | .slice elems spare => uptoBulkAll elems + uptoBulkAll spare + 1
  | .agg parts => uptoBulkAll parts + 1
  | .iface _ d => uptoBulk d + 1
  | .map entries => uptoBulkEntries entries + 1
  | .held _ => 1
def uptoBulkAll {H : Type} : List (DataW H) → Nat
  | [] => 0
  | d :: r => uptoBulk d + uptoBulkAll r
def uptoBulkEntries {H : Type} : List (Lit × DataW H) → Nat
  | [] => 0
  | x :: r => uptoBulkEntry x + uptoBulkEntries r
def uptoBulkEntry {H : Type} : Lit × DataW H → Nat
  | (.string bytes, d) => bytes.length + uptoBulk d + 1
  | (_, d) => uptoBulk d + 1
 end
def uptoSmall : (H : Type) → List (DataW H) → Bool := fun _ ds => decide (uptoBulkAll ds ≤ 1048576)
def OpenSpec.upto (s : _root_.Go.ChangeSpec) : _root_.Go.OpenSpec := { _root_.Go.OpenSpec.ofChange s with cond := some uptoSmall }

/-- 'clerestorylaw06.IvlSets', WHERE WHAT IT READS IS OF BULK AT MOST 1048576: true; the input reads as it did. -/
def ivlSetsUptoRow : OpenClaim := { program := "ytjoiijdhelmjmaa", sum := "76364a81f3c65464c5507eeb3b0bcd88979c4f2e0e45e23ecb3d33dcdf7f5eb7", func := "clerestory/clerestorylaw06.IvlSets", spec := "ivlSets", unfollowed := true, recurses := true, apart := false, narrowed := true }
def IvlSetsUptoSaid : Prop := ivlSetsUptoRow.holds Try.pinned (OpenSpec.upto ivlSetsSpec)

/-- 'clerestorylaw06.IvlAlgebra', WHERE WHAT IT READS IS OF BULK AT MOST 1048576: true; the input reads as it did. -/
def ivlAlgebraUptoRow : OpenClaim := { program := "ytjoiijdhelmjmaa", sum := "76364a81f3c65464c5507eeb3b0bcd88979c4f2e0e45e23ecb3d33dcdf7f5eb7", func := "clerestory/clerestorylaw06.IvlAlgebra", spec := "ivlAlgebra", unfollowed := true, recurses := true, apart := false, narrowed := true }
def IvlAlgebraUptoSaid : Prop := ivlAlgebraUptoRow.holds Try.pinned (OpenSpec.upto ivlAlgebraSpec)

/-- 'clerestorylaw06.IvlKeys', WHERE WHAT IT READS IS OF BULK AT MOST 1048576: true; the input reads as it did. -/
def ivlKeysUptoRow : OpenClaim := { program := "ytjoiijdhelmjmaa", sum := "76364a81f3c65464c5507eeb3b0bcd88979c4f2e0e45e23ecb3d33dcdf7f5eb7", func := "clerestory/clerestorylaw06.IvlKeys", spec := "ivlKeys", unfollowed := true, recurses := true, apart := false, narrowed := true }
def IvlKeysUptoSaid : Prop := ivlKeysUptoRow.holds Try.pinned (OpenSpec.upto ivlKeysSpec)

/-- 'clerestorylaw06.IvlSides', WHERE WHAT IT READS IS OF BULK AT MOST 1048576: true; the input reads as it did. -/
def ivlSidesUptoRow : OpenClaim := { program := "ytjoiijdhelmjmaa", sum := "76364a81f3c65464c5507eeb3b0bcd88979c4f2e0e45e23ecb3d33dcdf7f5eb7", func := "clerestory/clerestorylaw06.IvlSides", spec := "ivlSides", unfollowed := true, recurses := true, apart := false, narrowed := true }
def IvlSidesUptoSaid : Prop := ivlSidesUptoRow.holds Try.pinned (OpenSpec.upto ivlSidesSpec)

/-- 'clerestorylaw06.IvlThree', WHERE WHAT IT READS IS OF BULK AT MOST 1048576: true; the input reads as it did. -/
def ivlThreeUptoRow : OpenClaim := { program := "ytjoiijdhelmjmaa", sum := "76364a81f3c65464c5507eeb3b0bcd88979c4f2e0e45e23ecb3d33dcdf7f5eb7", func := "clerestory/clerestorylaw06.IvlThree", spec := "ivlThree", unfollowed := true, recurses := true, apart := false, narrowed := true }
def IvlThreeUptoSaid : Prop := ivlThreeUptoRow.holds Try.pinned (OpenSpec.upto ivlThreeSpec)

end Rows
end Go.Proofs.Ytjoiijdhelmjmaa
