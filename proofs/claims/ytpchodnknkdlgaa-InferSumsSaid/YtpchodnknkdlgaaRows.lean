/-
  No cell of these rows narrows 'for every input' (looked for: loops, veiled, ifaces, maps, wideKeys, modest, calm, conditions, laid).
  DERIVED. THE GIVEN ROWS OF THIS SEAT. 3 by the template 'for every input the law returns true; each argument reads behind the call as it read before'; 0 by the template 'total and deterministic' (their statements: YtpchodnknkdlgaaTotals.lean).
  GIVEN WITH THE SEED: the statements are not yours to turn. If you find one false, say at which input.
  Laid BY PROGRAM, IN A SANDBOX (cutbox-rows.mjs): the forced cells as the released guide's own fill.sh prints them over the translation 14046d8247521c8a… (all of the seat's roots in one cut). By AI agents, Wed Nov 11 2026. No macro, syntax, notation, axiom, sorry.
-/
import Derived.Test.YtpchodnknkdlgaaChecked
import GoSem.Claim
import GoSem.ClaimJoined
import GoSem.ClaimMapViews
import Derived.JoinedTies
import Derived.KernelRfl
namespace Go.Proofs.Ytpchodnknkdlgaa
/- THE CELL 'sum', in the pinned program and in every row, IS THE sha256 OF THE DUMP (.gsa) THAT YtpchodnknkdlgaaProg.lean LOADS. Nothing in Lean hashes anything: it is a label: what it is worth is what the hold of that sum in a sandbox is worth. -/
noncomputable def Try.pinned : Pinned := { name := "ytpchodnknkdlgaa", sum := "14046d8247521c8ac6e56e547f8c313afbfa44b403ca63e65b6739b10cbe1a19", checked := Try.checked }
namespace Rows
def none {H : Type} : Left H := { results := [], args := [] }

/-- 'clerestorylaw19.InferExposes': WHATEVER THE INPUT: true; the input reads as it did. -/
def inferExposesSpec : ChangeSpec := { name := "inferExposes", fn := fun _ => fun
  | [d] => { results := [.lit (.bool true)], args := [d] }
  | _ => none }
def inferExposesRow : OpenClaim := { program := "ytpchodnknkdlgaa", sum := "14046d8247521c8ac6e56e547f8c313afbfa44b403ca63e65b6739b10cbe1a19", func := "clerestory/clerestorylaw19.InferExposes", spec := "inferExposes", unfollowed := true, recurses := true, apart := false }
def InferExposesSaid : Prop := inferExposesRow.holds Try.pinned (OpenSpec.ofChange inferExposesSpec)

/-- ITS FALSE NEIGHBOUR: 'it returns false'. Refute it at one input. -/
def inferExposesWrong : ChangeSpec := { name := "inferExposes", fn := fun _ => fun
  | [d] => { results := [.lit (.bool false)], args := [d] }
  | _ => none }
def InferExposesWrongFalsely : Prop := inferExposesRow.holds Try.pinned (OpenSpec.ofChange inferExposesWrong)

/-- 'clerestorylaw19.InferSafe': WHATEVER THE INPUT: true; the input reads as it did. -/
def inferSafeSpec : ChangeSpec := { name := "inferSafe", fn := fun _ => fun
  | [d1, d2, d3, d4, d5] => { results := [.lit (.bool true)], args := [d1, d2, d3, d4, d5] }
  | _ => none }
def inferSafeRow : OpenClaim := { program := "ytpchodnknkdlgaa", sum := "14046d8247521c8ac6e56e547f8c313afbfa44b403ca63e65b6739b10cbe1a19", func := "clerestory/clerestorylaw19.InferSafe", spec := "inferSafe", unfollowed := true, recurses := true, apart := false }
def InferSafeSaid : Prop := inferSafeRow.holds Try.pinned (OpenSpec.ofChange inferSafeSpec)

/-- ITS FALSE NEIGHBOUR: 'it returns false'. Refute it at one input. -/
def inferSafeWrong : ChangeSpec := { name := "inferSafe", fn := fun _ => fun
  | [d1, d2, d3, d4, d5] => { results := [.lit (.bool false)], args := [d1, d2, d3, d4, d5] }
  | _ => none }
def InferSafeWrongFalsely : Prop := inferSafeRow.holds Try.pinned (OpenSpec.ofChange inferSafeWrong)

/-- 'clerestorylaw19.InferSums': WHATEVER THE INPUT: true; the input reads as it did. -/
def inferSumsSpec : ChangeSpec := { name := "inferSums", fn := fun _ => fun
  | [d1, d2] => { results := [.lit (.bool true)], args := [d1, d2] }
  | _ => none }
def inferSumsRow : OpenClaim := { program := "ytpchodnknkdlgaa", sum := "14046d8247521c8ac6e56e547f8c313afbfa44b403ca63e65b6739b10cbe1a19", func := "clerestory/clerestorylaw19.InferSums", spec := "inferSums", unfollowed := true, recurses := true, apart := false }
def InferSumsSaid : Prop := inferSumsRow.holds Try.pinned (OpenSpec.ofChange inferSumsSpec)

/-- ITS FALSE NEIGHBOUR: 'it returns false'. Refute it at one input. -/
def inferSumsWrong : ChangeSpec := { name := "inferSums", fn := fun _ => fun
  | [d1, d2] => { results := [.lit (.bool false)], args := [d1, d2] }
  | _ => none }
def InferSumsWrongFalsely : Prop := inferSumsRow.holds Try.pinned (OpenSpec.ofChange inferSumsWrong)

/- THE SECOND FORM. 'bulk': how many values and letters a reading holds, each counted each time it is reached (what is shared counts as often as it is met; a slice's spare places count too). A statement '..UptoSaid' is the law's where the arguments, and the package variables that the reading takes, are together of bulk at most 1048576: NARROWER than '..Said'. Prove '..Said' where nothing that the law and all that it calls make is longer than what came in: it says more and counts as full. Else prove '..UptoSaid'. A law counts once. -/
mutual
def uptoBulk {H : Type} : DataW H → Nat
  | .lit (.string bytes) => bytes.length + 1
  | .lit _ => 1
  | .nil => 1
  | .ptr d => uptoBulk d + 1
  | .slice elems spare => uptoBulkAll elems + uptoBulkAll spare + 1
  | .agg parts => uptoBulkAll parts + 1
  | .iface _ d => uptoBulk d + 1
  | .map entries => uptoBulkEntries entries + 1
  | .held _ => 1
def uptoBulkAll {H : Type} : List (DataW H) → Nat
  | [] => 0
  | d :: r => uptoBulk d + uptoBulkAll r
def uptoBulkEntries {H : Type} : List (Lit × DataW H) → Nat
  | [] => 0
  | x :: r => uptoBulkEntry x + uptoBulkEntries r
def uptoBulkEntry {H : Type} : Lit × DataW H → Nat
  | (.string bytes, d) => bytes.length + uptoBulk d + 1
  | (_, d) => uptoBulk d + 1
 end
def uptoSmall : (H : Type) → List (DataW H) → Bool := fun _ ds => decide (uptoBulkAll ds ≤ 1048576)
def OpenSpec.upto (s : _root_.Go.ChangeSpec) : _root_.Go.OpenSpec := { _root_.Go.OpenSpec.ofChange s with cond := some uptoSmall }

/-- 'clerestorylaw19.InferExposes', WHERE WHAT IT READS IS OF BULK AT MOST 1048576: true; the input reads as it did. -/
def inferExposesUptoRow : OpenClaim := { program := "ytpchodnknkdlgaa", sum := "14046d8247521c8ac6e56e547f8c313afbfa44b403ca63e65b6739b10cbe1a19", func := "clerestory/clerestorylaw19.InferExposes", spec := "inferExposes", unfollowed := true, recurses := true, apart := false, narrowed := true }
def InferExposesUptoSaid : Prop := inferExposesUptoRow.holds Try.pinned (OpenSpec.upto inferExposesSpec)

/-- 'clerestorylaw19.InferSafe', WHERE WHAT IT READS IS OF BULK AT MOST 1048576: true; the input reads as it did. -/
def inferSafeUptoRow : OpenClaim := { program := "ytpchodnknkdlgaa", sum := "14046d8247521c8ac6e56e547f8c313afbfa44b403ca63e65b6739b10cbe1a19", func := "clerestory/clerestorylaw19.InferSafe", spec := "inferSafe", unfollowed := true, recurses := true, apart := false, narrowed := true }
def InferSafeUptoSaid : Prop := inferSafeUptoRow.holds Try.pinned (OpenSpec.upto inferSafeSpec)

/-- 'clerestorylaw19.InferSums', WHERE WHAT IT READS IS OF BULK AT MOST 1048576: true; the input reads as it did. -/
def inferSumsUptoRow : OpenClaim := { program := "ytpchodnknkdlgaa", sum := "14046d8247521c8ac6e56e547f8c313afbfa44b403ca63e65b6739b10cbe1a19", func := "clerestory/clerestorylaw19.InferSums", spec := "inferSums", unfollowed := true, recurses := true, apart := false, narrowed := true }
def InferSumsUptoSaid : Prop := inferSumsUptoRow.holds Try.pinned (OpenSpec.upto inferSumsSpec)

end Rows
end Go.Proofs.Ytpchodnknkdlgaa
