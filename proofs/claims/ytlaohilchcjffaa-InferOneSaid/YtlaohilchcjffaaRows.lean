/-
  No cell of these rows narrows 'for every input' (looked for: loops, veiled, ifaces, maps, wideKeys, modest, calm, conditions, laid).
  DERIVED. THE GIVEN ROWS OF THIS SEAT. 4 by the template 'for every input the law returns true; each argument reads behind the call as it read before'; 0 by the template 'total and deterministic' (their statements: YtlaohilchcjffaaTotals.lean).
  GIVEN WITH THE SEED: the statements are not yours to turn. If you find one false, say at which input.
  Laid BY PROGRAM, IN A SANDBOX (cutbox-rows.mjs): the forced cells as the released guide's own fill.sh prints them over the translation 4a1e79679cb775f5… (all of the seat's roots in one cut). By AI agents, Wed Nov 11 2026. No macro, syntax, notation, axiom, sorry.
-/
import Derived.Test.YtlaohilchcjffaaChecked
import GoSem.Claim
import GoSem.ClaimJoined
import GoSem.ClaimMapViews
import Derived.JoinedTies
import Derived.KernelRfl
namespace Go.Proofs.Ytlaohilchcjffaa
/- THE CELL 'sum', in the pinned program and in every row, IS THE sha256 OF THE DUMP (.gsa) THAT YtlaohilchcjffaaProg.lean LOADS. Nothing in Lean hashes anything: it is a label: what it is worth is what the hold of that sum in a sandbox is worth. -/
noncomputable def Try.pinned : Pinned := { name := "ytlaohilchcjffaa", sum := "4a1e79679cb775f5b0837f246b13a0df2a9f87b522504ee17f72dfa2255e9b61", checked := Try.checked }
namespace Rows
def none {H : Type} : Left H := { results := [], args := [] }

/-- 'clerestorylaw19.InferPlays': WHATEVER THE INPUT: true; the input reads as it did. -/
def inferPlaysSpec : ChangeSpec := { name := "inferPlays", fn := fun _ => fun
  | [d1, d2, d3, d4, d5, d6] => { results := [.lit (.bool true)], args := [d1, d2, d3, d4, d5, d6] }
  | _ => none }
def inferPlaysRow : OpenClaim := { program := "ytlaohilchcjffaa", sum := "4a1e79679cb775f5b0837f246b13a0df2a9f87b522504ee17f72dfa2255e9b61", func := "clerestory/clerestorylaw19.InferPlays", spec := "inferPlays", unfollowed := true, recurses := true, apart := false }
def InferPlaysSaid : Prop := inferPlaysRow.holds Try.pinned (OpenSpec.ofChange inferPlaysSpec)

/-- ITS FALSE NEIGHBOUR: 'it returns false'. Refute it at one input. -/
def inferPlaysWrong : ChangeSpec := { name := "inferPlays", fn := fun _ => fun
  | [d1, d2, d3, d4, d5, d6] => { results := [.lit (.bool false)], args := [d1, d2, d3, d4, d5, d6] }
  | _ => none }
def InferPlaysWrongFalsely : Prop := inferPlaysRow.holds Try.pinned (OpenSpec.ofChange inferPlaysWrong)

/-- 'clerestorylaw19.InferOne': WHATEVER THE INPUT: true; the input reads as it did. -/
def inferOneSpec : ChangeSpec := { name := "inferOne", fn := fun _ => fun
  | [d1, d2] => { results := [.lit (.bool true)], args := [d1, d2] }
  | _ => none }
def inferOneRow : OpenClaim := { program := "ytlaohilchcjffaa", sum := "4a1e79679cb775f5b0837f246b13a0df2a9f87b522504ee17f72dfa2255e9b61", func := "clerestory/clerestorylaw19.InferOne", spec := "inferOne", unfollowed := true, recurses := true, apart := false }
def InferOneSaid : Prop := inferOneRow.holds Try.pinned (OpenSpec.ofChange inferOneSpec)

/-- ITS FALSE NEIGHBOUR: 'it returns false'. Refute it at one input. -/
def inferOneWrong : ChangeSpec := { name := "inferOne", fn := fun _ => fun
  | [d1, d2] => { results := [.lit (.bool false)], args := [d1, d2] }
  | _ => none }
def InferOneWrongFalsely : Prop := inferOneRow.holds Try.pinned (OpenSpec.ofChange inferOneWrong)

/-- 'clerestorylaw19.InferChecks': WHATEVER THE INPUT: true; the input reads as it did. -/
def inferChecksSpec : ChangeSpec := { name := "inferChecks", fn := fun _ => fun
  | [d1, d2, d3] => { results := [.lit (.bool true)], args := [d1, d2, d3] }
  | _ => none }
def inferChecksRow : OpenClaim := { program := "ytlaohilchcjffaa", sum := "4a1e79679cb775f5b0837f246b13a0df2a9f87b522504ee17f72dfa2255e9b61", func := "clerestory/clerestorylaw19.InferChecks", spec := "inferChecks", unfollowed := true, recurses := true, apart := false }
def InferChecksSaid : Prop := inferChecksRow.holds Try.pinned (OpenSpec.ofChange inferChecksSpec)

/-- ITS FALSE NEIGHBOUR: 'it returns false'. Refute it at one input. -/
def inferChecksWrong : ChangeSpec := { name := "inferChecks", fn := fun _ => fun
  | [d1, d2, d3] => { results := [.lit (.bool false)], args := [d1, d2, d3] }
  | _ => none }
def InferChecksWrongFalsely : Prop := inferChecksRow.holds Try.pinned (OpenSpec.ofChange inferChecksWrong)

/-- 'clerestorylaw19.InferAsks': WHATEVER THE INPUT: true; the input reads as it did. -/
def inferAsksSpec : ChangeSpec := { name := "inferAsks", fn := fun _ => fun
  | [d1, d2, d3, d4, d5] => { results := [.lit (.bool true)], args := [d1, d2, d3, d4, d5] }
  | _ => none }
def inferAsksRow : OpenClaim := { program := "ytlaohilchcjffaa", sum := "4a1e79679cb775f5b0837f246b13a0df2a9f87b522504ee17f72dfa2255e9b61", func := "clerestory/clerestorylaw19.InferAsks", spec := "inferAsks", unfollowed := true, recurses := true, apart := false }
def InferAsksSaid : Prop := inferAsksRow.holds Try.pinned (OpenSpec.ofChange inferAsksSpec)

/-- ITS FALSE NEIGHBOUR: 'it returns false'. Refute it at one input. -/
def inferAsksWrong : ChangeSpec := { name := "inferAsks", fn := fun _ => fun
  | [d1, d2, d3, d4, d5] => { results := [.lit (.bool false)], args := [d1, d2, d3, d4, d5] }
  | _ => none }
def InferAsksWrongFalsely : Prop := inferAsksRow.holds Try.pinned (OpenSpec.ofChange inferAsksWrong)

/- THE SECOND FORM. 'bulk': how many values and letters a reading holds, each counted each time it is reached (what is shared counts as often as it is met; a slice's spare places count too). A statement '..UptoSaid' is the law's where the arguments, and the package variables that the reading takes, are together of bulk at most 1048576: NARROWER than '..Said'. Prove '..Said' where nothing that the law and all that it calls make is longer than what came in: it says more and counts as full. Else prove '..UptoSaid'. A law counts once. -/
mutual
def uptoBulk {H : Type} : DataW H → Nat
  | .lit (.string bytes) => bytes.length + 1
  | .lit _ => 1
  | .nil => 1
  | .ptr d => uptoBulk d + 1
  | .slice elems spare => uptoBulkAll elems + uptoBulkAll spare + 1
  | .agg parts => uptoBulkAll parts + 1
  | .iface _ d => uptoBulk d + 1
  | .map entries => uptoBulkEntries entries + 1
  | .held _ => 1
def uptoBulkAll {H : Type} : List (DataW H) → Nat
  | [] => 0
  | d :: r => uptoBulk d + uptoBulkAll r
def uptoBulkEntries {H : Type} : List (Lit × DataW H) → Nat
  | [] => 0
  | x :: r => uptoBulkEntry x + uptoBulkEntries r
def uptoBulkEntry {H : Type} : Lit × DataW H → Nat
  | (.string bytes, d) => bytes.length + uptoBulk d + 1
  | (_, d) => uptoBulk d + 1
 end
def uptoSmall : (H : Type) → List (DataW H) → Bool := fun _ ds => decide (uptoBulkAll ds ≤ 1048576)
def OpenSpec.upto (s : _root_.Go.ChangeSpec) : _root_.Go.OpenSpec := { _root_.Go.OpenSpec.ofChange s with cond := some uptoSmall }

/-- 'clerestorylaw19.InferPlays', WHERE WHAT IT READS IS OF BULK AT MOST 1048576: true; the input reads as it did. -/
def inferPlaysUptoRow : OpenClaim := { program := "ytlaohilchcjffaa", sum := "4a1e79679cb775f5b0837f246b13a0df2a9f87b522504ee17f72dfa2255e9b61", func := "clerestory/clerestorylaw19.InferPlays", spec := "inferPlays", unfollowed := true, recurses := true, apart := false, narrowed := true }
def InferPlaysUptoSaid : Prop := inferPlaysUptoRow.holds Try.pinned (OpenSpec.upto inferPlaysSpec)

/-- 'clerestorylaw19.InferOne', WHERE WHAT IT READS IS OF BULK AT MOST 1048576: true; the input reads as it did. -/
def inferOneUptoRow : OpenClaim := { program := "ytlaohilchcjffaa", sum := "4a1e79679cb775f5b0837f246b13a0df2a9f87b522504ee17f72dfa2255e9b61", func := "clerestory/clerestorylaw19.InferOne", spec := "inferOne", unfollowed := true, recurses := true, apart := false, narrowed := true }
def InferOneUptoSaid : Prop := inferOneUptoRow.holds Try.pinned (OpenSpec.upto inferOneSpec)

/-- 'clerestorylaw19.InferChecks', WHERE WHAT IT READS IS OF BULK AT MOST 1048576: true; the input reads as it did. -/
def inferChecksUptoRow : OpenClaim := { program := "ytlaohilchcjffaa", sum := "4a1e79679cb775f5b0837f246b13a0df2a9f87b522504ee17f72dfa2255e9b61", func := "clerestory/clerestorylaw19.InferChecks", spec := "inferChecks", unfollowed := true, recurses := true, apart := false, narrowed := true }
def InferChecksUptoSaid : Prop := inferChecksUptoRow.holds Try.pinned (OpenSpec.upto inferChecksSpec)

/-- 'clerestorylaw19.InferAsks', WHERE WHAT IT READS IS OF BULK AT MOST 1048576: true; the input reads as it did. -/
def inferAsksUptoRow : OpenClaim := { program := "ytlaohilchcjffaa", sum := "4a1e79679cb775f5b0837f246b13a0df2a9f87b522504ee17f72dfa2255e9b61", func := "clerestory/clerestorylaw19.InferAsks", spec := "inferAsks", unfollowed := true, recurses := true, apart := false, narrowed := true }
def InferAsksUptoSaid : Prop := inferAsksUptoRow.holds Try.pinned (OpenSpec.upto inferAsksSpec)

end Rows
end Go.Proofs.Ytlaohilchcjffaa
