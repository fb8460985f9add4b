/-
  No cell of these rows narrows 'for every input' (looked for: loops, veiled, ifaces, maps, wideKeys, modest, calm, conditions, laid).
  DERIVED. THE GIVEN ROWS OF THIS SEAT. 6 by the template 'for every input the law returns true; each argument reads behind the call as it read before'; 0 by the template 'total and deterministic' (their statements: YtcdldjiogoapkaaTotals.lean).
  GIVEN WITH THE SEED: the statements are not yours to turn. If you find one false, say at which input.
  Laid BY PROGRAM, IN A SANDBOX (cutbox-rows.mjs): the forced cells as the released guide's own fill.sh prints them over the translation 017e9fc0cf9b7560… (all of the seat's roots in one cut). By AI agents, Wed Nov 11 2026. No macro, syntax, notation, axiom, sorry.
-/
import Derived.Test.YtcdldjiogoapkaaChecked
import GoSem.Claim
import GoSem.ClaimJoined
import GoSem.ClaimMapViews
import Derived.JoinedTies
import Derived.KernelRfl
namespace Go.Proofs.Ytcdldjiogoapkaa
/- THE CELL 'sum', in the pinned program and in every row, IS THE sha256 OF THE DUMP (.gsa) THAT YtcdldjiogoapkaaProg.lean LOADS. Nothing in Lean hashes anything: it is a label: what it is worth is what the hold of that sum in a sandbox is worth. -/
noncomputable def Try.pinned : Pinned := { name := "ytcdldjiogoapkaa", sum := "017e9fc0cf9b756032a0ea44b4c1a0827ead2cdf5202c13a261b7884d343cb13", checked := Try.checked }
namespace Rows
def none {H : Type} : Left H := { results := [], args := [] }

/-- 'clerestorylaw10.SegtreePlays': WHATEVER THE INPUT: true; the input reads as it did. -/
def segtreePlaysSpec : ChangeSpec := { name := "segtreePlays", fn := fun _ => fun
  | [d1, d2, d3] => { results := [.lit (.bool true)], args := [d1, d2, d3] }
  | _ => none }
def segtreePlaysRow : OpenClaim := { program := "ytcdldjiogoapkaa", sum := "017e9fc0cf9b756032a0ea44b4c1a0827ead2cdf5202c13a261b7884d343cb13", func := "clerestory/clerestorylaw10.SegtreePlays", spec := "segtreePlays", unfollowed := true, recurses := true, apart := false }
def SegtreePlaysSaid : Prop := segtreePlaysRow.holds Try.pinned (OpenSpec.ofChange segtreePlaysSpec)

/-- ITS FALSE NEIGHBOUR: 'it returns false'. Refute it at one input. -/
def segtreePlaysWrong : ChangeSpec := { name := "segtreePlays", fn := fun _ => fun
  | [d1, d2, d3] => { results := [.lit (.bool false)], args := [d1, d2, d3] }
  | _ => none }
def SegtreePlaysWrongFalsely : Prop := segtreePlaysRow.holds Try.pinned (OpenSpec.ofChange segtreePlaysWrong)

/-- 'clerestorylaw10.SegtreeSpans': WHATEVER THE INPUT: true; the input reads as it did. -/
def segtreeSpansSpec : ChangeSpec := { name := "segtreeSpans", fn := fun _ => fun
  | [d1, d2, d3, d4] => { results := [.lit (.bool true)], args := [d1, d2, d3, d4] }
  | _ => none }
def segtreeSpansRow : OpenClaim := { program := "ytcdldjiogoapkaa", sum := "017e9fc0cf9b756032a0ea44b4c1a0827ead2cdf5202c13a261b7884d343cb13", func := "clerestory/clerestorylaw10.SegtreeSpans", spec := "segtreeSpans", unfollowed := true, recurses := true, apart := false }
def SegtreeSpansSaid : Prop := segtreeSpansRow.holds Try.pinned (OpenSpec.ofChange segtreeSpansSpec)

/-- ITS FALSE NEIGHBOUR: 'it returns false'. Refute it at one input. -/
def segtreeSpansWrong : ChangeSpec := { name := "segtreeSpans", fn := fun _ => fun
  | [d1, d2, d3, d4] => { results := [.lit (.bool false)], args := [d1, d2, d3, d4] }
  | _ => none }
def SegtreeSpansWrongFalsely : Prop := segtreeSpansRow.holds Try.pinned (OpenSpec.ofChange segtreeSpansWrong)

/-- 'clerestorylaw10.SegtreeKeys': WHATEVER THE INPUT: true; the input reads as it did. -/
def segtreeKeysSpec : ChangeSpec := { name := "segtreeKeys", fn := fun _ => fun
  | [d1, d2] => { results := [.lit (.bool true)], args := [d1, d2] }
  | _ => none }
def segtreeKeysRow : OpenClaim := { program := "ytcdldjiogoapkaa", sum := "017e9fc0cf9b756032a0ea44b4c1a0827ead2cdf5202c13a261b7884d343cb13", func := "clerestory/clerestorylaw10.SegtreeKeys", spec := "segtreeKeys", unfollowed := true, recurses := true, apart := false }
def SegtreeKeysSaid : Prop := segtreeKeysRow.holds Try.pinned (OpenSpec.ofChange segtreeKeysSpec)

/-- ITS FALSE NEIGHBOUR: 'it returns false'. Refute it at one input. -/
def segtreeKeysWrong : ChangeSpec := { name := "segtreeKeys", fn := fun _ => fun
  | [d1, d2] => { results := [.lit (.bool false)], args := [d1, d2] }
  | _ => none }
def SegtreeKeysWrongFalsely : Prop := segtreeKeysRow.holds Try.pinned (OpenSpec.ofChange segtreeKeysWrong)

/-- 'clerestorylaw10.SegtreeAll': WHATEVER THE INPUT: true; the input reads as it did. -/
def segtreeAllSpec : ChangeSpec := { name := "segtreeAll", fn := fun _ => fun
  | [d1, d2, d3] => { results := [.lit (.bool true)], args := [d1, d2, d3] }
  | _ => none }
def segtreeAllRow : OpenClaim := { program := "ytcdldjiogoapkaa", sum := "017e9fc0cf9b756032a0ea44b4c1a0827ead2cdf5202c13a261b7884d343cb13", func := "clerestory/clerestorylaw10.SegtreeAll", spec := "segtreeAll", unfollowed := true, recurses := true, apart := false }
def SegtreeAllSaid : Prop := segtreeAllRow.holds Try.pinned (OpenSpec.ofChange segtreeAllSpec)

/-- ITS FALSE NEIGHBOUR: 'it returns false'. Refute it at one input. -/
def segtreeAllWrong : ChangeSpec := { name := "segtreeAll", fn := fun _ => fun
  | [d1, d2, d3] => { results := [.lit (.bool false)], args := [d1, d2, d3] }
  | _ => none }
def SegtreeAllWrongFalsely : Prop := segtreeAllRow.holds Try.pinned (OpenSpec.ofChange segtreeAllWrong)

/-- 'clerestorylaw10.SegtreeNodes': WHATEVER THE INPUT: true; the input reads as it did. -/
def segtreeNodesSpec : ChangeSpec := { name := "segtreeNodes", fn := fun _ => fun
  | [d1, d2] => { results := [.lit (.bool true)], args := [d1, d2] }
  | _ => none }
def segtreeNodesRow : OpenClaim := { program := "ytcdldjiogoapkaa", sum := "017e9fc0cf9b756032a0ea44b4c1a0827ead2cdf5202c13a261b7884d343cb13", func := "clerestory/clerestorylaw10.SegtreeNodes", spec := "segtreeNodes", unfollowed := true, recurses := true, apart := false }
def SegtreeNodesSaid : Prop := segtreeNodesRow.holds Try.pinned (OpenSpec.ofChange segtreeNodesSpec)

/-- ITS FALSE NEIGHBOUR: 'it returns false'. Refute it at one input. -/
def segtreeNodesWrong : ChangeSpec := { name := "segtreeNodes", fn := fun _ => fun
  | [d1, d2] => { results := [.lit (.bool false)], args := [d1, d2] }
  | _ => none }
def SegtreeNodesWrongFalsely : Prop := segtreeNodesRow.holds Try.pinned (OpenSpec.ofChange segtreeNodesWrong)

/-- 'clerestorylaw10.SegtreeKills': WHATEVER THE INPUT: true; the input reads as it did. -/
def segtreeKillsSpec : ChangeSpec := { name := "segtreeKills", fn := fun _ => fun
  | [d1, d2] => { results := [.lit (.bool true)], args := [d1, d2] }
  | _ => none }
def segtreeKillsRow : OpenClaim := { program := "ytcdldjiogoapkaa", sum := "017e9fc0cf9b756032a0ea44b4c1a0827ead2cdf5202c13a261b7884d343cb13", func := "clerestory/clerestorylaw10.SegtreeKills", spec := "segtreeKills", unfollowed := true, recurses := true, apart := false }
def SegtreeKillsSaid : Prop := segtreeKillsRow.holds Try.pinned (OpenSpec.ofChange segtreeKillsSpec)

/-- ITS FALSE NEIGHBOUR: 'it returns false'. Refute it at one input. -/
def segtreeKillsWrong : ChangeSpec := { name := "segtreeKills", fn := fun _ => fun
  | [d1, d2] => { results := [.lit (.bool false)], args := [d1, d2] }
  | _ => none }
def SegtreeKillsWrongFalsely : Prop := segtreeKillsRow.holds Try.pinned (OpenSpec.ofChange segtreeKillsWrong)

/- THE SECOND FORM. 'bulk': how many values and letters a reading holds, each counted each time it is reached (what is shared counts as often as it is met; a slice's spare places count too). A statement '..UptoSaid' is the law's where the arguments, and the package variables that the reading takes, are together of bulk at most 1048576: NARROWER than '..Said'. Prove '..Said' where nothing that the law and all that it calls make is longer than what came in: it says more and counts as full. Else prove '..UptoSaid'. A law counts once. -/
mutual
def uptoBulk {H : Type} : DataW H → Nat
  | .lit (.string bytes) => bytes.length + 1
  | .lit _ => 1
  | .nil => 1
  | .ptr d => uptoBulk d + 1
  | .slice elems spare => uptoBulkAll elems + uptoBulkAll spare + 1
  | .agg parts => uptoBulkAll parts + 1
  | .iface _ d => uptoBulk d + 1
  | .map entries => uptoBulkEntries entries + 1
  | .held _ => 1
def uptoBulkAll {H : Type} : List (DataW H) → Nat
  | [] => 0
  | d :: r => uptoBulk d + uptoBulkAll r
def uptoBulkEntries {H : Type} : List (Lit × DataW H) → Nat
  | [] => 0
  | x :: r => uptoBulkEntry x + uptoBulkEntries r
def uptoBulkEntry {H : Type} : Lit × DataW H → Nat
  | (.string bytes, d) => bytes.length + uptoBulk d + 1
  | (_, d) => uptoBulk d + 1
 end
def uptoSmall : (H : Type) → List (DataW H) → Bool := fun _ ds => decide (uptoBulkAll ds ≤ 1048576)
def OpenSpec.upto (s : _root_.Go.ChangeSpec) : _root_.Go.OpenSpec := { _root_.Go.OpenSpec.ofChange s with cond := some uptoSmall }

/-- 'clerestorylaw10.SegtreePlays', WHERE WHAT IT READS IS OF BULK AT MOST 1048576: true; the input reads as it did. -/
def segtreePlaysUptoRow : OpenClaim := { program := "ytcdldjiogoapkaa", sum := "017e9fc0cf9b756032a0ea44b4c1a0827ead2cdf5202c13a261b7884d343cb13", func := "clerestory/clerestorylaw10.SegtreePlays", spec := "segtreePlays", unfollowed := true, recurses := true, apart := false, narrowed := true }
def SegtreePlaysUptoSaid : Prop := segtreePlaysUptoRow.holds Try.pinned (OpenSpec.upto segtreePlaysSpec)

/-- 'clerestorylaw10.SegtreeSpans', WHERE WHAT IT READS IS OF BULK AT MOST 1048576: true; the input reads as it did. -/
def segtreeSpansUptoRow : OpenClaim := { program := "ytcdldjiogoapkaa", sum := "017e9fc0cf9b756032a0ea44b4c1a0827ead2cdf5202c13a261b7884d343cb13", func := "clerestory/clerestorylaw10.SegtreeSpans", spec := "segtreeSpans", unfollowed := true, recurses := true, apart := false, narrowed := true }
def SegtreeSpansUptoSaid : Prop := segtreeSpansUptoRow.holds Try.pinned (OpenSpec.upto segtreeSpansSpec)

/-- 'clerestorylaw10.SegtreeKeys', WHERE WHAT IT READS IS OF BULK AT MOST 1048576: true; the input reads as it did. -/
def segtreeKeysUptoRow : OpenClaim := { program := "ytcdldjiogoapkaa", sum := "017e9fc0cf9b756032a0ea44b4c1a0827ead2cdf5202c13a261b7884d343cb13", func := "clerestory/clerestorylaw10.SegtreeKeys", spec := "segtreeKeys", unfollowed := true, recurses := true, apart := false, narrowed := true }
def SegtreeKeysUptoSaid : Prop := segtreeKeysUptoRow.holds Try.pinned (OpenSpec.upto segtreeKeysSpec)

/-- 'clerestorylaw10.SegtreeAll', WHERE WHAT IT READS IS OF BULK AT MOST 1048576: true; the input reads as it did. -/
def segtreeAllUptoRow : OpenClaim := { program := "ytcdldjiogoapkaa", sum := "017e9fc0cf9b756032a0ea44b4c1a0827ead2cdf5202c13a261b7884d343cb13", func := "clerestory/clerestorylaw10.SegtreeAll", spec := "segtreeAll", unfollowed := true, recurses := true, apart := false, narrowed := true }
def SegtreeAllUptoSaid : Prop := segtreeAllUptoRow.holds Try.pinned (OpenSpec.upto segtreeAllSpec)

/-- 'clerestorylaw10.SegtreeNodes', WHERE WHAT IT READS IS OF BULK AT MOST 1048576: true; the input reads as it did. -/
def segtreeNodesUptoRow : OpenClaim := { program := "ytcdldjiogoapkaa", sum := "017e9fc0cf9b756032a0ea44b4c1a0827ead2cdf5202c13a261b7884d343cb13", func := "clerestory/clerestorylaw10.SegtreeNodes", spec := "segtreeNodes", unfollowed := true, recurses := true, apart := false, narrowed := true }
def SegtreeNodesUptoSaid : Prop := segtreeNodesUptoRow.holds Try.pinned (OpenSpec.upto segtreeNodesSpec)

/-- 'clerestorylaw10.SegtreeKills', WHERE WHAT IT READS IS OF BULK AT MOST 1048576: true; the input reads as it did. -/
def segtreeKillsUptoRow : OpenClaim := { program := "ytcdldjiogoapkaa", sum := "017e9fc0cf9b756032a0ea44b4c1a0827ead2cdf5202c13a261b7884d343cb13", func := "clerestory/clerestorylaw10.SegtreeKills", spec := "segtreeKills", unfollowed := true, recurses := true, apart := false, narrowed := true }
def SegtreeKillsUptoSaid : Prop := segtreeKillsUptoRow.holds Try.pinned (OpenSpec.upto segtreeKillsSpec)

end Rows
end Go.Proofs.Ytcdldjiogoapkaa
