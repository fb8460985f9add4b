/-
  No cell of these rows narrows 'for every input' (looked for: loops, veiled, ifaces, maps, wideKeys, modest, calm, conditions, laid).
  DERIVED. THE GIVEN ROWS OF THIS SEAT. 5 by the template 'for every input the law returns true; each argument reads behind the call as it read before'; 0 by the template 'total and deterministic' (their statements: YtokknppnnddihaaTotals.lean).
  GIVEN WITH THE SEED: the statements are not yours to turn. If you find one false, say at which input.
  Laid BY PROGRAM, IN A SANDBOX (cutbox-rows.mjs): the forced cells as the released guide's own fill.sh prints them over the translation 73faf0489ef72517… (all of the seat's roots in one cut). By AI agents, Wed Nov 11 2026. No macro, syntax, notation, axiom, sorry.
-/
import Derived.Test.YtokknppnnddihaaChecked
import GoSem.Claim
import GoSem.ClaimJoined
import GoSem.ClaimMapViews
import Derived.JoinedTies
import Derived.KernelRfl
namespace Go.Proofs.Ytokknppnnddihaa
/- THE CELL 'sum', in the pinned program and in every row, IS THE sha256 OF THE DUMP (.gsa) THAT YtokknppnnddihaaProg.lean LOADS. Nothing in Lean hashes anything: it is a label: what it is worth is what the hold of that sum in a sandbox is worth. -/
noncomputable def Try.pinned : Pinned := { name := "ytokknppnnddihaa", sum := "73faf0489ef72517f6f1fb9f6f4da117ffeea196229f1c2d51bfd82953333d8f", checked := Try.checked }
namespace Rows
def none {H : Type} : Left H := { results := [], args := [] }

/-- 'clerestorylaw18.OverlapPlays': WHATEVER THE INPUT: true; the input reads as it did. -/
def overlapPlaysSpec : ChangeSpec := { name := "overlapPlays", fn := fun _ => fun
  | [d1, d2, d3, d4] => { results := [.lit (.bool true)], args := [d1, d2, d3, d4] }
  | _ => none }
def overlapPlaysRow : OpenClaim := { program := "ytokknppnnddihaa", sum := "73faf0489ef72517f6f1fb9f6f4da117ffeea196229f1c2d51bfd82953333d8f", func := "clerestory/clerestorylaw18.OverlapPlays", spec := "overlapPlays", unfollowed := true, recurses := true, apart := false }
def OverlapPlaysSaid : Prop := overlapPlaysRow.holds Try.pinned (OpenSpec.ofChange overlapPlaysSpec)

/-- ITS FALSE NEIGHBOUR: 'it returns false'. Refute it at one input. -/
def overlapPlaysWrong : ChangeSpec := { name := "overlapPlays", fn := fun _ => fun
  | [d1, d2, d3, d4] => { results := [.lit (.bool false)], args := [d1, d2, d3, d4] }
  | _ => none }
def OverlapPlaysWrongFalsely : Prop := overlapPlaysRow.holds Try.pinned (OpenSpec.ofChange overlapPlaysWrong)

/-- 'clerestorylaw18.OverlapGrows': WHATEVER THE INPUT: true; the input reads as it did. -/
def overlapGrowsSpec : ChangeSpec := { name := "overlapGrows", fn := fun _ => fun
  | [d1, d2] => { results := [.lit (.bool true)], args := [d1, d2] }
  | _ => none }
def overlapGrowsRow : OpenClaim := { program := "ytokknppnnddihaa", sum := "73faf0489ef72517f6f1fb9f6f4da117ffeea196229f1c2d51bfd82953333d8f", func := "clerestory/clerestorylaw18.OverlapGrows", spec := "overlapGrows", unfollowed := true, recurses := true, apart := false }
def OverlapGrowsSaid : Prop := overlapGrowsRow.holds Try.pinned (OpenSpec.ofChange overlapGrowsSpec)

/-- ITS FALSE NEIGHBOUR: 'it returns false'. Refute it at one input. -/
def overlapGrowsWrong : ChangeSpec := { name := "overlapGrows", fn := fun _ => fun
  | [d1, d2] => { results := [.lit (.bool false)], args := [d1, d2] }
  | _ => none }
def OverlapGrowsWrongFalsely : Prop := overlapGrowsRow.holds Try.pinned (OpenSpec.ofChange overlapGrowsWrong)

/-- 'clerestorylaw18.OverlapParts': WHATEVER THE INPUT: true; the input reads as it did. -/
def overlapPartsSpec : ChangeSpec := { name := "overlapParts", fn := fun _ => fun
  | [d1, d2] => { results := [.lit (.bool true)], args := [d1, d2] }
  | _ => none }
def overlapPartsRow : OpenClaim := { program := "ytokknppnnddihaa", sum := "73faf0489ef72517f6f1fb9f6f4da117ffeea196229f1c2d51bfd82953333d8f", func := "clerestory/clerestorylaw18.OverlapParts", spec := "overlapParts", unfollowed := true, recurses := true, apart := false }
def OverlapPartsSaid : Prop := overlapPartsRow.holds Try.pinned (OpenSpec.ofChange overlapPartsSpec)

/-- ITS FALSE NEIGHBOUR: 'it returns false'. Refute it at one input. -/
def overlapPartsWrong : ChangeSpec := { name := "overlapParts", fn := fun _ => fun
  | [d1, d2] => { results := [.lit (.bool false)], args := [d1, d2] }
  | _ => none }
def OverlapPartsWrongFalsely : Prop := overlapPartsRow.holds Try.pinned (OpenSpec.ofChange overlapPartsWrong)

/-- 'clerestorylaw18.OverlapTests': WHATEVER THE INPUT: true; the input reads as it did. -/
def overlapTestsSpec : ChangeSpec := { name := "overlapTests", fn := fun _ => fun
  | [d1, d2] => { results := [.lit (.bool true)], args := [d1, d2] }
  | _ => none }
def overlapTestsRow : OpenClaim := { program := "ytokknppnnddihaa", sum := "73faf0489ef72517f6f1fb9f6f4da117ffeea196229f1c2d51bfd82953333d8f", func := "clerestory/clerestorylaw18.OverlapTests", spec := "overlapTests", unfollowed := true, recurses := true, apart := false }
def OverlapTestsSaid : Prop := overlapTestsRow.holds Try.pinned (OpenSpec.ofChange overlapTestsSpec)

/-- ITS FALSE NEIGHBOUR: 'it returns false'. Refute it at one input. -/
def overlapTestsWrong : ChangeSpec := { name := "overlapTests", fn := fun _ => fun
  | [d1, d2] => { results := [.lit (.bool false)], args := [d1, d2] }
  | _ => none }
def OverlapTestsWrongFalsely : Prop := overlapTestsRow.holds Try.pinned (OpenSpec.ofChange overlapTestsWrong)

/-- 'clerestorylaw18.OverlapAll': WHATEVER THE INPUT: true; the input reads as it did. -/
def overlapAllSpec : ChangeSpec := { name := "overlapAll", fn := fun _ => fun
  | [d1, d2] => { results := [.lit (.bool true)], args := [d1, d2] }
  | _ => none }
def overlapAllRow : OpenClaim := { program := "ytokknppnnddihaa", sum := "73faf0489ef72517f6f1fb9f6f4da117ffeea196229f1c2d51bfd82953333d8f", func := "clerestory/clerestorylaw18.OverlapAll", spec := "overlapAll", unfollowed := true, recurses := true, apart := false }
def OverlapAllSaid : Prop := overlapAllRow.holds Try.pinned (OpenSpec.ofChange overlapAllSpec)

/-- ITS FALSE NEIGHBOUR: 'it returns false'. Refute it at one input. -/
def overlapAllWrong : ChangeSpec := { name := "overlapAll", fn := fun _ => fun
  | [d1, d2] => { results := [.lit (.bool false)], args := [d1, d2] }
  | _ => none }
def OverlapAllWrongFalsely : Prop := overlapAllRow.holds Try.pinned (OpenSpec.ofChange overlapAllWrong)

/- THE SECOND FORM. 'bulk': how many values and letters a reading holds, each counted each time it is reached (what is shared counts as often as it is met; a slice's spare places count too). A statement '..UptoSaid' is the law's where the arguments, and the package variables that the reading takes, are together of bulk at most 1048576: NARROWER than '..Said'. Prove '..Said' where nothing that the law and all that it calls make is longer than what came in: it says more and counts as full. Else prove '..UptoSaid'. A law counts once. -/
mutual
def uptoBulk {H : Type} : DataW H → Nat
  | .lit (.string bytes) => bytes.length + 1
  | .lit _ => 1
  | .nil => 1
  | .ptr d => uptoBulk d + 1
  | .slice elems spare => uptoBulkAll elems + uptoBulkAll spare + 1
  | .agg parts => uptoBulkAll parts + 1
  | .iface _ d => uptoBulk d + 1
  | .map entries => uptoBulkEntries entries + 1
  | .held _ => 1
def uptoBulkAll {H : Type} : List (DataW H) → Nat
  | [] => 0
  | d :: r => uptoBulk d + uptoBulkAll r
def uptoBulkEntries {H : Type} : List (Lit × DataW H) → Nat
  | [] => 0
  | x :: r => uptoBulkEntry x + uptoBulkEntries r
def uptoBulkEntry {H : Type} : Lit × DataW H → Nat
  | (.string bytes, d) => bytes.length + uptoBulk d + 1
  | (_, d) => uptoBulk d + 1
 end
def uptoSmall : (H : Type) → List (DataW H) → Bool := fun _ ds => decide (uptoBulkAll ds ≤ 1048576)
def OpenSpec.upto (s : _root_.Go.ChangeSpec) : _root_.Go.OpenSpec := { _root_.Go.OpenSpec.ofChange s with cond := some uptoSmall }

/-- 'clerestorylaw18.OverlapPlays', WHERE WHAT IT READS IS OF BULK AT MOST 1048576: true; the input reads as it did. -/
def overlapPlaysUptoRow : OpenClaim := { program := "ytokknppnnddihaa", sum := "73faf0489ef72517f6f1fb9f6f4da117ffeea196229f1c2d51bfd82953333d8f", func := "clerestory/clerestorylaw18.OverlapPlays", spec := "overlapPlays", unfollowed := true, recurses := true, apart := false, narrowed := true }
def OverlapPlaysUptoSaid : Prop := overlapPlaysUptoRow.holds Try.pinned (OpenSpec.upto overlapPlaysSpec)

/-- 'clerestorylaw18.OverlapGrows', WHERE WHAT IT READS IS OF BULK AT MOST 1048576: true; the input reads as it did. -/
def overlapGrowsUptoRow : OpenClaim := { program := "ytokknppnnddihaa", sum := "73faf0489ef72517f6f1fb9f6f4da117ffeea196229f1c2d51bfd82953333d8f", func := "clerestory/clerestorylaw18.OverlapGrows", spec := "overlapGrows", unfollowed := true, recurses := true, apart := false, narrowed := true }
def OverlapGrowsUptoSaid : Prop := overlapGrowsUptoRow.holds Try.pinned (OpenSpec.upto overlapGrowsSpec)

/-- 'clerestorylaw18.OverlapParts', WHERE WHAT IT READS IS OF BULK AT MOST 1048576: true; the input reads as it did. -/
def overlapPartsUptoRow : OpenClaim := { program := "ytokknppnnddihaa", sum := "73faf0489ef72517f6f1fb9f6f4da117ffeea196229f1c2d51bfd82953333d8f", func := "clerestory/clerestorylaw18.OverlapParts", spec := "overlapParts", unfollowed := true, recurses := true, apart := false, narrowed := true }
def OverlapPartsUptoSaid : Prop := overlapPartsUptoRow.holds Try.pinned (OpenSpec.upto overlapPartsSpec)

/-- 'clerestorylaw18.OverlapTests', WHERE WHAT IT READS IS OF BULK AT MOST 1048576: true; the input reads as it did. -/
def overlapTestsUptoRow : OpenClaim := { program := "ytokknppnnddihaa", sum := "73faf0489ef72517f6f1fb9f6f4da117ffeea196229f1c2d51bfd82953333d8f", func := "clerestory/clerestorylaw18.OverlapTests", spec := "overlapTests", unfollowed := true, recurses := true, apart := false, narrowed := true }
def OverlapTestsUptoSaid : Prop := overlapTestsUptoRow.holds Try.pinned (OpenSpec.upto overlapTestsSpec)

/-- 'clerestorylaw18.OverlapAll', WHERE WHAT IT READS IS OF BULK AT MOST 1048576: true; the input reads as it did. -/
def overlapAllUptoRow : OpenClaim := { program := "ytokknppnnddihaa", sum := "73faf0489ef72517f6f1fb9f6f4da117ffeea196229f1c2d51bfd82953333d8f", func := "clerestory/clerestorylaw18.OverlapAll", spec := "overlapAll", unfollowed := true, recurses := true, apart := false, narrowed := true }
def OverlapAllUptoSaid : Prop := overlapAllUptoRow.holds Try.pinned (OpenSpec.upto overlapAllSpec)

end Rows
end Go.Proofs.Ytokknppnnddihaa
