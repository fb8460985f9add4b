/-
  No cell of these rows narrows 'for every input' (looked for: loops, veiled, ifaces, maps, wideKeys, modest, calm, conditions, laid).
  DERIVED. THE GIVEN ROWS OF THIS SEAT. 4 by the template 'for every input the law returns true; each argument reads behind the call as it read before'; 0 by the template 'total and deterministic' (their statements: YtddpnldgfdooiaaTotals.lean).
  GIVEN WITH THE SEED: the statements are not yours to turn. If you find one false, say at which input.
  Laid BY PROGRAM, IN A SANDBOX (cutbox-rows.mjs): the forced cells as the released guide's own fill.sh prints them over the translation f60f689f654d91da… (all of the seat's roots in one cut). By AI agents, Wed Nov 11 2026. No macro, syntax, notation, axiom, sorry.
-/
import Derived.Test.YtddpnldgfdooiaaChecked
import GoSem.Claim
import GoSem.ClaimJoined
import GoSem.ClaimMapViews
import Derived.JoinedTies
import Derived.KernelRfl
namespace Go.Proofs.Ytddpnldgfdooiaa
/- THE CELL 'sum', in the pinned program and in every row, IS THE sha256 OF THE DUMP (.gsa) THAT YtddpnldgfdooiaaProg.lean LOADS. Nothing in Lean hashes anything: it is a label: what it is worth is what the hold of that sum in a sandbox is worth. -/
noncomputable def Try.pinned : Pinned := { name := "ytddpnldgfdooiaa", sum := "f60f689f654d91da40b7bd0ad17451ef4bf0793d664b5cb8dca9b7afabeec390", checked := Try.checked }
namespace Rows
def none {H : Type} : Left H := { results := [], args := [] }

/-- 'clerestorylaw22.TokenEnds': WHATEVER THE INPUT: true; the input reads as it did. -/
def tokenEndsSpec : ChangeSpec := { name := "tokenEnds", fn := fun _ => fun
  | [d1, d2, d3, d4] => { results := [.lit (.bool true)], args := [d1, d2, d3, d4] }
  | _ => none }
def tokenEndsRow : OpenClaim := { program := "ytddpnldgfdooiaa", sum := "f60f689f654d91da40b7bd0ad17451ef4bf0793d664b5cb8dca9b7afabeec390", func := "clerestory/clerestorylaw22.TokenEnds", spec := "tokenEnds", unfollowed := true, recurses := true, apart := false }
def TokenEndsSaid : Prop := tokenEndsRow.holds Try.pinned (OpenSpec.ofChange tokenEndsSpec)

/-- ITS FALSE NEIGHBOUR: 'it returns false'. Refute it at one input. -/
def tokenEndsWrong : ChangeSpec := { name := "tokenEnds", fn := fun _ => fun
  | [d1, d2, d3, d4] => { results := [.lit (.bool false)], args := [d1, d2, d3, d4] }
  | _ => none }
def TokenEndsWrongFalsely : Prop := tokenEndsRow.holds Try.pinned (OpenSpec.ofChange tokenEndsWrong)

/-- 'clerestorylaw22.TokenFulls': WHATEVER THE INPUT: true; the input reads as it did. -/
def tokenFullsSpec : ChangeSpec := { name := "tokenFulls", fn := fun _ => fun
  | [d1, d2, d3] => { results := [.lit (.bool true)], args := [d1, d2, d3] }
  | _ => none }
def tokenFullsRow : OpenClaim := { program := "ytddpnldgfdooiaa", sum := "f60f689f654d91da40b7bd0ad17451ef4bf0793d664b5cb8dca9b7afabeec390", func := "clerestory/clerestorylaw22.TokenFulls", spec := "tokenFulls", unfollowed := true, recurses := true, apart := false }
def TokenFullsSaid : Prop := tokenFullsRow.holds Try.pinned (OpenSpec.ofChange tokenFullsSpec)

/-- ITS FALSE NEIGHBOUR: 'it returns false'. Refute it at one input. -/
def tokenFullsWrong : ChangeSpec := { name := "tokenFulls", fn := fun _ => fun
  | [d1, d2, d3] => { results := [.lit (.bool false)], args := [d1, d2, d3] }
  | _ => none }
def TokenFullsWrongFalsely : Prop := tokenFullsRow.holds Try.pinned (OpenSpec.ofChange tokenFullsWrong)

/-- 'clerestorylaw22.TokenUses': WHATEVER THE INPUT: true; the input reads as it did. -/
def tokenUsesSpec : ChangeSpec := { name := "tokenUses", fn := fun _ => fun
  | [d1, d2] => { results := [.lit (.bool true)], args := [d1, d2] }
  | _ => none }
def tokenUsesRow : OpenClaim := { program := "ytddpnldgfdooiaa", sum := "f60f689f654d91da40b7bd0ad17451ef4bf0793d664b5cb8dca9b7afabeec390", func := "clerestory/clerestorylaw22.TokenUses", spec := "tokenUses", unfollowed := true, recurses := true, apart := false }
def TokenUsesSaid : Prop := tokenUsesRow.holds Try.pinned (OpenSpec.ofChange tokenUsesSpec)

/-- ITS FALSE NEIGHBOUR: 'it returns false'. Refute it at one input. -/
def tokenUsesWrong : ChangeSpec := { name := "tokenUses", fn := fun _ => fun
  | [d1, d2] => { results := [.lit (.bool false)], args := [d1, d2] }
  | _ => none }
def TokenUsesWrongFalsely : Prop := tokenUsesRow.holds Try.pinned (OpenSpec.ofChange tokenUsesWrong)

/-- 'clerestorylaw22.TokenSweeps': WHATEVER THE INPUT: true; the input reads as it did. -/
def tokenSweepsSpec : ChangeSpec := { name := "tokenSweeps", fn := fun _ => fun
  | [d1, d2, d3] => { results := [.lit (.bool true)], args := [d1, d2, d3] }
  | _ => none }
def tokenSweepsRow : OpenClaim := { program := "ytddpnldgfdooiaa", sum := "f60f689f654d91da40b7bd0ad17451ef4bf0793d664b5cb8dca9b7afabeec390", func := "clerestory/clerestorylaw22.TokenSweeps", spec := "tokenSweeps", unfollowed := true, recurses := true, apart := false }
def TokenSweepsSaid : Prop := tokenSweepsRow.holds Try.pinned (OpenSpec.ofChange tokenSweepsSpec)

/-- ITS FALSE NEIGHBOUR: 'it returns false'. Refute it at one input. -/
def tokenSweepsWrong : ChangeSpec := { name := "tokenSweeps", fn := fun _ => fun
  | [d1, d2, d3] => { results := [.lit (.bool false)], args := [d1, d2, d3] }
  | _ => none }
def TokenSweepsWrongFalsely : Prop := tokenSweepsRow.holds Try.pinned (OpenSpec.ofChange tokenSweepsWrong)

/- THE SECOND FORM. 'bulk': how many values and letters a reading holds, each counted each time it is reached (what is shared counts as often as it is met; a slice's spare places count too). A statement '..UptoSaid' is the law's where the arguments, and the package variables that the reading takes, are together of bulk at most 1048576: NARROWER than '..Said'. Prove '..Said' where nothing that the law and all that it calls make is longer than what came in: it says more and counts as full. Else prove '..UptoSaid'. A law counts once. -/
mutual
def uptoBulk {H : Type} : DataW H → Nat
  | .lit (.string bytes) => bytes.length + 1
  | .lit _ => 1
  | .nil => 1
  | .ptr d => uptoBulk d + 1
  | .slice elems spare => uptoBulkAll elems + uptoBulkAll spare + 1
  | .agg parts => uptoBulkAll parts + 1
  | .iface _ d => uptoBulk d + 1
  | .map entries => uptoBulkEntries entries + 1
  | .held _ => 1
def uptoBulkAll {H : Type} : List (DataW H) → Nat
  | [] => 0
  | d :: r => uptoBulk d + uptoBulkAll r
def uptoBulkEntries {H : Type} : List (Lit × DataW H) → Nat
  | [] => 0
  | x :: r => uptoBulkEntry x + uptoBulkEntries r
def uptoBulkEntry {H : Type} : Lit × DataW H → Nat
  | (.string bytes, d) => bytes.length + uptoBulk d + 1
  | (_, d) => uptoBulk d + 1
 end
def uptoSmall : (H : Type) → List (DataW H) → Bool := fun _ ds => decide (uptoBulkAll ds ≤ 1048576)
def OpenSpec.upto (s : _root_.Go.ChangeSpec) : _root_.Go.OpenSpec := { _root_.Go.OpenSpec.ofChange s with cond := some uptoSmall }

/-- 'clerestorylaw22.TokenEnds', WHERE WHAT IT READS IS OF BULK AT MOST 1048576: true; the input reads as it did. -/
def tokenEndsUptoRow : OpenClaim := { program := "ytddpnldgfdooiaa", sum := "f60f689f654d91da40b7bd0ad17451ef4bf0793d664b5cb8dca9b7afabeec390", func := "clerestory/clerestorylaw22.TokenEnds", spec := "tokenEnds", unfollowed := true, recurses := true, apart := false, narrowed := true }
def TokenEndsUptoSaid : Prop := tokenEndsUptoRow.holds Try.pinned (OpenSpec.upto tokenEndsSpec)

/-- 'clerestorylaw22.TokenFulls', WHERE WHAT IT READS IS OF BULK AT MOST 1048576: true; the input reads as it did. -/
def tokenFullsUptoRow : OpenClaim := { program := "ytddpnldgfdooiaa", sum := "f60f689f654d91da40b7bd0ad17451ef4bf0793d664b5cb8dca9b7afabeec390", func := "clerestory/clerestorylaw22.TokenFulls", spec := "tokenFulls", unfollowed := true, recurses := true, apart := false, narrowed := true }
def TokenFullsUptoSaid : Prop := tokenFullsUptoRow.holds Try.pinned (OpenSpec.upto tokenFullsSpec)

/-- 'clerestorylaw22.TokenUses', WHERE WHAT IT READS IS OF BULK AT MOST 1048576: true; the input reads as it did. -/
def tokenUsesUptoRow : OpenClaim := { program := "ytddpnldgfdooiaa", sum := "f60f689f654d91da40b7bd0ad17451ef4bf0793d664b5cb8dca9b7afabeec390", func := "clerestory/clerestorylaw22.TokenUses", spec := "tokenUses", unfollowed := true, recurses := true, apart := false, narrowed := true }
def TokenUsesUptoSaid : Prop := tokenUsesUptoRow.holds Try.pinned (OpenSpec.upto tokenUsesSpec)

/-- 'clerestorylaw22.TokenSweeps', WHERE WHAT IT READS IS OF BULK AT MOST 1048576: true; the input reads as it did. -/
def tokenSweepsUptoRow : OpenClaim := { program := "ytddpnldgfdooiaa", sum := "f60f689f654d91da40b7bd0ad17451ef4bf0793d664b5cb8dca9b7afabeec390", func := "clerestory/clerestorylaw22.TokenSweeps", spec := "tokenSweeps", unfollowed := true, recurses := true, apart := false, narrowed := true }
def TokenSweepsUptoSaid : Prop := tokenSweepsUptoRow.holds Try.pinned (OpenSpec.upto tokenSweepsSpec)

end Rows
end Go.Proofs.Ytddpnldgfdooiaa
