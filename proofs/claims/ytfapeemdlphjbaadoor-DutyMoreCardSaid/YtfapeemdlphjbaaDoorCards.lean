/-
  DERIVED. GIVEN WITH THE SEED: THE CARDS: each row of YtfapeemdlphjbaaDoorRows.lean that lists a variable, with what it lists TIED to the program's text (the seventh form; the later family's looks); each row that meets fmt, with fmt's text TOLD by the authors' own Lean function (tested against real Go, not proved from fmt's source: count such statements apart). THE CARD IS WHAT COUNTS. Prove the row's statement (the work); the ties are given (YtfapeemdlphjbaaDoorTie.lean); close each card by the builder's one call (the guide's Derived/Test/ToyasCard.lean, 'card_holds'). Laid BY PROGRAM, IN A SANDBOX (cutbox-door.mjs). By AI agents, Wed Nov 11 2026. No macro, syntax, notation, axiom, sorry.
-/
import Derived.Test.YtfapeemdlphjbaaDoorRows
import GoSem.ClaimSeven
namespace Go.Proofs.YtfapeemdlphjbaaDoor
namespace Rows

/-- THE TIED CARD OF 'clerestorylaw15.DutyClashes'. -/
def dutyClashesCard : Claim7 := { stood := { row := dutyClashesRow, standIns := [], harness := (true, "f9805784c711661642c6f1ba2d8126dd4ac24b3e242e57dcde98e77c55f8d82e"), looks := false }, kinds := [], alts := [], laidByText := true, laidKinds := [.data], laidTests := true, laidLooks := .later }
def DutyClashesCardSaid : Prop := Claim7.holds Tryd.pinned (.plain (OpenSpec.ofChange dutyClashesSpec)) dutyClashesCard

/-- THE TIED CARD OF 'clerestorylaw15.DutyMore'. -/
def dutyMoreCard : Claim7 := { stood := { row := dutyMoreRow, standIns := [], harness := (true, "f9805784c711661642c6f1ba2d8126dd4ac24b3e242e57dcde98e77c55f8d82e"), looks := false }, kinds := [], alts := [], laidByText := true, laidKinds := [.data], laidTests := true, laidLooks := .later }
def DutyMoreCardSaid : Prop := Claim7.holds Tryd.pinned (.plain (OpenSpec.ofChange dutyMoreSpec)) dutyMoreCard

/-- THE TIED CARD OF 'clerestorylaw15.DutyTenants'. -/
def dutyTenantsCard : Claim7 := { stood := { row := dutyTenantsRow, standIns := [], harness := (true, "f9805784c711661642c6f1ba2d8126dd4ac24b3e242e57dcde98e77c55f8d82e"), looks := false }, kinds := [], alts := [], laidByText := true, laidKinds := [.data], laidTests := true, laidLooks := .later }
def DutyTenantsCardSaid : Prop := Claim7.holds Tryd.pinned (.plain (OpenSpec.ofChange dutyTenantsSpec)) dutyTenantsCard

/-- THE SECOND FORM's CARD OF 'clerestorylaw15.DutyClashes'. -/
def dutyClashesUptoCard : Claim7 := { stood := { row := dutyClashesUptoRow, standIns := [], harness := (true, "f9805784c711661642c6f1ba2d8126dd4ac24b3e242e57dcde98e77c55f8d82e"), looks := false }, kinds := [], alts := [], laidByText := true, laidKinds := [.data], laidTests := true, laidLooks := .later }
def DutyClashesUptoCardSaid : Prop := Claim7.holds Tryd.pinned (.plain (OpenSpec.upto dutyClashesSpec)) dutyClashesUptoCard

/-- THE SECOND FORM's CARD OF 'clerestorylaw15.DutyMore'. -/
def dutyMoreUptoCard : Claim7 := { stood := { row := dutyMoreUptoRow, standIns := [], harness := (true, "f9805784c711661642c6f1ba2d8126dd4ac24b3e242e57dcde98e77c55f8d82e"), looks := false }, kinds := [], alts := [], laidByText := true, laidKinds := [.data], laidTests := true, laidLooks := .later }
def DutyMoreUptoCardSaid : Prop := Claim7.holds Tryd.pinned (.plain (OpenSpec.upto dutyMoreSpec)) dutyMoreUptoCard

/-- THE SECOND FORM's CARD OF 'clerestorylaw15.DutyTenants'. -/
def dutyTenantsUptoCard : Claim7 := { stood := { row := dutyTenantsUptoRow, standIns := [], harness := (true, "f9805784c711661642c6f1ba2d8126dd4ac24b3e242e57dcde98e77c55f8d82e"), looks := false }, kinds := [], alts := [], laidByText := true, laidKinds := [.data], laidTests := true, laidLooks := .later }
def DutyTenantsUptoCardSaid : Prop := Claim7.holds Tryd.pinned (.plain (OpenSpec.upto dutyTenantsSpec)) dutyTenantsUptoCard
end Rows
end Go.Proofs.YtfapeemdlphjbaaDoor
