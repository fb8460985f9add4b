/-
  DERIVED. GIVEN WITH THE SEED: THE CARDS: each row of YtjlkkbjolfhobaaDoorRows.lean that lists a variable, with what it lists TIED to the program's text (the seventh form; the later family's looks); each row that meets fmt, with fmt's text TOLD by the authors' own Lean function (tested against real Go, not proved from fmt's source: count such statements apart). THE CARD IS WHAT COUNTS. Prove the row's statement (the work); the ties are given (YtjlkkbjolfhobaaDoorTie.lean); close each card by the builder's one call (the guide's Derived/Test/ToyasCard.lean, 'card_holds'). Laid BY PROGRAM, IN A SANDBOX (cutbox-door.mjs). By AI agents, Wed Nov 11 2026. No macro, syntax, notation, axiom, sorry.
-/
import Derived.Test.YtjlkkbjolfhobaaDoorRows
import GoSem.ClaimSeven
namespace Go.Proofs.YtjlkkbjolfhobaaDoor
namespace Rows

/-- THE TIED CARD OF 'clerestorylaw07.AreaSets'. -/
def areaSetsCard : Claim7 := { stood := { row := areaSetsRow, standIns := [], harness := (true, "747a1f70d8b9e8a1c374b7dbbfe59757bb8274ce73c748c4b13288394c3d80ec"), looks := false }, kinds := [], alts := [], laidByText := true, laidKinds := [.data], laidTests := true, laidLooks := .later }
def AreaSetsCardSaid : Prop := Claim7.holds Tryd.pinned (.plain (OpenSpec.ofChange areaSetsSpec)) areaSetsCard

/-- THE TIED CARD OF 'clerestorylaw07.AreaAlgebra'. -/
def areaAlgebraCard : Claim7 := { stood := { row := areaAlgebraRow, standIns := [], harness := (true, "747a1f70d8b9e8a1c374b7dbbfe59757bb8274ce73c748c4b13288394c3d80ec"), looks := false }, kinds := [], alts := [], laidByText := true, laidKinds := [.data], laidTests := true, laidLooks := .later }
def AreaAlgebraCardSaid : Prop := Claim7.holds Tryd.pinned (.plain (OpenSpec.ofChange areaAlgebraSpec)) areaAlgebraCard

/-- THE TIED CARD OF 'clerestorylaw07.AreaMasks'. -/
def areaMasksCard : Claim7 := { stood := { row := areaMasksRow, standIns := [], harness := (true, "747a1f70d8b9e8a1c374b7dbbfe59757bb8274ce73c748c4b13288394c3d80ec"), looks := false }, kinds := [], alts := [], laidByText := true, laidKinds := [.data], laidTests := true, laidLooks := .later }
def AreaMasksCardSaid : Prop := Claim7.holds Tryd.pinned (.plain (OpenSpec.ofChange areaMasksSpec)) areaMasksCard

/-- THE TIED CARD OF 'clerestorylaw07.AreaWithins'. -/
def areaWithinsCard : Claim7 := { stood := { row := areaWithinsRow, standIns := [], harness := (true, "747a1f70d8b9e8a1c374b7dbbfe59757bb8274ce73c748c4b13288394c3d80ec"), looks := false }, kinds := [], alts := [], laidByText := true, laidKinds := [.data], laidTests := true, laidLooks := .later }
def AreaWithinsCardSaid : Prop := Claim7.holds Tryd.pinned (.plain (OpenSpec.ofChange areaWithinsSpec)) areaWithinsCard

/-- THE TIED CARD OF 'clerestorylaw07.AreaCells'. -/
def areaCellsCard : Claim7 := { stood := { row := areaCellsRow, standIns := [], harness := (true, "747a1f70d8b9e8a1c374b7dbbfe59757bb8274ce73c748c4b13288394c3d80ec"), looks := false }, kinds := [], alts := [], laidByText := true, laidKinds := [.data], laidTests := true, laidLooks := .later }
def AreaCellsCardSaid : Prop := Claim7.holds Tryd.pinned (.plain (OpenSpec.ofChange areaCellsSpec)) areaCellsCard

/-- THE SECOND FORM's CARD OF 'clerestorylaw07.AreaSets'. -/
def areaSetsUptoCard : Claim7 := { stood := { row := areaSetsUptoRow, standIns := [], harness := (true, "747a1f70d8b9e8a1c374b7dbbfe59757bb8274ce73c748c4b13288394c3d80ec"), looks := false }, kinds := [], alts := [], laidByText := true, laidKinds := [.data], laidTests := true, laidLooks := .later }
def AreaSetsUptoCardSaid : Prop := Claim7.holds Tryd.pinned (.plain (OpenSpec.upto areaSetsSpec)) areaSetsUptoCard

/-- THE SECOND FORM's CARD OF 'clerestorylaw07.AreaAlgebra'. -/
def areaAlgebraUptoCard : Claim7 := { stood := { row := areaAlgebraUptoRow, standIns := [], harness := (true, "747a1f70d8b9e8a1c374b7dbbfe59757bb8274ce73c748c4b13288394c3d80ec"), looks := false }, kinds := [], alts := [], laidByText := true, laidKinds := [.data], laidTests := true, laidLooks := .later }
def AreaAlgebraUptoCardSaid : Prop := Claim7.holds Tryd.pinned (.plain (OpenSpec.upto areaAlgebraSpec)) areaAlgebraUptoCard

/-- THE SECOND FORM's CARD OF 'clerestorylaw07.AreaMasks'. -/
def areaMasksUptoCard : Claim7 := { stood := { row := areaMasksUptoRow, standIns := [], harness := (true, "747a1f70d8b9e8a1c374b7dbbfe59757bb8274ce73c748c4b13288394c3d80ec"), looks := false }, kinds := [], alts := [], laidByText := true, laidKinds := [.data], laidTests := true, laidLooks := .later }
def AreaMasksUptoCardSaid : Prop := Claim7.holds Tryd.pinned (.plain (OpenSpec.upto areaMasksSpec)) areaMasksUptoCard

/-- THE SECOND FORM's CARD OF 'clerestorylaw07.AreaWithins'. -/
def areaWithinsUptoCard : Claim7 := { stood := { row := areaWithinsUptoRow, standIns := [], harness := (true, "747a1f70d8b9e8a1c374b7dbbfe59757bb8274ce73c748c4b13288394c3d80ec"), looks := false }, kinds := [], alts := [], laidByText := true, laidKinds := [.data], laidTests := true, laidLooks := .later }
def AreaWithinsUptoCardSaid : Prop := Claim7.holds Tryd.pinned (.plain (OpenSpec.upto areaWithinsSpec)) areaWithinsUptoCard

/-- THE SECOND FORM's CARD OF 'clerestorylaw07.AreaCells'. -/
def areaCellsUptoCard : Claim7 := { stood := { row := areaCellsUptoRow, standIns := [], harness := (true, "747a1f70d8b9e8a1c374b7dbbfe59757bb8274ce73c748c4b13288394c3d80ec"), looks := false }, kinds := [], alts := [], laidByText := true, laidKinds := [.data], laidTests := true, laidLooks := .later }
def AreaCellsUptoCardSaid : Prop := Claim7.holds Tryd.pinned (.plain (OpenSpec.upto areaCellsSpec)) areaCellsUptoCard
end Rows
end Go.Proofs.YtjlkkbjolfhobaaDoor
