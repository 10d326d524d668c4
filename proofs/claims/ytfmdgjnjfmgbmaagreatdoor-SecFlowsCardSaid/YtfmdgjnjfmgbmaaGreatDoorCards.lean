/-
  DERIVED. GIVEN WITH THE SEED: THE CARDS: each row of YtfmdgjnjfmgbmaaGreatDoorRows.lean that lists a variable, with what it lists TIED to the program's text (the seventh form; the later family's looks); each row that meets fmt, with fmt's text TOLD by the authors' own Lean function (tested against real Go, not proved from fmt's source: count such statements apart). THE CARD IS WHAT COUNTS. Prove the row's statement (the work); the ties are given (YtfmdgjnjfmgbmaaGreatDoorTie.lean); close each card by the builder's one call (the guide's Derived/Test/ToyasCard.lean, 'card_holds'). Laid BY PROGRAM, IN A SANDBOX (cutbox-door.mjs). By AI agents, Wed Nov 11 2026. No macro, syntax, notation, axiom, sorry.
-/
import Derived.Test.YtfmdgjnjfmgbmaaGreatDoorRows
import GoSem.ClaimSeven
namespace Go.Proofs.YtfmdgjnjfmgbmaaGreatDoor
namespace Rows

/-- THE TIED CARD OF 'caponierlaw11.SecCosts'. -/
def secCostsCard : Claim7 := { stood := { row := secCostsRow, standIns := [], harness := (true, "04ae3fc3dc5a8e6fe1410db1e8238dc7fd8842678aa266e58129bd7f5892d6a2"), looks := true }, kinds := [], alts := [], laidByText := true, laidKinds := [.data, .data, .data, .data, .pinned], laidTests := true, laidLooks := .later }
def SecCostsCardSaid : Prop := Claim7.holds Tryz.pinned (.plain (OpenSpec.ofChange secCostsSpec)) secCostsCard

/-- THE TIED CARD OF 'caponierlaw11.SecFlows'. -/
def secFlowsCard : Claim7 := { stood := { row := secFlowsRow, standIns := [], harness := (true, "04ae3fc3dc5a8e6fe1410db1e8238dc7fd8842678aa266e58129bd7f5892d6a2"), looks := true }, kinds := [], alts := [], laidByText := true, laidKinds := [.data, .data, .data, .data, .pinned], laidTests := true, laidLooks := .later }
def SecFlowsCardSaid : Prop := Claim7.holds Tryz.pinned (.plain (OpenSpec.ofChange secFlowsSpec)) secFlowsCard

/-- THE TIED CARD OF 'caponierlaw11.SecPlaces'. -/
def secPlacesCard : Claim7 := { stood := { row := secPlacesRow, standIns := [], harness := (true, "04ae3fc3dc5a8e6fe1410db1e8238dc7fd8842678aa266e58129bd7f5892d6a2"), looks := true }, kinds := [], alts := [], laidByText := true, laidKinds := [.data, .data, .data, .data, .pinned], laidTests := true, laidLooks := .later }
def SecPlacesCardSaid : Prop := Claim7.holds Tryz.pinned (.plain (OpenSpec.ofChange secPlacesSpec)) secPlacesCard

/-- THE SECOND FORM's CARD OF 'caponierlaw11.SecCosts'. -/
def secCostsUptoCard : Claim7 := { stood := { row := secCostsUptoRow, standIns := [], harness := (true, "04ae3fc3dc5a8e6fe1410db1e8238dc7fd8842678aa266e58129bd7f5892d6a2"), looks := true }, kinds := [], alts := [], laidByText := true, laidKinds := [.data, .data, .data, .data, .pinned], laidTests := true, laidLooks := .later }
def SecCostsUptoCardSaid : Prop := Claim7.holds Tryz.pinned (.plain (OpenSpec.upto secCostsSpec)) secCostsUptoCard

/-- THE SECOND FORM's CARD OF 'caponierlaw11.SecFlows'. -/
def secFlowsUptoCard : Claim7 := { stood := { row := secFlowsUptoRow, standIns := [], harness := (true, "04ae3fc3dc5a8e6fe1410db1e8238dc7fd8842678aa266e58129bd7f5892d6a2"), looks := true }, kinds := [], alts := [], laidByText := true, laidKinds := [.data, .data, .data, .data, .pinned], laidTests := true, laidLooks := .later }
def SecFlowsUptoCardSaid : Prop := Claim7.holds Tryz.pinned (.plain (OpenSpec.upto secFlowsSpec)) secFlowsUptoCard

/-- THE SECOND FORM's CARD OF 'caponierlaw11.SecPlaces'. -/
def secPlacesUptoCard : Claim7 := { stood := { row := secPlacesUptoRow, standIns := [], harness := (true, "04ae3fc3dc5a8e6fe1410db1e8238dc7fd8842678aa266e58129bd7f5892d6a2"), looks := true }, kinds := [], alts := [], laidByText := true, laidKinds := [.data, .data, .data, .data, .pinned], laidTests := true, laidLooks := .later }
def SecPlacesUptoCardSaid : Prop := Claim7.holds Tryz.pinned (.plain (OpenSpec.upto secPlacesSpec)) secPlacesUptoCard
end Rows
end Go.Proofs.YtfmdgjnjfmgbmaaGreatDoor
