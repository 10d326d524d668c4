/-
  DERIVED. GIVEN WITH THE SEED: THE CARDS: each row of YtobablbcmdhlbaaGreatDoorRows.lean that lists a variable, with what it lists TIED to the program's text (the seventh form; the later family's looks); each row that meets fmt, with fmt's text TOLD by the authors' own Lean function (tested against real Go, not proved from fmt's source: count such statements apart). THE CARD IS WHAT COUNTS. Prove the row's statement (the work); the ties are given (YtobablbcmdhlbaaGreatDoorTie.lean); close each card by the builder's one call (the guide's Derived/Test/ToyasCard.lean, 'card_holds'). Laid BY PROGRAM, IN A SANDBOX (cutbox-door.mjs). By AI agents, Wed Nov 11 2026. No macro, syntax, notation, axiom, sorry.
-/
import Derived.Test.YtobablbcmdhlbaaGreatDoorRows
import GoSem.ClaimSeven
namespace Go.Proofs.YtobablbcmdhlbaaGreatDoor
namespace Rows

/-- THE TIED CARD OF 'caponierlaw07.SymsLeast'. -/
def symsLeastCard : Claim7 := { stood := { row := symsLeastRow, standIns := [], harness := (true, "72443a834e19e08b0ea8a647ef82c9b188f09355b0b0865ae35a6998f12e1d20"), looks := false }, kinds := [], alts := [], laidByText := true, laidKinds := [.data, .data, .pinned], laidTests := true, laidLooks := .later }
def SymsLeastCardSaid : Prop := Claim7.holds Tryz.pinned (.plain (OpenSpec.ofChange symsLeastSpec)) symsLeastCard

/-- THE TIED CARD OF 'caponierlaw07.SymsTwice'. -/
def symsTwiceCard : Claim7 := { stood := { row := symsTwiceRow, standIns := [], harness := (true, "72443a834e19e08b0ea8a647ef82c9b188f09355b0b0865ae35a6998f12e1d20"), looks := false }, kinds := [], alts := [], laidByText := true, laidKinds := [.data, .data, .pinned], laidTests := true, laidLooks := .later }
def SymsTwiceCardSaid : Prop := Claim7.holds Tryz.pinned (.plain (OpenSpec.ofChange symsTwiceSpec)) symsTwiceCard

/-- THE TIED CARD OF 'caponierlaw07.SymsTurned'. -/
def symsTurnedCard : Claim7 := { stood := { row := symsTurnedRow, standIns := [], harness := (true, "72443a834e19e08b0ea8a647ef82c9b188f09355b0b0865ae35a6998f12e1d20"), looks := false }, kinds := [], alts := [], laidByText := true, laidKinds := [.data, .data, .pinned], laidTests := true, laidLooks := .later }
def SymsTurnedCardSaid : Prop := Claim7.holds Tryz.pinned (.plain (OpenSpec.ofChange symsTurnedSpec)) symsTurnedCard

/-- THE TIED CARD OF 'caponierlaw07.SymsOuts'. -/
def symsOutsCard : Claim7 := { stood := { row := symsOutsRow, standIns := [], harness := (true, "72443a834e19e08b0ea8a647ef82c9b188f09355b0b0865ae35a6998f12e1d20"), looks := false }, kinds := [], alts := [], laidByText := true, laidKinds := [.data, .data, .pinned], laidTests := true, laidLooks := .later }
def SymsOutsCardSaid : Prop := Claim7.holds Tryz.pinned (.plain (OpenSpec.ofChange symsOutsSpec)) symsOutsCard

/-- THE TIED CARD OF 'caponierlaw07.SymsAlone'. -/
def symsAloneCard : Claim7 := { stood := { row := symsAloneRow, standIns := [], harness := (true, "72443a834e19e08b0ea8a647ef82c9b188f09355b0b0865ae35a6998f12e1d20"), looks := false }, kinds := [], alts := [], laidByText := true, laidKinds := [.data, .data, .pinned], laidTests := true, laidLooks := .later }
def SymsAloneCardSaid : Prop := Claim7.holds Tryz.pinned (.plain (OpenSpec.ofChange symsAloneSpec)) symsAloneCard

/-- THE SECOND FORM's CARD OF 'caponierlaw07.SymsLeast'. -/
def symsLeastUptoCard : Claim7 := { stood := { row := symsLeastUptoRow, standIns := [], harness := (true, "72443a834e19e08b0ea8a647ef82c9b188f09355b0b0865ae35a6998f12e1d20"), looks := false }, kinds := [], alts := [], laidByText := true, laidKinds := [.data, .data, .pinned], laidTests := true, laidLooks := .later }
def SymsLeastUptoCardSaid : Prop := Claim7.holds Tryz.pinned (.plain (OpenSpec.upto symsLeastSpec)) symsLeastUptoCard

/-- THE SECOND FORM's CARD OF 'caponierlaw07.SymsTwice'. -/
def symsTwiceUptoCard : Claim7 := { stood := { row := symsTwiceUptoRow, standIns := [], harness := (true, "72443a834e19e08b0ea8a647ef82c9b188f09355b0b0865ae35a6998f12e1d20"), looks := false }, kinds := [], alts := [], laidByText := true, laidKinds := [.data, .data, .pinned], laidTests := true, laidLooks := .later }
def SymsTwiceUptoCardSaid : Prop := Claim7.holds Tryz.pinned (.plain (OpenSpec.upto symsTwiceSpec)) symsTwiceUptoCard

/-- THE SECOND FORM's CARD OF 'caponierlaw07.SymsTurned'. -/
def symsTurnedUptoCard : Claim7 := { stood := { row := symsTurnedUptoRow, standIns := [], harness := (true, "72443a834e19e08b0ea8a647ef82c9b188f09355b0b0865ae35a6998f12e1d20"), looks := false }, kinds := [], alts := [], laidByText := true, laidKinds := [.data, .data, .pinned], laidTests := true, laidLooks := .later }
def SymsTurnedUptoCardSaid : Prop := Claim7.holds Tryz.pinned (.plain (OpenSpec.upto symsTurnedSpec)) symsTurnedUptoCard

/-- THE SECOND FORM's CARD OF 'caponierlaw07.SymsOuts'. -/
def symsOutsUptoCard : Claim7 := { stood := { row := symsOutsUptoRow, standIns := [], harness := (true, "72443a834e19e08b0ea8a647ef82c9b188f09355b0b0865ae35a6998f12e1d20"), looks := false }, kinds := [], alts := [], laidByText := true, laidKinds := [.data, .data, .pinned], laidTests := true, laidLooks := .later }
def SymsOutsUptoCardSaid : Prop := Claim7.holds Tryz.pinned (.plain (OpenSpec.upto symsOutsSpec)) symsOutsUptoCard

/-- THE SECOND FORM's CARD OF 'caponierlaw07.SymsAlone'. -/
def symsAloneUptoCard : Claim7 := { stood := { row := symsAloneUptoRow, standIns := [], harness := (true, "72443a834e19e08b0ea8a647ef82c9b188f09355b0b0865ae35a6998f12e1d20"), looks := false }, kinds := [], alts := [], laidByText := true, laidKinds := [.data, .data, .pinned], laidTests := true, laidLooks := .later }
def SymsAloneUptoCardSaid : Prop := Claim7.holds Tryz.pinned (.plain (OpenSpec.upto symsAloneSpec)) symsAloneUptoCard
end Rows
end Go.Proofs.YtobablbcmdhlbaaGreatDoor
