/-
  DERIVED. GIVEN WITH THE SEED: THE CARDS: each row of YtgbndganadelpaaGreatDoorRows.lean that lists a variable, with what it lists TIED to the program's text (the seventh form; the later family's looks); each row that meets fmt, with fmt's text TOLD by the authors' own Lean function (tested against real Go, not proved from fmt's source: count such statements apart). THE CARD IS WHAT COUNTS. Prove the row's statement (the work); the ties are given (YtgbndganadelpaaGreatDoorTie.lean); close each card by the builder's one call (the guide's Derived/Test/ToyasCard.lean, 'card_holds'). Laid BY PROGRAM, IN A SANDBOX (cutbox-door.mjs). By AI agents, Wed Nov 11 2026. No macro, syntax, notation, axiom, sorry.
-/
import Derived.Test.YtgbndganadelpaaGreatDoorRows
import GoSem.ClaimSeven
namespace Go.Proofs.YtgbndganadelpaaGreatDoor
namespace Rows

/-- THE TIED CARD OF 'quadformlaw32.LocalmassRegular'. -/
def localmassRegularCard : Claim7 := { stood := { row := localmassRegularRow, standIns := [], harness := (true, "20f71918efc511f2be417ad7dcb265a0f8ffbdb8f860dff55b5ac355e1001361"), looks := false }, kinds := [], alts := [], laidByText := true, laidKinds := [.data], laidTests := true, laidLooks := .later }
def LocalmassRegularCardSaid : Prop := Claim7.holds Tryz.pinned (.plain (OpenSpec.ofChange localmassRegularSpec)) localmassRegularCard

/-- THE TIED CARD OF 'quadformlaw32.LocalmassPositive'. -/
def localmassPositiveCard : Claim7 := { stood := { row := localmassPositiveRow, standIns := [], harness := (true, "20f71918efc511f2be417ad7dcb265a0f8ffbdb8f860dff55b5ac355e1001361"), looks := false }, kinds := [], alts := [], laidByText := true, laidKinds := [.data], laidTests := true, laidLooks := .later }
def LocalmassPositiveCardSaid : Prop := Claim7.holds Tryz.pinned (.plain (OpenSpec.ofChange localmassPositiveSpec)) localmassPositiveCard

/-- THE TIED CARD OF 'quadformlaw32.LocalmassDiagonal'. -/
def localmassDiagonalCard : Claim7 := { stood := { row := localmassDiagonalRow, standIns := [], harness := (true, "20f71918efc511f2be417ad7dcb265a0f8ffbdb8f860dff55b5ac355e1001361"), looks := false }, kinds := [], alts := [], laidByText := true, laidKinds := [.data], laidTests := true, laidLooks := .later }
def LocalmassDiagonalCardSaid : Prop := Claim7.holds Tryz.pinned (.plain (OpenSpec.ofChange localmassDiagonalSpec)) localmassDiagonalCard

/-- THE TIED CARD OF 'quadformlaw32.LocalmassCross'. -/
def localmassCrossCard : Claim7 := { stood := { row := localmassCrossRow, standIns := [], harness := (true, "20f71918efc511f2be417ad7dcb265a0f8ffbdb8f860dff55b5ac355e1001361"), looks := false }, kinds := [], alts := [], laidByText := true, laidKinds := [.data], laidTests := true, laidLooks := .later }
def LocalmassCrossCardSaid : Prop := Claim7.holds Tryz.pinned (.plain (OpenSpec.ofChange localmassCrossSpec)) localmassCrossCard

/-- THE TIED CARD OF 'quadformlaw32.LocalmassMass'. -/
def localmassMassCard : Claim7 := { stood := { row := localmassMassRow, standIns := [], harness := (true, "20f71918efc511f2be417ad7dcb265a0f8ffbdb8f860dff55b5ac355e1001361"), looks := false }, kinds := [], alts := [], laidByText := true, laidKinds := [.data], laidTests := true, laidLooks := .later }
def LocalmassMassCardSaid : Prop := Claim7.holds Tryz.pinned (.plain (OpenSpec.ofChange localmassMassSpec)) localmassMassCard

/-- THE TIED CARD OF 'quadformlaw32.LocalmassScales'. -/
def localmassScalesCard : Claim7 := { stood := { row := localmassScalesRow, standIns := [], harness := (true, "20f71918efc511f2be417ad7dcb265a0f8ffbdb8f860dff55b5ac355e1001361"), looks := false }, kinds := [], alts := [], laidByText := true, laidKinds := [.data], laidTests := true, laidLooks := .later }
def LocalmassScalesCardSaid : Prop := Claim7.holds Tryz.pinned (.plain (OpenSpec.ofChange localmassScalesSpec)) localmassScalesCard

/-- THE TIED CARD OF 'quadformlaw32.LocalmassStandard'. -/
def localmassStandardCard : Claim7 := { stood := { row := localmassStandardRow, standIns := [], harness := (true, "20f71918efc511f2be417ad7dcb265a0f8ffbdb8f860dff55b5ac355e1001361"), looks := false }, kinds := [], alts := [], laidByText := true, laidKinds := [.data], laidTests := true, laidLooks := .later }
def LocalmassStandardCardSaid : Prop := Claim7.holds Tryz.pinned (.plain (OpenSpec.ofChange localmassStandardSpec)) localmassStandardCard

/-- THE TIED CARD OF 'quadformlaw32.LocalmassSpecies'. -/
def localmassSpeciesCard : Claim7 := { stood := { row := localmassSpeciesRow, standIns := [], harness := (true, "20f71918efc511f2be417ad7dcb265a0f8ffbdb8f860dff55b5ac355e1001361"), looks := false }, kinds := [], alts := [], laidByText := true, laidKinds := [.data], laidTests := true, laidLooks := .later }
def LocalmassSpeciesCardSaid : Prop := Claim7.holds Tryz.pinned (.plain (OpenSpec.ofChange localmassSpeciesSpec)) localmassSpeciesCard

/-- THE TIED CARD OF 'quadformlaw32.LocalmassWalks'. -/
def localmassWalksCard : Claim7 := { stood := { row := localmassWalksRow, standIns := [], harness := (true, "20f71918efc511f2be417ad7dcb265a0f8ffbdb8f860dff55b5ac355e1001361"), looks := false }, kinds := [], alts := [], laidByText := true, laidKinds := [.data], laidTests := true, laidLooks := .later }
def LocalmassWalksCardSaid : Prop := Claim7.holds Tryz.pinned (.plain (OpenSpec.ofChange localmassWalksSpec)) localmassWalksCard

/-- THE SECOND FORM's CARD OF 'quadformlaw32.LocalmassRegular'. -/
def localmassRegularUptoCard : Claim7 := { stood := { row := localmassRegularUptoRow, standIns := [], harness := (true, "20f71918efc511f2be417ad7dcb265a0f8ffbdb8f860dff55b5ac355e1001361"), looks := false }, kinds := [], alts := [], laidByText := true, laidKinds := [.data], laidTests := true, laidLooks := .later }
def LocalmassRegularUptoCardSaid : Prop := Claim7.holds Tryz.pinned (.plain (OpenSpec.upto localmassRegularSpec)) localmassRegularUptoCard

/-- THE SECOND FORM's CARD OF 'quadformlaw32.LocalmassPositive'. -/
def localmassPositiveUptoCard : Claim7 := { stood := { row := localmassPositiveUptoRow, standIns := [], harness := (true, "20f71918efc511f2be417ad7dcb265a0f8ffbdb8f860dff55b5ac355e1001361"), looks := false }, kinds := [], alts := [], laidByText := true, laidKinds := [.data], laidTests := true, laidLooks := .later }
def LocalmassPositiveUptoCardSaid : Prop := Claim7.holds Tryz.pinned (.plain (OpenSpec.upto localmassPositiveSpec)) localmassPositiveUptoCard

/-- THE SECOND FORM's CARD OF 'quadformlaw32.LocalmassDiagonal'. -/
def localmassDiagonalUptoCard : Claim7 := { stood := { row := localmassDiagonalUptoRow, standIns := [], harness := (true, "20f71918efc511f2be417ad7dcb265a0f8ffbdb8f860dff55b5ac355e1001361"), looks := false }, kinds := [], alts := [], laidByText := true, laidKinds := [.data], laidTests := true, laidLooks := .later }
def LocalmassDiagonalUptoCardSaid : Prop := Claim7.holds Tryz.pinned (.plain (OpenSpec.upto localmassDiagonalSpec)) localmassDiagonalUptoCard

/-- THE SECOND FORM's CARD OF 'quadformlaw32.LocalmassCross'. -/
def localmassCrossUptoCard : Claim7 := { stood := { row := localmassCrossUptoRow, standIns := [], harness := (true, "20f71918efc511f2be417ad7dcb265a0f8ffbdb8f860dff55b5ac355e1001361"), looks := false }, kinds := [], alts := [], laidByText := true, laidKinds := [.data], laidTests := true, laidLooks := .later }
def LocalmassCrossUptoCardSaid : Prop := Claim7.holds Tryz.pinned (.plain (OpenSpec.upto localmassCrossSpec)) localmassCrossUptoCard

/-- THE SECOND FORM's CARD OF 'quadformlaw32.LocalmassMass'. -/
def localmassMassUptoCard : Claim7 := { stood := { row := localmassMassUptoRow, standIns := [], harness := (true, "20f71918efc511f2be417ad7dcb265a0f8ffbdb8f860dff55b5ac355e1001361"), looks := false }, kinds := [], alts := [], laidByText := true, laidKinds := [.data], laidTests := true, laidLooks := .later }
def LocalmassMassUptoCardSaid : Prop := Claim7.holds Tryz.pinned (.plain (OpenSpec.upto localmassMassSpec)) localmassMassUptoCard

/-- THE SECOND FORM's CARD OF 'quadformlaw32.LocalmassScales'. -/
def localmassScalesUptoCard : Claim7 := { stood := { row := localmassScalesUptoRow, standIns := [], harness := (true, "20f71918efc511f2be417ad7dcb265a0f8ffbdb8f860dff55b5ac355e1001361"), looks := false }, kinds := [], alts := [], laidByText := true, laidKinds := [.data], laidTests := true, laidLooks := .later }
def LocalmassScalesUptoCardSaid : Prop := Claim7.holds Tryz.pinned (.plain (OpenSpec.upto localmassScalesSpec)) localmassScalesUptoCard

/-- THE SECOND FORM's CARD OF 'quadformlaw32.LocalmassStandard'. -/
def localmassStandardUptoCard : Claim7 := { stood := { row := localmassStandardUptoRow, standIns := [], harness := (true, "20f71918efc511f2be417ad7dcb265a0f8ffbdb8f860dff55b5ac355e1001361"), looks := false }, kinds := [], alts := [], laidByText := true, laidKinds := [.data], laidTests := true, laidLooks := .later }
def LocalmassStandardUptoCardSaid : Prop := Claim7.holds Tryz.pinned (.plain (OpenSpec.upto localmassStandardSpec)) localmassStandardUptoCard

/-- THE SECOND FORM's CARD OF 'quadformlaw32.LocalmassSpecies'. -/
def localmassSpeciesUptoCard : Claim7 := { stood := { row := localmassSpeciesUptoRow, standIns := [], harness := (true, "20f71918efc511f2be417ad7dcb265a0f8ffbdb8f860dff55b5ac355e1001361"), looks := false }, kinds := [], alts := [], laidByText := true, laidKinds := [.data], laidTests := true, laidLooks := .later }
def LocalmassSpeciesUptoCardSaid : Prop := Claim7.holds Tryz.pinned (.plain (OpenSpec.upto localmassSpeciesSpec)) localmassSpeciesUptoCard

/-- THE SECOND FORM's CARD OF 'quadformlaw32.LocalmassWalks'. -/
def localmassWalksUptoCard : Claim7 := { stood := { row := localmassWalksUptoRow, standIns := [], harness := (true, "20f71918efc511f2be417ad7dcb265a0f8ffbdb8f860dff55b5ac355e1001361"), looks := false }, kinds := [], alts := [], laidByText := true, laidKinds := [.data], laidTests := true, laidLooks := .later }
def LocalmassWalksUptoCardSaid : Prop := Claim7.holds Tryz.pinned (.plain (OpenSpec.upto localmassWalksSpec)) localmassWalksUptoCard
end Rows
end Go.Proofs.YtgbndganadelpaaGreatDoor
