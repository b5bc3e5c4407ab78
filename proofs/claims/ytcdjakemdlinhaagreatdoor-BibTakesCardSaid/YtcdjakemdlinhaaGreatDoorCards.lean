/-
  DERIVED. GIVEN WITH THE SEED: THE CARDS: each row of YtcdjakemdlinhaaGreatDoorRows.lean that lists a variable, with what it lists TIED to the program's text (the seventh form; the later family's looks); each row that meets fmt, with fmt's text TOLD by the authors' own Lean function (tested against real Go, not proved from fmt's source: count such statements apart). THE CARD IS WHAT COUNTS. Prove the row's statement (the work); the ties are given (YtcdjakemdlinhaaGreatDoorTie.lean); close each card by the builder's one call (the guide's Derived/Test/ToyasCard.lean, 'card_holds'). Laid BY PROGRAM, IN A SANDBOX (cutbox-door.mjs). By AI agents, Wed Nov 11 2026. No macro, syntax, notation, axiom, sorry.
-/
import Derived.Test.YtcdjakemdlinhaaGreatDoorRows
import GoSem.ClaimSeven
namespace Go.Proofs.YtcdjakemdlinhaaGreatDoor
namespace Rows

/-- THE TIED CARD OF 'dromondlaw19.BcbBlind'. -/
def bcbBlindCard : Claim7 := { stood := { row := bcbBlindRow, standIns := [], harness := (true, "162cf932418265295b348462ddf9a643087dcb925c3e69666c5741a7b2464bdc"), looks := true }, kinds := [], alts := [], laidByText := true, laidKinds := [.sentinel], laidTests := true, laidLooks := .later }
def BcbBlindCardSaid : Prop := Claim7.holds Tryz.pinned (.plain (OpenSpec.ofChange bcbBlindSpec)) bcbBlindCard

/-- THE TIED CARD OF 'dromondlaw18.BibOnly'. -/
def bibOnlyCard : Claim7 := { stood := { row := bibOnlyRow, standIns := [], harness := (true, "162cf932418265295b348462ddf9a643087dcb925c3e69666c5741a7b2464bdc"), looks := true }, kinds := [], alts := [], laidByText := true, laidKinds := [.sentinel], laidTests := true, laidLooks := .later }
def BibOnlyCardSaid : Prop := Claim7.holds Tryz.pinned (.plain (OpenSpec.ofChange bibOnlySpec)) bibOnlyCard

/-- THE TIED CARD OF 'dromondlaw18.BibTakes'. -/
def bibTakesCard : Claim7 := { stood := { row := bibTakesRow, standIns := [], harness := (true, "162cf932418265295b348462ddf9a643087dcb925c3e69666c5741a7b2464bdc"), looks := true }, kinds := [], alts := [], laidByText := true, laidKinds := [.sentinel], laidTests := true, laidLooks := .later }
def BibTakesCardSaid : Prop := Claim7.holds Tryz.pinned (.plain (OpenSpec.ofChange bibTakesSpec)) bibTakesCard

/-- THE TIED CARD OF 'dromondlaw18.BibBack'. -/
def bibBackCard : Claim7 := { stood := { row := bibBackRow, standIns := [], harness := (true, "162cf932418265295b348462ddf9a643087dcb925c3e69666c5741a7b2464bdc"), looks := true }, kinds := [], alts := [], laidByText := true, laidKinds := [.sentinel], laidTests := true, laidLooks := .later }
def BibBackCardSaid : Prop := Claim7.holds Tryz.pinned (.plain (OpenSpec.ofChange bibBackSpec)) bibBackCard

/-- THE TIED CARD OF 'dromondlaw19.BcbBack'. -/
def bcbBackCard : Claim7 := { stood := { row := bcbBackRow, standIns := [], harness := (true, "162cf932418265295b348462ddf9a643087dcb925c3e69666c5741a7b2464bdc"), looks := true }, kinds := [], alts := [], laidByText := true, laidKinds := [.sentinel], laidTests := true, laidLooks := .later }
def BcbBackCardSaid : Prop := Claim7.holds Tryz.pinned (.plain (OpenSpec.ofChange bcbBackSpec)) bcbBackCard

/-- THE TIED CARD OF 'dromondlaw19.BcbOnly'. -/
def bcbOnlyCard : Claim7 := { stood := { row := bcbOnlyRow, standIns := [], harness := (true, "162cf932418265295b348462ddf9a643087dcb925c3e69666c5741a7b2464bdc"), looks := true }, kinds := [], alts := [], laidByText := true, laidKinds := [.sentinel], laidTests := true, laidLooks := .later }
def BcbOnlyCardSaid : Prop := Claim7.holds Tryz.pinned (.plain (OpenSpec.ofChange bcbOnlySpec)) bcbOnlyCard

/-- THE SECOND FORM's CARD OF 'dromondlaw19.BcbBlind'. -/
def bcbBlindUptoCard : Claim7 := { stood := { row := bcbBlindUptoRow, standIns := [], harness := (true, "162cf932418265295b348462ddf9a643087dcb925c3e69666c5741a7b2464bdc"), looks := true }, kinds := [], alts := [], laidByText := true, laidKinds := [.sentinel], laidTests := true, laidLooks := .later }
def BcbBlindUptoCardSaid : Prop := Claim7.holds Tryz.pinned (.plain (OpenSpec.upto bcbBlindSpec)) bcbBlindUptoCard

/-- THE SECOND FORM's CARD OF 'dromondlaw18.BibOnly'. -/
def bibOnlyUptoCard : Claim7 := { stood := { row := bibOnlyUptoRow, standIns := [], harness := (true, "162cf932418265295b348462ddf9a643087dcb925c3e69666c5741a7b2464bdc"), looks := true }, kinds := [], alts := [], laidByText := true, laidKinds := [.sentinel], laidTests := true, laidLooks := .later }
def BibOnlyUptoCardSaid : Prop := Claim7.holds Tryz.pinned (.plain (OpenSpec.upto bibOnlySpec)) bibOnlyUptoCard

/-- THE SECOND FORM's CARD OF 'dromondlaw18.BibTakes'. -/
def bibTakesUptoCard : Claim7 := { stood := { row := bibTakesUptoRow, standIns := [], harness := (true, "162cf932418265295b348462ddf9a643087dcb925c3e69666c5741a7b2464bdc"), looks := true }, kinds := [], alts := [], laidByText := true, laidKinds := [.sentinel], laidTests := true, laidLooks := .later }
def BibTakesUptoCardSaid : Prop := Claim7.holds Tryz.pinned (.plain (OpenSpec.upto bibTakesSpec)) bibTakesUptoCard

/-- THE SECOND FORM's CARD OF 'dromondlaw18.BibBack'. -/
def bibBackUptoCard : Claim7 := { stood := { row := bibBackUptoRow, standIns := [], harness := (true, "162cf932418265295b348462ddf9a643087dcb925c3e69666c5741a7b2464bdc"), looks := true }, kinds := [], alts := [], laidByText := true, laidKinds := [.sentinel], laidTests := true, laidLooks := .later }
def BibBackUptoCardSaid : Prop := Claim7.holds Tryz.pinned (.plain (OpenSpec.upto bibBackSpec)) bibBackUptoCard

/-- THE SECOND FORM's CARD OF 'dromondlaw19.BcbBack'. -/
def bcbBackUptoCard : Claim7 := { stood := { row := bcbBackUptoRow, standIns := [], harness := (true, "162cf932418265295b348462ddf9a643087dcb925c3e69666c5741a7b2464bdc"), looks := true }, kinds := [], alts := [], laidByText := true, laidKinds := [.sentinel], laidTests := true, laidLooks := .later }
def BcbBackUptoCardSaid : Prop := Claim7.holds Tryz.pinned (.plain (OpenSpec.upto bcbBackSpec)) bcbBackUptoCard

/-- THE SECOND FORM's CARD OF 'dromondlaw19.BcbOnly'. -/
def bcbOnlyUptoCard : Claim7 := { stood := { row := bcbOnlyUptoRow, standIns := [], harness := (true, "162cf932418265295b348462ddf9a643087dcb925c3e69666c5741a7b2464bdc"), looks := true }, kinds := [], alts := [], laidByText := true, laidKinds := [.sentinel], laidTests := true, laidLooks := .later }
def BcbOnlyUptoCardSaid : Prop := Claim7.holds Tryz.pinned (.plain (OpenSpec.upto bcbOnlySpec)) bcbOnlyUptoCard
end Rows
end Go.Proofs.YtcdjakemdlinhaaGreatDoor
