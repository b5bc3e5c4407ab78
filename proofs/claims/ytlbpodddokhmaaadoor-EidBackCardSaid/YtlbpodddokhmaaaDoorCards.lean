/-
  DERIVED. GIVEN WITH THE SEED: THE CARDS: each row of YtlbpodddokhmaaaDoorRows.lean that lists a variable, with what it lists TIED to the program's text (the seventh form; the later family's looks); each row that meets fmt, with fmt's text TOLD by the authors' own Lean function (tested against real Go, not proved from fmt's source: count such statements apart). THE CARD IS WHAT COUNTS. Prove the row's statement (the work); the ties are given (YtlbpodddokhmaaaDoorTie.lean); close each card by the builder's one call (the guide's Derived/Test/ToyasCard.lean, 'card_holds'). Laid BY PROGRAM, IN A SANDBOX (cutbox-door.mjs). By AI agents, Wed Nov 11 2026. No macro, syntax, notation, axiom, sorry.
-/
import Derived.Test.YtlbpodddokhmaaaDoorRows
import GoSem.ClaimSeven
namespace Go.Proofs.YtlbpodddokhmaaaDoor
namespace Rows

/-- THE TIED CARD OF 'dromondlaw10.EidParses'. -/
def eidParsesCard : Claim7 := { stood := { row := eidParsesRow, standIns := [], harness := (true, "08e871a8bd3f91ee1a7ec3f79a3cc1bcdcae0cd351f44e4860eabb233fc97e56"), looks := true }, kinds := [], alts := [], laidByText := true, laidKinds := [.data, .data, .data, .sentinel, .sentinel], laidTests := true, laidLooks := .later }
def EidParsesCardSaid : Prop := Claim7.holds Tryd.pinned (.plain (OpenSpec.ofChange eidParsesSpec)) eidParsesCard

/-- THE TIED CARD OF 'dromondlaw10.EidBack'. -/
def eidBackCard : Claim7 := { stood := { row := eidBackRow, standIns := [], harness := (true, "08e871a8bd3f91ee1a7ec3f79a3cc1bcdcae0cd351f44e4860eabb233fc97e56"), looks := true }, kinds := [], alts := [], laidByText := true, laidKinds := [.data, .data, .data, .sentinel, .sentinel], laidTests := true, laidLooks := .later }
def EidBackCardSaid : Prop := Claim7.holds Tryd.pinned (.plain (OpenSpec.ofChange eidBackSpec)) eidBackCard

/-- THE SECOND FORM's CARD OF 'dromondlaw10.EidParses'. -/
def eidParsesUptoCard : Claim7 := { stood := { row := eidParsesUptoRow, standIns := [], harness := (true, "08e871a8bd3f91ee1a7ec3f79a3cc1bcdcae0cd351f44e4860eabb233fc97e56"), looks := true }, kinds := [], alts := [], laidByText := true, laidKinds := [.data, .data, .data, .sentinel, .sentinel], laidTests := true, laidLooks := .later }
def EidParsesUptoCardSaid : Prop := Claim7.holds Tryd.pinned (.plain (OpenSpec.upto eidParsesSpec)) eidParsesUptoCard

/-- THE SECOND FORM's CARD OF 'dromondlaw10.EidBack'. -/
def eidBackUptoCard : Claim7 := { stood := { row := eidBackUptoRow, standIns := [], harness := (true, "08e871a8bd3f91ee1a7ec3f79a3cc1bcdcae0cd351f44e4860eabb233fc97e56"), looks := true }, kinds := [], alts := [], laidByText := true, laidKinds := [.data, .data, .data, .sentinel, .sentinel], laidTests := true, laidLooks := .later }
def EidBackUptoCardSaid : Prop := Claim7.holds Tryd.pinned (.plain (OpenSpec.upto eidBackSpec)) eidBackUptoCard
end Rows
end Go.Proofs.YtlbpodddokhmaaaDoor
