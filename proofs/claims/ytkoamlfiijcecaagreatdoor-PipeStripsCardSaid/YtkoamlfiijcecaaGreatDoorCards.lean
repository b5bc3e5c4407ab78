/-
  DERIVED. GIVEN WITH THE SEED: THE CARDS: each row of YtkoamlfiijcecaaGreatDoorRows.lean that lists a variable, with what it lists TIED to the program's text (the seventh form; the later family's looks); each row that meets fmt, with fmt's text TOLD by the authors' own Lean function (tested against real Go, not proved from fmt's source: count such statements apart). THE CARD IS WHAT COUNTS. Prove the row's statement (the work); the ties are given (YtkoamlfiijcecaaGreatDoorTie.lean); close each card by the builder's one call (the guide's Derived/Test/ToyasCard.lean, 'card_holds'). Laid BY PROGRAM, IN A SANDBOX (cutbox-door.mjs). By AI agents, Wed Nov 11 2026. No macro, syntax, notation, axiom, sorry.
-/
import Derived.Test.YtkoamlfiijcecaaGreatDoorRows
import GoSem.ClaimSeven
namespace Go.Proofs.YtkoamlfiijcecaaGreatDoor
namespace Rows

/-- THE TIED CARD OF 'dromondlaw22.PipeStrips'. -/
def pipeStripsCard : Claim7 := { stood := { row := pipeStripsRow, standIns := [], harness := (true, "4837894407b224f20b26846f00639c503450556efef3002fcea4ba65605be0a3"), looks := true }, kinds := [], alts := [], laidByText := true, laidKinds := [.sentinel], laidTests := true, laidLooks := .later }
def PipeStripsCardSaid : Prop := Claim7.holds Tryz.pinned (.plain (OpenSpec.ofChange pipeStripsSpec)) pipeStripsCard

/-- THE SECOND FORM's CARD OF 'dromondlaw22.PipeStrips'. -/
def pipeStripsUptoCard : Claim7 := { stood := { row := pipeStripsUptoRow, standIns := [], harness := (true, "4837894407b224f20b26846f00639c503450556efef3002fcea4ba65605be0a3"), looks := true }, kinds := [], alts := [], laidByText := true, laidKinds := [.sentinel], laidTests := true, laidLooks := .later }
def PipeStripsUptoCardSaid : Prop := Claim7.holds Tryz.pinned (.plain (OpenSpec.upto pipeStripsSpec)) pipeStripsUptoCard
end Rows
end Go.Proofs.YtkoamlfiijcecaaGreatDoor
