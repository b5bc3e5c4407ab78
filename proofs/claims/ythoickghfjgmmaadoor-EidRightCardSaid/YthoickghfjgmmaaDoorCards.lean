/-
  DERIVED. GIVEN WITH THE SEED: THE CARDS: each row of YthoickghfjgmmaaDoorRows.lean that lists a variable, with what it lists TIED to the program's text (the seventh form; the later family's looks); each row that meets fmt, with fmt's text TOLD by the authors' own Lean function (tested against real Go, not proved from fmt's source: count such statements apart). THE CARD IS WHAT COUNTS. Prove the row's statement (the work); the ties are given (YthoickghfjgmmaaDoorTie.lean); close each card by the builder's one call (the guide's Derived/Test/ToyasCard.lean, 'card_holds'). Laid BY PROGRAM, IN A SANDBOX (cutbox-door.mjs). By AI agents, Wed Nov 11 2026. No macro, syntax, notation, axiom, sorry.
-/
import Derived.Test.YthoickghfjgmmaaDoorRows
import GoSem.ClaimSeven
namespace Go.Proofs.YthoickghfjgmmaaDoor
namespace Rows

/-- THE TIED CARD OF 'dromondlaw10.EidRight'. -/
def eidRightCard : Claim7 := { stood := { row := eidRightRow, standIns := [], harness := (true, "f3f50a0237b8dbdbf75c8729aca0f66869a2a5f4b59819d469d1a4c8f4e3557c"), looks := false }, kinds := [], alts := [], laidByText := true, laidKinds := [.data, .data, .data], laidTests := true, laidLooks := .later }
def EidRightCardSaid : Prop := Claim7.holds Tryd.pinned (.plain (OpenSpec.ofChange eidRightSpec)) eidRightCard

/-- THE SECOND FORM's CARD OF 'dromondlaw10.EidRight'. -/
def eidRightUptoCard : Claim7 := { stood := { row := eidRightUptoRow, standIns := [], harness := (true, "f3f50a0237b8dbdbf75c8729aca0f66869a2a5f4b59819d469d1a4c8f4e3557c"), looks := false }, kinds := [], alts := [], laidByText := true, laidKinds := [.data, .data, .data], laidTests := true, laidLooks := .later }
def EidRightUptoCardSaid : Prop := Claim7.holds Tryd.pinned (.plain (OpenSpec.upto eidRightSpec)) eidRightUptoCard
end Rows
end Go.Proofs.YthoickghfjgmmaaDoor
