/-
  DERIVED. GIVEN WITH THE SEED: THE CARDS: each row of YtpgadpnaekhiaaaDoorRows.lean that lists a variable, with what it lists TIED to the program's text (the seventh form; the later family's looks); each row that meets fmt, with fmt's text TOLD by the authors' own Lean function (tested against real Go, not proved from fmt's source: count such statements apart). THE CARD IS WHAT COUNTS. Prove the row's statement (the work); the ties are given (YtpgadpnaekhiaaaDoorTie.lean); close each card by the builder's one call (the guide's Derived/Test/ToyasCard.lean, 'card_holds'). Laid BY PROGRAM, IN A SANDBOX (cutbox-door.mjs). By AI agents, Wed Nov 11 2026. No macro, syntax, notation, axiom, sorry.
-/
import Derived.Test.YtpgadpnaekhiaaaDoorRows
import GoSem.ClaimSeven
namespace Go.Proofs.YtpgadpnaekhiaaaDoor
namespace Rows

/-- THE TIED CARD OF 'dromondlaw06.HmacSums'. -/
def hmacSumsCard : Claim7 := { stood := { row := hmacSumsRow, standIns := [], harness := (true, "2e3556fb2737b9446447295cc99a6f79054103e76f59878535ebabf517a44985"), looks := false }, kinds := [], alts := [], laidByText := true, laidKinds := [.data, .data], laidTests := true, laidLooks := .later }
def HmacSumsCardSaid : Prop := Claim7.holds Tryd.pinned (.plain (OpenSpec.ofChange hmacSumsSpec)) hmacSumsCard

/-- THE TIED CARD OF 'dromondlaw06.HmacSizes'. -/
def hmacSizesCard : Claim7 := { stood := { row := hmacSizesRow, standIns := [], harness := (true, "2e3556fb2737b9446447295cc99a6f79054103e76f59878535ebabf517a44985"), looks := false }, kinds := [], alts := [], laidByText := true, laidKinds := [.data, .data], laidTests := true, laidLooks := .later }
def HmacSizesCardSaid : Prop := Claim7.holds Tryd.pinned (.plain (OpenSpec.ofChange hmacSizesSpec)) hmacSizesCard

/-- THE TIED CARD OF 'dromondlaw06.HmacParts'. -/
def hmacPartsCard : Claim7 := { stood := { row := hmacPartsRow, standIns := [], harness := (true, "2e3556fb2737b9446447295cc99a6f79054103e76f59878535ebabf517a44985"), looks := false }, kinds := [], alts := [], laidByText := true, laidKinds := [.data, .data], laidTests := true, laidLooks := .later }
def HmacPartsCardSaid : Prop := Claim7.holds Tryd.pinned (.plain (OpenSpec.ofChange hmacPartsSpec)) hmacPartsCard

/-- THE TIED CARD OF 'dromondlaw06.HmacKeys'. -/
def hmacKeysCard : Claim7 := { stood := { row := hmacKeysRow, standIns := [], harness := (true, "2e3556fb2737b9446447295cc99a6f79054103e76f59878535ebabf517a44985"), looks := false }, kinds := [], alts := [], laidByText := true, laidKinds := [.data, .data], laidTests := true, laidLooks := .later }
def HmacKeysCardSaid : Prop := Claim7.holds Tryd.pinned (.plain (OpenSpec.ofChange hmacKeysSpec)) hmacKeysCard

/-- THE TIED CARD OF 'dromondlaw06.HmacSame'. -/
def hmacSameCard : Claim7 := { stood := { row := hmacSameRow, standIns := [], harness := (true, "2e3556fb2737b9446447295cc99a6f79054103e76f59878535ebabf517a44985"), looks := false }, kinds := [], alts := [], laidByText := true, laidKinds := [.data, .data], laidTests := true, laidLooks := .later }
def HmacSameCardSaid : Prop := Claim7.holds Tryd.pinned (.plain (OpenSpec.ofChange hmacSameSpec)) hmacSameCard

/-- THE TIED CARD OF 'dromondlaw05.ShaSums'. -/
def shaSumsCard : Claim7 := { stood := { row := shaSumsRow, standIns := [], harness := (true, "2e3556fb2737b9446447295cc99a6f79054103e76f59878535ebabf517a44985"), looks := false }, kinds := [], alts := [], laidByText := true, laidKinds := [.data, .data], laidTests := true, laidLooks := .later }
def ShaSumsCardSaid : Prop := Claim7.holds Tryd.pinned (.plain (OpenSpec.ofChange shaSumsSpec)) shaSumsCard

/-- THE TIED CARD OF 'dromondlaw05.ShaLengths'. -/
def shaLengthsCard : Claim7 := { stood := { row := shaLengthsRow, standIns := [], harness := (true, "2e3556fb2737b9446447295cc99a6f79054103e76f59878535ebabf517a44985"), looks := false }, kinds := [], alts := [], laidByText := true, laidKinds := [.data, .data], laidTests := true, laidLooks := .later }
def ShaLengthsCardSaid : Prop := Claim7.holds Tryd.pinned (.plain (OpenSpec.ofChange shaLengthsSpec)) shaLengthsCard

/-- THE TIED CARD OF 'dromondlaw05.ShaSizes'. -/
def shaSizesCard : Claim7 := { stood := { row := shaSizesRow, standIns := [], harness := (true, "2e3556fb2737b9446447295cc99a6f79054103e76f59878535ebabf517a44985"), looks := false }, kinds := [], alts := [], laidByText := true, laidKinds := [.data, .data], laidTests := true, laidLooks := .later }
def ShaSizesCardSaid : Prop := Claim7.holds Tryd.pinned (.plain (OpenSpec.ofChange shaSizesSpec)) shaSizesCard

/-- THE SECOND FORM's CARD OF 'dromondlaw06.HmacSums'. -/
def hmacSumsUptoCard : Claim7 := { stood := { row := hmacSumsUptoRow, standIns := [], harness := (true, "2e3556fb2737b9446447295cc99a6f79054103e76f59878535ebabf517a44985"), looks := false }, kinds := [], alts := [], laidByText := true, laidKinds := [.data, .data], laidTests := true, laidLooks := .later }
def HmacSumsUptoCardSaid : Prop := Claim7.holds Tryd.pinned (.plain (OpenSpec.upto hmacSumsSpec)) hmacSumsUptoCard

/-- THE SECOND FORM's CARD OF 'dromondlaw06.HmacSizes'. -/
def hmacSizesUptoCard : Claim7 := { stood := { row := hmacSizesUptoRow, standIns := [], harness := (true, "2e3556fb2737b9446447295cc99a6f79054103e76f59878535ebabf517a44985"), looks := false }, kinds := [], alts := [], laidByText := true, laidKinds := [.data, .data], laidTests := true, laidLooks := .later }
def HmacSizesUptoCardSaid : Prop := Claim7.holds Tryd.pinned (.plain (OpenSpec.upto hmacSizesSpec)) hmacSizesUptoCard

/-- THE SECOND FORM's CARD OF 'dromondlaw06.HmacParts'. -/
def hmacPartsUptoCard : Claim7 := { stood := { row := hmacPartsUptoRow, standIns := [], harness := (true, "2e3556fb2737b9446447295cc99a6f79054103e76f59878535ebabf517a44985"), looks := false }, kinds := [], alts := [], laidByText := true, laidKinds := [.data, .data], laidTests := true, laidLooks := .later }
def HmacPartsUptoCardSaid : Prop := Claim7.holds Tryd.pinned (.plain (OpenSpec.upto hmacPartsSpec)) hmacPartsUptoCard

/-- THE SECOND FORM's CARD OF 'dromondlaw06.HmacKeys'. -/
def hmacKeysUptoCard : Claim7 := { stood := { row := hmacKeysUptoRow, standIns := [], harness := (true, "2e3556fb2737b9446447295cc99a6f79054103e76f59878535ebabf517a44985"), looks := false }, kinds := [], alts := [], laidByText := true, laidKinds := [.data, .data], laidTests := true, laidLooks := .later }
def HmacKeysUptoCardSaid : Prop := Claim7.holds Tryd.pinned (.plain (OpenSpec.upto hmacKeysSpec)) hmacKeysUptoCard

/-- THE SECOND FORM's CARD OF 'dromondlaw06.HmacSame'. -/
def hmacSameUptoCard : Claim7 := { stood := { row := hmacSameUptoRow, standIns := [], harness := (true, "2e3556fb2737b9446447295cc99a6f79054103e76f59878535ebabf517a44985"), looks := false }, kinds := [], alts := [], laidByText := true, laidKinds := [.data, .data], laidTests := true, laidLooks := .later }
def HmacSameUptoCardSaid : Prop := Claim7.holds Tryd.pinned (.plain (OpenSpec.upto hmacSameSpec)) hmacSameUptoCard

/-- THE SECOND FORM's CARD OF 'dromondlaw05.ShaSums'. -/
def shaSumsUptoCard : Claim7 := { stood := { row := shaSumsUptoRow, standIns := [], harness := (true, "2e3556fb2737b9446447295cc99a6f79054103e76f59878535ebabf517a44985"), looks := false }, kinds := [], alts := [], laidByText := true, laidKinds := [.data, .data], laidTests := true, laidLooks := .later }
def ShaSumsUptoCardSaid : Prop := Claim7.holds Tryd.pinned (.plain (OpenSpec.upto shaSumsSpec)) shaSumsUptoCard

/-- THE SECOND FORM's CARD OF 'dromondlaw05.ShaLengths'. -/
def shaLengthsUptoCard : Claim7 := { stood := { row := shaLengthsUptoRow, standIns := [], harness := (true, "2e3556fb2737b9446447295cc99a6f79054103e76f59878535ebabf517a44985"), looks := false }, kinds := [], alts := [], laidByText := true, laidKinds := [.data, .data], laidTests := true, laidLooks := .later }
def ShaLengthsUptoCardSaid : Prop := Claim7.holds Tryd.pinned (.plain (OpenSpec.upto shaLengthsSpec)) shaLengthsUptoCard

/-- THE SECOND FORM's CARD OF 'dromondlaw05.ShaSizes'. -/
def shaSizesUptoCard : Claim7 := { stood := { row := shaSizesUptoRow, standIns := [], harness := (true, "2e3556fb2737b9446447295cc99a6f79054103e76f59878535ebabf517a44985"), looks := false }, kinds := [], alts := [], laidByText := true, laidKinds := [.data, .data], laidTests := true, laidLooks := .later }
def ShaSizesUptoCardSaid : Prop := Claim7.holds Tryd.pinned (.plain (OpenSpec.upto shaSizesSpec)) shaSizesUptoCard
end Rows
end Go.Proofs.YtpgadpnaekhiaaaDoor
