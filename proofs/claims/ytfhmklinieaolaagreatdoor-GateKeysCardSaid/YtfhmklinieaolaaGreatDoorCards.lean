/-
  DERIVED. GIVEN WITH THE SEED: THE CARDS: each row of YtfhmklinieaolaaGreatDoorRows.lean that lists a variable, with what it lists TIED to the program's text (the seventh form; the later family's looks); each row that meets fmt, with fmt's text TOLD by the authors' own Lean function (tested against real Go, not proved from fmt's source: count such statements apart). THE CARD IS WHAT COUNTS. Prove the row's statement (the work); the ties are given (YtfhmklinieaolaaGreatDoorTie.lean); close each card by the builder's one call (the guide's Derived/Test/ToyasCard.lean, 'card_holds'). Laid BY PROGRAM, IN A SANDBOX (cutbox-door.mjs). By AI agents, Wed Nov 11 2026. No macro, syntax, notation, axiom, sorry.
-/
import Derived.Test.YtfhmklinieaolaaGreatDoorRows
import GoSem.ClaimSeven
namespace Go.Proofs.YtfhmklinieaolaaGreatDoor
namespace Rows

/-- THE TIED CARD OF 'apostillelaw27.VerifyNever'. -/
def verifyNeverCard : Claim7 := { stood := { row := verifyNeverRow, standIns := [], harness := (true, "e6107a9794f25d4f97f67e088336d4313cfdef1e0eecaa72cc2c8d334b664a9c"), looks := true }, kinds := [], alts := [], laidByText := true, laidKinds := [.data, .data, .data, .data, .pinned], laidTests := true, laidLooks := .later }
def VerifyNeverCardSaid : Prop := Claim7.holds Tryz.pinned (.plain (OpenSpec.ofChange verifyNeverSpec)) verifyNeverCard

/-- THE TIED CARD OF 'apostillelaw30.GateKeys'. -/
def gateKeysCard : Claim7 := { stood := { row := gateKeysRow, standIns := [], harness := (true, "e6107a9794f25d4f97f67e088336d4313cfdef1e0eecaa72cc2c8d334b664a9c"), looks := true }, kinds := [], alts := [], laidByText := true, laidKinds := [.data, .data, .data, .data, .pinned], laidTests := true, laidLooks := .later }
def GateKeysCardSaid : Prop := Claim7.holds Tryz.pinned (.plain (OpenSpec.ofChange gateKeysSpec)) gateKeysCard

/-- THE TIED CARD OF 'apostillelaw30.GateNil'. -/
def gateNilCard : Claim7 := { stood := { row := gateNilRow, standIns := [], harness := (true, "e6107a9794f25d4f97f67e088336d4313cfdef1e0eecaa72cc2c8d334b664a9c"), looks := true }, kinds := [], alts := [], laidByText := true, laidKinds := [.data, .data, .data, .data, .pinned], laidTests := true, laidLooks := .later }
def GateNilCardSaid : Prop := Claim7.holds Tryz.pinned (.plain (OpenSpec.ofChange gateNilSpec)) gateNilCard

/-- THE SECOND FORM's CARD OF 'apostillelaw27.VerifyNever'. -/
def verifyNeverUptoCard : Claim7 := { stood := { row := verifyNeverUptoRow, standIns := [], harness := (true, "e6107a9794f25d4f97f67e088336d4313cfdef1e0eecaa72cc2c8d334b664a9c"), looks := true }, kinds := [], alts := [], laidByText := true, laidKinds := [.data, .data, .data, .data, .pinned], laidTests := true, laidLooks := .later }
def VerifyNeverUptoCardSaid : Prop := Claim7.holds Tryz.pinned (.plain (OpenSpec.upto verifyNeverSpec)) verifyNeverUptoCard

/-- THE SECOND FORM's CARD OF 'apostillelaw30.GateKeys'. -/
def gateKeysUptoCard : Claim7 := { stood := { row := gateKeysUptoRow, standIns := [], harness := (true, "e6107a9794f25d4f97f67e088336d4313cfdef1e0eecaa72cc2c8d334b664a9c"), looks := true }, kinds := [], alts := [], laidByText := true, laidKinds := [.data, .data, .data, .data, .pinned], laidTests := true, laidLooks := .later }
def GateKeysUptoCardSaid : Prop := Claim7.holds Tryz.pinned (.plain (OpenSpec.upto gateKeysSpec)) gateKeysUptoCard

/-- THE SECOND FORM's CARD OF 'apostillelaw30.GateNil'. -/
def gateNilUptoCard : Claim7 := { stood := { row := gateNilUptoRow, standIns := [], harness := (true, "e6107a9794f25d4f97f67e088336d4313cfdef1e0eecaa72cc2c8d334b664a9c"), looks := true }, kinds := [], alts := [], laidByText := true, laidKinds := [.data, .data, .data, .data, .pinned], laidTests := true, laidLooks := .later }
def GateNilUptoCardSaid : Prop := Claim7.holds Tryz.pinned (.plain (OpenSpec.upto gateNilSpec)) gateNilUptoCard
end Rows
end Go.Proofs.YtfhmklinieaolaaGreatDoor
