/-
  DERIVED. GIVEN WITH THE SEED: THE CARDS: each row of YtegplehbcdeeoaaGreatDoorRows.lean that lists a variable, with what it lists TIED to the program's text (the seventh form; the later family's looks); each row that meets fmt, with fmt's text TOLD by the authors' own Lean function (tested against real Go, not proved from fmt's source: count such statements apart). THE CARD IS WHAT COUNTS. Prove the row's statement (the work); the ties are given (YtegplehbcdeeoaaGreatDoorTie.lean); close each card by the builder's one call (the guide's Derived/Test/ToyasCard.lean, 'card_holds'). Laid BY PROGRAM, IN A SANDBOX (cutbox-door.mjs). By AI agents, Wed Nov 11 2026. No macro, syntax, notation, axiom, sorry.
-/
import Derived.Test.YtegplehbcdeeoaaGreatDoorRows
import GoSem.ClaimSeven
namespace Go.Proofs.YtegplehbcdeeoaaGreatDoor
namespace Rows

/-- THE TIED CARD OF 'bolelaw19.CheckImages'. -/
def checkImagesCard : Claim7 := { stood := { row := checkImagesRow, standIns := [], harness := (true, "d0af13826a99dd6e8d56acdc05e1ea6ec53dbe86041a88040739fda4be3fc353"), looks := true }, kinds := [], alts := [], laidByText := true, laidKinds := [.data, .data, .data, .data, .data, .data, .data, .data], laidTests := true, laidLooks := .later }
def CheckImagesCardSaid : Prop := Claim7.holds Tryz.pinned (.plain (OpenSpec.ofChange checkImagesSpec)) checkImagesCard

/-- THE TIED CARD OF 'bolelaw19.CheckBytes'. -/
def checkBytesCard : Claim7 := { stood := { row := checkBytesRow, standIns := [], harness := (true, "d0af13826a99dd6e8d56acdc05e1ea6ec53dbe86041a88040739fda4be3fc353"), looks := true }, kinds := [], alts := [], laidByText := true, laidKinds := [.data, .data, .data, .data, .data, .data, .data, .data], laidTests := true, laidLooks := .later }
def CheckBytesCardSaid : Prop := Claim7.holds Tryz.pinned (.plain (OpenSpec.ofChange checkBytesSpec)) checkBytesCard

/-- THE TIED CARD OF 'bolelaw19.CheckPrints'. -/
def checkPrintsCard : Claim7 := { stood := { row := checkPrintsRow, standIns := [], harness := (true, "d0af13826a99dd6e8d56acdc05e1ea6ec53dbe86041a88040739fda4be3fc353"), looks := true }, kinds := [], alts := [], laidByText := true, laidKinds := [.data, .data, .data, .data, .data, .data, .data, .data], laidTests := true, laidLooks := .later }
def CheckPrintsCardSaid : Prop := Claim7.holds Tryz.pinned (.plain (OpenSpec.ofChange checkPrintsSpec)) checkPrintsCard

/-- THE SECOND FORM's CARD OF 'bolelaw19.CheckImages'. -/
def checkImagesUptoCard : Claim7 := { stood := { row := checkImagesUptoRow, standIns := [], harness := (true, "d0af13826a99dd6e8d56acdc05e1ea6ec53dbe86041a88040739fda4be3fc353"), looks := true }, kinds := [], alts := [], laidByText := true, laidKinds := [.data, .data, .data, .data, .data, .data, .data, .data], laidTests := true, laidLooks := .later }
def CheckImagesUptoCardSaid : Prop := Claim7.holds Tryz.pinned (.plain (OpenSpec.upto checkImagesSpec)) checkImagesUptoCard

/-- THE SECOND FORM's CARD OF 'bolelaw19.CheckBytes'. -/
def checkBytesUptoCard : Claim7 := { stood := { row := checkBytesUptoRow, standIns := [], harness := (true, "d0af13826a99dd6e8d56acdc05e1ea6ec53dbe86041a88040739fda4be3fc353"), looks := true }, kinds := [], alts := [], laidByText := true, laidKinds := [.data, .data, .data, .data, .data, .data, .data, .data], laidTests := true, laidLooks := .later }
def CheckBytesUptoCardSaid : Prop := Claim7.holds Tryz.pinned (.plain (OpenSpec.upto checkBytesSpec)) checkBytesUptoCard

/-- THE SECOND FORM's CARD OF 'bolelaw19.CheckPrints'. -/
def checkPrintsUptoCard : Claim7 := { stood := { row := checkPrintsUptoRow, standIns := [], harness := (true, "d0af13826a99dd6e8d56acdc05e1ea6ec53dbe86041a88040739fda4be3fc353"), looks := true }, kinds := [], alts := [], laidByText := true, laidKinds := [.data, .data, .data, .data, .data, .data, .data, .data], laidTests := true, laidLooks := .later }
def CheckPrintsUptoCardSaid : Prop := Claim7.holds Tryz.pinned (.plain (OpenSpec.upto checkPrintsSpec)) checkPrintsUptoCard
end Rows
end Go.Proofs.YtegplehbcdeeoaaGreatDoor
