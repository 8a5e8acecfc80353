/-
  DERIVED. GIVEN WITH THE SEED: THE CARDS: each row of YtnmgdlmicgbapaaGreatDoorRows.lean that lists a variable, with what it lists TIED to the program's text (the seventh form; the later family's looks); each row that meets fmt, with fmt's text TOLD by the authors' own Lean function (tested against real Go, not proved from fmt's source: count such statements apart). THE CARD IS WHAT COUNTS. Prove the row's statement (the work); the ties are given (YtnmgdlmicgbapaaGreatDoorTie.lean); close each card by the builder's one call (the guide's Derived/Test/ToyasCard.lean, 'card_holds'). Laid BY PROGRAM, IN A SANDBOX (cutbox-door.mjs). By AI agents, Wed Nov 11 2026. No macro, syntax, notation, axiom, sorry.
-/
import Derived.Test.YtnmgdlmicgbapaaGreatDoorRows
import GoSem.ClaimSeven
namespace Go.Proofs.YtnmgdlmicgbapaaGreatDoor
namespace Rows

/-- THE TIED CARD OF 'bolelaw24.PackDecodes'. -/
def packDecodesCard : Claim7 := { stood := { row := packDecodesRow, standIns := [], harness := (true, "b4219e12007a33733213c28c2c4878f0ca9bb575f3dcbe085b269965e985ff4d"), looks := true }, kinds := [], alts := [], laidByText := true, laidKinds := [.data, .data, .data, .pinned], laidTests := true, laidLooks := .later }
def PackDecodesCardSaid : Prop := Claim7.holds Tryz.pinned (.plain (OpenSpec.ofChange packDecodesSpec)) packDecodesCard

/-- THE SECOND FORM's CARD OF 'bolelaw24.PackDecodes'. -/
def packDecodesUptoCard : Claim7 := { stood := { row := packDecodesUptoRow, standIns := [], harness := (true, "b4219e12007a33733213c28c2c4878f0ca9bb575f3dcbe085b269965e985ff4d"), looks := true }, kinds := [], alts := [], laidByText := true, laidKinds := [.data, .data, .data, .pinned], laidTests := true, laidLooks := .later }
def PackDecodesUptoCardSaid : Prop := Claim7.holds Tryz.pinned (.plain (OpenSpec.upto packDecodesSpec)) packDecodesUptoCard
end Rows
end Go.Proofs.YtnmgdlmicgbapaaGreatDoor
