/-
  DERIVED. GIVEN WITH THE SEED: THE CARDS: each row of YtnmgdlmicgbapaaDoorRows.lean that lists a variable, with what it lists TIED to the program's text (the seventh form; the later family's looks); each row that meets fmt, with fmt's text TOLD by the authors' own Lean function (tested against real Go, not proved from fmt's source: count such statements apart). THE CARD IS WHAT COUNTS. Prove the row's statement (the work); the ties are given (YtnmgdlmicgbapaaDoorTie.lean); close each card by the builder's one call (the guide's Derived/Test/ToyasCard.lean, 'card_holds'). Laid BY PROGRAM, IN A SANDBOX (cutbox-door.mjs). By AI agents, Wed Nov 11 2026. No macro, syntax, notation, axiom, sorry.
-/
import Derived.Test.YtnmgdlmicgbapaaDoorRows
import GoSem.ClaimSeven
namespace Go.Proofs.YtnmgdlmicgbapaaDoor
namespace Rows

/-- THE TIED CARD OF 'bolelaw24.PackSpoilt'. -/
def packSpoiltCard : Claim7 := { stood := { row := packSpoiltRow, standIns := [], harness := (true, "b8d05f48beb2faf97c29954871d813ee949c9b039b13734f73571f9a552e4b90"), looks := true }, kinds := [], alts := [], laidByText := true, laidKinds := [.data, .data, .data, .pinned], laidTests := true, laidLooks := .later }
def PackSpoiltCardSaid : Prop := Claim7.holds Tryd.pinned (.plain (OpenSpec.ofChange packSpoiltSpec)) packSpoiltCard

/-- THE SECOND FORM's CARD OF 'bolelaw24.PackSpoilt'. -/
def packSpoiltUptoCard : Claim7 := { stood := { row := packSpoiltUptoRow, standIns := [], harness := (true, "b8d05f48beb2faf97c29954871d813ee949c9b039b13734f73571f9a552e4b90"), looks := true }, kinds := [], alts := [], laidByText := true, laidKinds := [.data, .data, .data, .pinned], laidTests := true, laidLooks := .later }
def PackSpoiltUptoCardSaid : Prop := Claim7.holds Tryd.pinned (.plain (OpenSpec.upto packSpoiltSpec)) packSpoiltUptoCard
end Rows
end Go.Proofs.YtnmgdlmicgbapaaDoor
