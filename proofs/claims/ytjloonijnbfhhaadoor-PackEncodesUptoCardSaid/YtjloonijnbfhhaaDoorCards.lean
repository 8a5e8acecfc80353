/-
  DERIVED. GIVEN WITH THE SEED: THE CARDS: each row of YtjloonijnbfhhaaDoorRows.lean that lists a variable, with what it lists TIED to the program's text (the seventh form; the later family's looks); each row that meets fmt, with fmt's text TOLD by the authors' own Lean function (tested against real Go, not proved from fmt's source: count such statements apart). THE CARD IS WHAT COUNTS. Prove the row's statement (the work); the ties are given (YtjloonijnbfhhaaDoorTie.lean); close each card by the builder's one call (the guide's Derived/Test/ToyasCard.lean, 'card_holds'). Laid BY PROGRAM, IN A SANDBOX (cutbox-door.mjs). By AI agents, Wed Nov 11 2026. No macro, syntax, notation, axiom, sorry.
-/
import Derived.Test.YtjloonijnbfhhaaDoorRows
import GoSem.ClaimSeven
namespace Go.Proofs.YtjloonijnbfhhaaDoor
namespace Rows

/-- THE TIED CARD OF 'bolelaw25.CallsExact'. -/
def callsExactCard : Claim7 := { stood := { row := callsExactRow, standIns := [], harness := (true, "fb6e4c6c0645df31e3a167c830cfd8505e45bf926b6d27e46c317fb335734824"), looks := true }, kinds := [], alts := [], laidByText := true, laidKinds := [.data, .data, .data, .sentinel, .sentinel], laidTests := true, laidLooks := .later }
def CallsExactCardSaid : Prop := Claim7.holds Tryd.pinned (.plain (OpenSpec.ofChange callsExactSpec)) callsExactCard

/-- THE TIED CARD OF 'bolelaw25.CallsQuote'. -/
def callsQuoteCard : Claim7 := { stood := { row := callsQuoteRow, standIns := [], harness := (true, "fb6e4c6c0645df31e3a167c830cfd8505e45bf926b6d27e46c317fb335734824"), looks := true }, kinds := [], alts := [], laidByText := true, laidKinds := [.data, .data, .data, .sentinel, .sentinel], laidTests := true, laidLooks := .later }
def CallsQuoteCardSaid : Prop := Claim7.holds Tryd.pinned (.plain (OpenSpec.ofChange callsQuoteSpec)) callsQuoteCard

/-- THE TIED CARD OF 'bolelaw25.CallsBack'. -/
def callsBackCard : Claim7 := { stood := { row := callsBackRow, standIns := [], harness := (true, "fb6e4c6c0645df31e3a167c830cfd8505e45bf926b6d27e46c317fb335734824"), looks := true }, kinds := [], alts := [], laidByText := true, laidKinds := [.data, .data, .data, .sentinel, .sentinel], laidTests := true, laidLooks := .later }
def CallsBackCardSaid : Prop := Claim7.holds Tryd.pinned (.plain (OpenSpec.ofChange callsBackSpec)) callsBackCard

/-- THE TIED CARD OF 'bolelaw25.CallsOnce'. -/
def callsOnceCard : Claim7 := { stood := { row := callsOnceRow, standIns := [], harness := (true, "fb6e4c6c0645df31e3a167c830cfd8505e45bf926b6d27e46c317fb335734824"), looks := true }, kinds := [], alts := [], laidByText := true, laidKinds := [.data, .data, .data, .sentinel, .sentinel], laidTests := true, laidLooks := .later }
def CallsOnceCardSaid : Prop := Claim7.holds Tryd.pinned (.plain (OpenSpec.ofChange callsOnceSpec)) callsOnceCard

/-- THE TIED CARD OF 'bolelaw24.PackEncodes'. -/
def packEncodesCard : Claim7 := { stood := { row := packEncodesRow, standIns := [], harness := (true, "fb6e4c6c0645df31e3a167c830cfd8505e45bf926b6d27e46c317fb335734824"), looks := true }, kinds := [], alts := [], laidByText := true, laidKinds := [.data, .data, .data, .pinned], laidTests := true, laidLooks := .later }
def PackEncodesCardSaid : Prop := Claim7.holds Tryd.pinned (.plain (OpenSpec.ofChange packEncodesSpec)) packEncodesCard

/-- THE SECOND FORM's CARD OF 'bolelaw25.CallsExact'. -/
def callsExactUptoCard : Claim7 := { stood := { row := callsExactUptoRow, standIns := [], harness := (true, "fb6e4c6c0645df31e3a167c830cfd8505e45bf926b6d27e46c317fb335734824"), looks := true }, kinds := [], alts := [], laidByText := true, laidKinds := [.data, .data, .data, .sentinel, .sentinel], laidTests := true, laidLooks := .later }
def CallsExactUptoCardSaid : Prop := Claim7.holds Tryd.pinned (.plain (OpenSpec.upto callsExactSpec)) callsExactUptoCard

/-- THE SECOND FORM's CARD OF 'bolelaw25.CallsQuote'. -/
def callsQuoteUptoCard : Claim7 := { stood := { row := callsQuoteUptoRow, standIns := [], harness := (true, "fb6e4c6c0645df31e3a167c830cfd8505e45bf926b6d27e46c317fb335734824"), looks := true }, kinds := [], alts := [], laidByText := true, laidKinds := [.data, .data, .data, .sentinel, .sentinel], laidTests := true, laidLooks := .later }
def CallsQuoteUptoCardSaid : Prop := Claim7.holds Tryd.pinned (.plain (OpenSpec.upto callsQuoteSpec)) callsQuoteUptoCard

/-- THE SECOND FORM's CARD OF 'bolelaw25.CallsBack'. -/
def callsBackUptoCard : Claim7 := { stood := { row := callsBackUptoRow, standIns := [], harness := (true, "fb6e4c6c0645df31e3a167c830cfd8505e45bf926b6d27e46c317fb335734824"), looks := true }, kinds := [], alts := [], laidByText := true, laidKinds := [.data, .data, .data, .sentinel, .sentinel], laidTests := true, laidLooks := .later }
def CallsBackUptoCardSaid : Prop := Claim7.holds Tryd.pinned (.plain (OpenSpec.upto callsBackSpec)) callsBackUptoCard

/-- THE SECOND FORM's CARD OF 'bolelaw25.CallsOnce'. -/
def callsOnceUptoCard : Claim7 := { stood := { row := callsOnceUptoRow, standIns := [], harness := (true, "fb6e4c6c0645df31e3a167c830cfd8505e45bf926b6d27e46c317fb335734824"), looks := true }, kinds := [], alts := [], laidByText := true, laidKinds := [.data, .data, .data, .sentinel, .sentinel], laidTests := true, laidLooks := .later }
def CallsOnceUptoCardSaid : Prop := Claim7.holds Tryd.pinned (.plain (OpenSpec.upto callsOnceSpec)) callsOnceUptoCard

/-- THE SECOND FORM's CARD OF 'bolelaw24.PackEncodes'. -/
def packEncodesUptoCard : Claim7 := { stood := { row := packEncodesUptoRow, standIns := [], harness := (true, "fb6e4c6c0645df31e3a167c830cfd8505e45bf926b6d27e46c317fb335734824"), looks := true }, kinds := [], alts := [], laidByText := true, laidKinds := [.data, .data, .data, .pinned], laidTests := true, laidLooks := .later }
def PackEncodesUptoCardSaid : Prop := Claim7.holds Tryd.pinned (.plain (OpenSpec.upto packEncodesSpec)) packEncodesUptoCard
end Rows
end Go.Proofs.YtjloonijnbfhhaaDoor
