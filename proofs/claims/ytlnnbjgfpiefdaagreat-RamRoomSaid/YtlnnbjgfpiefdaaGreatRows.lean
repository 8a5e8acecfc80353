/-
  No cell of these rows narrows 'for every input' (looked for: loops, veiled, ifaces, maps, wideKeys, modest, calm, conditions, laid).
  DERIVED. THE GIVEN ROWS OF THIS SEAT. 4 by the template 'for every input the law returns true; each argument reads behind the call as it read before'; 0 by the template 'total and deterministic' (their statements: YtlnnbjgfpiefdaaGreatTotals.lean).
  GIVEN WITH THE SEED: the statements are not yours to turn. If you find one false, say at which input.
  Laid BY PROGRAM, IN A SANDBOX (cutbox-rows.mjs): the forced cells as the released guide's own fill.sh prints them over the translation 563b81adaeac8c86… (all of the seat's roots in one cut). By AI agents, Wed Nov 11 2026. No macro, syntax, notation, axiom, sorry.
-/
import Derived.Test.YtlnnbjgfpiefdaaGreatChecked
import GoSem.Claim
import GoSem.ClaimJoined
import GoSem.ClaimMapViews
import Derived.JoinedTies
import Derived.KernelRfl
namespace Go.Proofs.YtlnnbjgfpiefdaaGreat
/- THE CELL 'sum', in the pinned program and in every row, IS THE sha256 OF THE DUMP (.gsa) THAT YtlnnbjgfpiefdaaGreatProg.lean LOADS. Nothing in Lean hashes anything: it is a label: what it is worth is what the hold of that sum in a sandbox is worth. -/
noncomputable def Tryz.pinned : Pinned := { name := "ytlnnbjgfpiefdaagreat", sum := "563b81adaeac8c86d5e359a4b23cf2e7ebe5748212197ccaddea745026b0ce48", checked := Tryz.checked }
namespace Rows
def none {H : Type} : Left H := { results := [], args := [] }

/-- 'bolelaw18.RamRoom': WHATEVER THE INPUT: true; the input reads as it did. -/
def ramRoomSpec : ChangeSpec := { name := "ramRoom", fn := fun _ => fun
  | [d1, d2] => { results := [.lit (.bool true)], args := [d1, d2] }
  | _ => none }
def ramRoomRow : OpenClaim := { program := "ytlnnbjgfpiefdaagreat", sum := "563b81adaeac8c86d5e359a4b23cf2e7ebe5748212197ccaddea745026b0ce48", func := "bole/bolelaw18.RamRoom", spec := "ramRoom", inPlace := ["internal/bytealg.IndexByteString", "internal/abi.NoEscape"], unfollowed := true, recurses := true, apart := false }
def RamRoomSaid : Prop := ramRoomRow.holds Tryz.pinned (OpenSpec.ofChange ramRoomSpec)

/-- ITS FALSE NEIGHBOUR: 'it returns false'. Refute it at one input. -/
def ramRoomWrong : ChangeSpec := { name := "ramRoom", fn := fun _ => fun
  | [d1, d2] => { results := [.lit (.bool false)], args := [d1, d2] }
  | _ => none }
def RamRoomWrongFalsely : Prop := ramRoomRow.holds Tryz.pinned (OpenSpec.ofChange ramRoomWrong)

/-- 'bolelaw18.RamRefused': WHATEVER THE INPUT: true; the input reads as it did. -/
def ramRefusedSpec : ChangeSpec := { name := "ramRefused", fn := fun _ => fun
  | [d1, d2, d3] => { results := [.lit (.bool true)], args := [d1, d2, d3] }
  | _ => none }
def ramRefusedRow : OpenClaim := { program := "ytlnnbjgfpiefdaagreat", sum := "563b81adaeac8c86d5e359a4b23cf2e7ebe5748212197ccaddea745026b0ce48", func := "bole/bolelaw18.RamRefused", spec := "ramRefused", inPlace := ["internal/bytealg.IndexByteString", "internal/abi.NoEscape"], unfollowed := true, recurses := true, apart := false }
def RamRefusedSaid : Prop := ramRefusedRow.holds Tryz.pinned (OpenSpec.ofChange ramRefusedSpec)

/-- ITS FALSE NEIGHBOUR: 'it returns false'. Refute it at one input. -/
def ramRefusedWrong : ChangeSpec := { name := "ramRefused", fn := fun _ => fun
  | [d1, d2, d3] => { results := [.lit (.bool false)], args := [d1, d2, d3] }
  | _ => none }
def RamRefusedWrongFalsely : Prop := ramRefusedRow.holds Tryz.pinned (OpenSpec.ofChange ramRefusedWrong)

/-- 'bolelaw18.RamMoves': WHATEVER THE INPUT: true; the input reads as it did. -/
def ramMovesSpec : ChangeSpec := { name := "ramMoves", fn := fun _ => fun
  | [d1, d2, d3, d4] => { results := [.lit (.bool true)], args := [d1, d2, d3, d4] }
  | _ => none }
def ramMovesRow : OpenClaim := { program := "ytlnnbjgfpiefdaagreat", sum := "563b81adaeac8c86d5e359a4b23cf2e7ebe5748212197ccaddea745026b0ce48", func := "bole/bolelaw18.RamMoves", spec := "ramMoves", inPlace := ["internal/bytealg.IndexByteString", "internal/abi.NoEscape"], unfollowed := true, recurses := true, apart := false }
def RamMovesSaid : Prop := ramMovesRow.holds Tryz.pinned (OpenSpec.ofChange ramMovesSpec)

/-- ITS FALSE NEIGHBOUR: 'it returns false'. Refute it at one input. -/
def ramMovesWrong : ChangeSpec := { name := "ramMoves", fn := fun _ => fun
  | [d1, d2, d3, d4] => { results := [.lit (.bool false)], args := [d1, d2, d3, d4] }
  | _ => none }
def RamMovesWrongFalsely : Prop := ramMovesRow.holds Tryz.pinned (OpenSpec.ofChange ramMovesWrong)

/-- 'bolelaw18.RamCopies': WHATEVER THE INPUT: true; the input reads as it did. -/
def ramCopiesSpec : ChangeSpec := { name := "ramCopies", fn := fun _ => fun
  | [d1, d2, d3] => { results := [.lit (.bool true)], args := [d1, d2, d3] }
  | _ => none }
def ramCopiesRow : OpenClaim := { program := "ytlnnbjgfpiefdaagreat", sum := "563b81adaeac8c86d5e359a4b23cf2e7ebe5748212197ccaddea745026b0ce48", func := "bole/bolelaw18.RamCopies", spec := "ramCopies", inPlace := ["internal/bytealg.IndexByteString", "internal/abi.NoEscape", "maps.clone"], unfollowed := true, recurses := true, apart := false }
def RamCopiesSaid : Prop := ramCopiesRow.holds Tryz.pinned (OpenSpec.ofChange ramCopiesSpec)

/-- ITS FALSE NEIGHBOUR: 'it returns false'. Refute it at one input. -/
def ramCopiesWrong : ChangeSpec := { name := "ramCopies", fn := fun _ => fun
  | [d1, d2, d3] => { results := [.lit (.bool false)], args := [d1, d2, d3] }
  | _ => none }
def RamCopiesWrongFalsely : Prop := ramCopiesRow.holds Tryz.pinned (OpenSpec.ofChange ramCopiesWrong)

/- THE SECOND FORM. 'bulk': how many values and letters a reading holds, each counted each time it is reached (what is shared counts as often as it is met; a slice's spare places count too). A statement '..UptoSaid' is the law's where the arguments, and the package variables that the reading takes, are together of bulk at most 1048576: NARROWER than '..Said'. Prove '..Said' where nothing that the law and all that it calls make is longer than what came in: it says more and counts as full. Else prove '..UptoSaid'. A law counts once. -/
mutual
def uptoBulk {H : Type} : DataW H → Nat
  | .lit (.string bytes) => bytes.length + 1
  | .lit _ => 1
  | .nil => 1
  | .ptr d => uptoBulk d + 1
  | .slice elems spare => uptoBulkAll elems + uptoBulkAll spare + 1
  | .agg parts => uptoBulkAll parts + 1
  | .iface _ d => uptoBulk d + 1
  | .map entries => uptoBulkEntries entries + 1
  | .held _ => 1
def uptoBulkAll {H : Type} : List (DataW H) → Nat
  | [] => 0
  | d :: r => uptoBulk d + uptoBulkAll r
def uptoBulkEntries {H : Type} : List (Lit × DataW H) → Nat
  | [] => 0
  | x :: r => uptoBulkEntry x + uptoBulkEntries r
def uptoBulkEntry {H : Type} : Lit × DataW H → Nat
  | (.string bytes, d) => bytes.length + uptoBulk d + 1
  | (_, d) => uptoBulk d + 1
 end
def uptoSmall : (H : Type) → List (DataW H) → Bool := fun _ ds => decide (uptoBulkAll ds ≤ 1048576)
def OpenSpec.upto (s : _root_.Go.ChangeSpec) : _root_.Go.OpenSpec := { _root_.Go.OpenSpec.ofChange s with cond := some uptoSmall }

/-- 'bolelaw18.RamRoom', WHERE WHAT IT READS IS OF BULK AT MOST 1048576: true; the input reads as it did. -/
def ramRoomUptoRow : OpenClaim := { program := "ytlnnbjgfpiefdaagreat", sum := "563b81adaeac8c86d5e359a4b23cf2e7ebe5748212197ccaddea745026b0ce48", func := "bole/bolelaw18.RamRoom", spec := "ramRoom", inPlace := ["internal/bytealg.IndexByteString", "internal/abi.NoEscape"], unfollowed := true, recurses := true, apart := false, narrowed := true }
def RamRoomUptoSaid : Prop := ramRoomUptoRow.holds Tryz.pinned (OpenSpec.upto ramRoomSpec)

/-- 'bolelaw18.RamRefused', WHERE WHAT IT READS IS OF BULK AT MOST 1048576: true; the input reads as it did. -/
def ramRefusedUptoRow : OpenClaim := { program := "ytlnnbjgfpiefdaagreat", sum := "563b81adaeac8c86d5e359a4b23cf2e7ebe5748212197ccaddea745026b0ce48", func := "bole/bolelaw18.RamRefused", spec := "ramRefused", inPlace := ["internal/bytealg.IndexByteString", "internal/abi.NoEscape"], unfollowed := true, recurses := true, apart := false, narrowed := true }
def RamRefusedUptoSaid : Prop := ramRefusedUptoRow.holds Tryz.pinned (OpenSpec.upto ramRefusedSpec)

/-- 'bolelaw18.RamMoves', WHERE WHAT IT READS IS OF BULK AT MOST 1048576: true; the input reads as it did. -/
def ramMovesUptoRow : OpenClaim := { program := "ytlnnbjgfpiefdaagreat", sum := "563b81adaeac8c86d5e359a4b23cf2e7ebe5748212197ccaddea745026b0ce48", func := "bole/bolelaw18.RamMoves", spec := "ramMoves", inPlace := ["internal/bytealg.IndexByteString", "internal/abi.NoEscape"], unfollowed := true, recurses := true, apart := false, narrowed := true }
def RamMovesUptoSaid : Prop := ramMovesUptoRow.holds Tryz.pinned (OpenSpec.upto ramMovesSpec)

/-- 'bolelaw18.RamCopies', WHERE WHAT IT READS IS OF BULK AT MOST 1048576: true; the input reads as it did. -/
def ramCopiesUptoRow : OpenClaim := { program := "ytlnnbjgfpiefdaagreat", sum := "563b81adaeac8c86d5e359a4b23cf2e7ebe5748212197ccaddea745026b0ce48", func := "bole/bolelaw18.RamCopies", spec := "ramCopies", inPlace := ["internal/bytealg.IndexByteString", "internal/abi.NoEscape", "maps.clone"], unfollowed := true, recurses := true, apart := false, narrowed := true }
def RamCopiesUptoSaid : Prop := ramCopiesUptoRow.holds Tryz.pinned (OpenSpec.upto ramCopiesSpec)

end Rows
end Go.Proofs.YtlnnbjgfpiefdaaGreat
