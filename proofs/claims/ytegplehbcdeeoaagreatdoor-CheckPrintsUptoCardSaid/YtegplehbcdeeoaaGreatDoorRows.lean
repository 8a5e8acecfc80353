/-
  NARROWER THAN 'FOR EVERY INPUT', by the rows' own cells (each row's printed sentence says how): CheckImages: laid · CheckBytes: laid · CheckPrints: laid.
  DERIVED. THE GIVEN ROWS OF THIS SEAT. 3 by the template 'for every input the law returns true; each argument reads behind the call as it read before'; 0 by the template 'total and deterministic' (their statements: YtegplehbcdeeoaaGreatDoorTotals.lean).
  GIVEN WITH THE SEED: the statements are not yours to turn. If you find one false, say at which input.
  Laid BY PROGRAM, IN A SANDBOX (cutbox-rows.mjs): the forced cells as the released guide's own fill.sh prints them over the translation 2bad92b6e564a1fb… (all of the seat's roots in one cut). By AI agents, Wed Nov 11 2026. No macro, syntax, notation, axiom, sorry.
-/
import Derived.Test.YtegplehbcdeeoaaGreatDoorChecked
import GoSem.Claim
import GoSem.ClaimJoined
import GoSem.ClaimMapViews
import Derived.JoinedTies
import Derived.KernelRfl
namespace Go.Proofs.YtegplehbcdeeoaaGreatDoor
/- THE CELL 'sum', in the pinned program and in every row, IS THE sha256 OF THE DUMP (.gsa) THAT YtegplehbcdeeoaaGreatDoorProg.lean LOADS. Nothing in Lean hashes anything: it is a label: what it is worth is what the hold of that sum in a sandbox is worth. -/
noncomputable def Tryz.pinned : Pinned := { name := "ytegplehbcdeeoaagreatdoor", sum := "2bad92b6e564a1fb2d80bb738dde9f5c4b021f6a220da409a89c7a48603a6f1b", checked := Tryz.checked }
namespace Rows
def none {H : Type} : Left H := { results := [], args := [] }

/- WHAT THE LISTED PACKAGE-LEVEL VARIABLES READ AS WHEN THE CALL BEGINS. Each datum BY PROGRAM (the guide's laid-datum.mjs) off the statement by which the dump's own 'gosem.cut.vars' lays the variable. In a bare row this is a premise. The card (YtegplehbcdeeoaaGreatDoorCards.lean) ties it to the program's text. -/
def laid_math_bits_deBruijn32tab {H : Type} : DataW H := .agg [.lit (.int .u8 0), .lit (.int .u8 1), .lit (.int .u8 28), .lit (.int .u8 2), .lit (.int .u8 29), .lit (.int .u8 14), .lit (.int .u8 24), .lit (.int .u8 3), .lit (.int .u8 30), .lit (.int .u8 22), .lit (.int .u8 20), .lit (.int .u8 15), .lit (.int .u8 25), .lit (.int .u8 17), .lit (.int .u8 4), .lit (.int .u8 8), .lit (.int .u8 31), .lit (.int .u8 27), .lit (.int .u8 13), .lit (.int .u8 23), .lit (.int .u8 21), .lit (.int .u8 19), .lit (.int .u8 16), .lit (.int .u8 7), .lit (.int .u8 26), .lit (.int .u8 12), .lit (.int .u8 18), .lit (.int .u8 6), .lit (.int .u8 11), .lit (.int .u8 5), .lit (.int .u8 10), .lit (.int .u8 9)]
def laid_math_bits_deBruijn64tab {H : Type} : DataW H := .agg [.lit (.int .u8 0), .lit (.int .u8 1), .lit (.int .u8 56), .lit (.int .u8 2), .lit (.int .u8 57), .lit (.int .u8 49), .lit (.int .u8 28), .lit (.int .u8 3), .lit (.int .u8 61), .lit (.int .u8 58), .lit (.int .u8 42), .lit (.int .u8 50), .lit (.int .u8 38), .lit (.int .u8 29), .lit (.int .u8 17), .lit (.int .u8 4), .lit (.int .u8 62), .lit (.int .u8 47), .lit (.int .u8 59), .lit (.int .u8 36), .lit (.int .u8 45), .lit (.int .u8 43), .lit (.int .u8 51), .lit (.int .u8 22), .lit (.int .u8 53), .lit (.int .u8 39), .lit (.int .u8 33), .lit (.int .u8 30), .lit (.int .u8 24), .lit (.int .u8 18), .lit (.int .u8 12), .lit (.int .u8 5), .lit (.int .u8 63), .lit (.int .u8 55), .lit (.int .u8 48), .lit (.int .u8 27), .lit (.int .u8 60), .lit (.int .u8 41), .lit (.int .u8 37), .lit (.int .u8 16), .lit (.int .u8 46), .lit (.int .u8 35), .lit (.int .u8 44), .lit (.int .u8 21), .lit (.int .u8 52), .lit (.int .u8 32), .lit (.int .u8 23), .lit (.int .u8 11), .lit (.int .u8 54), .lit (.int .u8 26), .lit (.int .u8 40), .lit (.int .u8 15), .lit (.int .u8 34), .lit (.int .u8 20), .lit (.int .u8 31), .lit (.int .u8 10), .lit (.int .u8 25), .lit (.int .u8 14), .lit (.int .u8 19), .lit (.int .u8 9), .lit (.int .u8 13), .lit (.int .u8 8), .lit (.int .u8 7), .lit (.int .u8 6)]
def laid_internal_strconv_uint64pow10 {H : Type} : DataW H := .agg [.lit (.int .u64 1), .lit (.int .u64 10), .lit (.int .u64 100), .lit (.int .u64 1000), .lit (.int .u64 10000), .lit (.int .u64 100000), .lit (.int .u64 1000000), .lit (.int .u64 10000000), .lit (.int .u64 100000000), .lit (.int .u64 1000000000), .lit (.int .u64 10000000000), .lit (.int .u64 100000000000), .lit (.int .u64 1000000000000), .lit (.int .u64 10000000000000), .lit (.int .u64 100000000000000), .lit (.int .u64 1000000000000000), .lit (.int .u64 10000000000000000), .lit (.int .u64 100000000000000000), .lit (.int .u64 1000000000000000000), .lit (.int .u64 10000000000000000000)]
def laid_bole_boleref19_words {H : Type} : DataW H := .agg [.lit (.string [63]), .lit (.string [115, 117, 112, 101, 114]), .lit (.string [104, 101, 97, 100]), .lit (.string [109, 101, 116, 97]), .lit (.string [114, 101, 99, 111, 114, 100]), .lit (.string [112, 111, 105, 110, 116, 101, 114]), .lit (.string [116, 119, 105, 99, 101]), .lit (.string [116, 97, 107, 101, 110]), .lit (.string [102, 114, 101, 101]), .lit (.string [116, 97, 105, 108]), .lit (.string [99, 101, 108, 108]), .lit (.string [110, 97, 109, 101]), .lit (.string [110, 111, 110, 101]), .lit (.string [112, 97, 114, 101, 110, 116]), .lit (.string [108, 111, 115, 116]), .lit (.string [108, 105, 110, 107, 115]), .lit (.string [100, 101, 101, 112]), .lit (.string [116, 101, 120, 116]), .lit (.string [111, 114, 112, 104, 97, 110])]
def laid_bole_boleref19_fields {H : Type} : DataW H := .agg [.lit (.int .i64 0), .lit (.int .i64 0), .lit (.int .i64 0), .lit (.int .i64 2), .lit (.int .i64 1), .lit (.int .i64 3), .lit (.int .i64 3), .lit (.int .i64 2), .lit (.int .i64 2), .lit (.int .i64 3), .lit (.int .i64 3), .lit (.int .i64 5), .lit (.int .i64 5), .lit (.int .i64 5), .lit (.int .i64 1), .lit (.int .i64 1), .lit (.int .i64 5), .lit (.int .i64 1), .lit (.int .i64 1)]
def laid_bole_rec_widths {H : Type} : DataW H := .agg [.lit (.bool false), .lit (.bool true), .lit (.bool true), .lit (.bool false), .lit (.bool true), .lit (.bool false), .lit (.bool false), .lit (.bool false), .lit (.bool true)]
def laid_bole_sum_half {H : Type} : DataW H := .agg [.lit (.int .u32 0), .lit (.int .u32 498536548), .lit (.int .u32 997073096), .lit (.int .u32 651767980), .lit (.int .u32 1994146192), .lit (.int .u32 1802195444), .lit (.int .u32 1303535960), .lit (.int .u32 1342533948), .lit (.int .u32 3988292384), .lit (.int .u32 4027552580), .lit (.int .u32 3604390888), .lit (.int .u32 3412177804), .lit (.int .u32 2607071920), .lit (.int .u32 2262029012), .lit (.int .u32 2685067896), .lit (.int .u32 3183342108)]
def laid_bole_check_kinds {H : Type} : DataW H := .agg [.agg [.lit (.string []), .lit (.bool false), .lit (.bool false), .lit (.bool false)], .agg [.lit (.string [115, 117, 112, 101, 114]), .lit (.bool false), .lit (.bool false), .lit (.bool false)], .agg [.lit (.string [104, 101, 97, 100]), .lit (.bool false), .lit (.bool false), .lit (.bool false)], .agg [.lit (.string [109, 101, 116, 97]), .lit (.bool false), .lit (.bool true), .lit (.bool false)], .agg [.lit (.string [114, 101, 99, 111, 114, 100]), .lit (.bool true), .lit (.bool false), .lit (.bool false)], .agg [.lit (.string [112, 111, 105, 110, 116, 101, 114]), .lit (.bool true), .lit (.bool true), .lit (.bool false)], .agg [.lit (.string [116, 119, 105, 99, 101]), .lit (.bool true), .lit (.bool true), .lit (.bool false)], .agg [.lit (.string [116, 97, 107, 101, 110]), .lit (.bool false), .lit (.bool true), .lit (.bool false)], .agg [.lit (.string [102, 114, 101, 101]), .lit (.bool false), .lit (.bool true), .lit (.bool false)], .agg [.lit (.string [116, 97, 105, 108]), .lit (.bool true), .lit (.bool true), .lit (.bool false)], .agg [.lit (.string [99, 101, 108, 108]), .lit (.bool true), .lit (.bool true), .lit (.bool false)], .agg [.lit (.string [110, 97, 109, 101]), .lit (.bool true), .lit (.bool false), .lit (.bool true)], .agg [.lit (.string [110, 111, 110, 101]), .lit (.bool true), .lit (.bool false), .lit (.bool true)], .agg [.lit (.string [112, 97, 114, 101, 110, 116]), .lit (.bool true), .lit (.bool false), .lit (.bool true)], .agg [.lit (.string [108, 111, 115, 116]), .lit (.bool true), .lit (.bool false), .lit (.bool false)], .agg [.lit (.string [108, 105, 110, 107, 115]), .lit (.bool true), .lit (.bool false), .lit (.bool false)], .agg [.lit (.string [100, 101, 101, 112]), .lit (.bool true), .lit (.bool false), .lit (.bool true)], .agg [.lit (.string [116, 101, 120, 116]), .lit (.bool true), .lit (.bool false), .lit (.bool false)], .agg [.lit (.string [111, 114, 112, 104, 97, 110]), .lit (.bool true), .lit (.bool false), .lit (.bool false)]]

/-- 'bolelaw19.CheckImages': WHATEVER THE INPUT: true; the input reads as it did. -/
def checkImagesSpec : ChangeSpec := { name := "checkImages", fn := fun _ => fun
  | [d1, d2] => { results := [.lit (.bool true)], args := [d1, d2] }
  | _ => none }
def checkImagesRow : OpenClaim := { program := "ytegplehbcdeeoaagreatdoor", sum := "2bad92b6e564a1fb2d80bb738dde9f5c4b021f6a220da409a89c7a48603a6f1b", func := "bole/bolelaw19.CheckImages", spec := "checkImages", inPlace := ["internal/bytealg.IndexByteString", "internal/bytealg.IndexString", "internal/abi.NoEscape"], unfollowed := true, recurses := true, named := ["bole/rec.widths", "bole/sum.half", "bole/check.kinds", "internal/strconv.uint64pow10", "math/bits.deBruijn32tab", "math/bits.deBruijn64tab", "bole/boleref19.words", "bole/boleref19.fields", "internal/bytealg.MaxLen"], plainKeys := false, apart := false, laid := [("math/bits.deBruijn32tab", laid_math_bits_deBruijn32tab), ("math/bits.deBruijn64tab", laid_math_bits_deBruijn64tab), ("internal/strconv.uint64pow10", laid_internal_strconv_uint64pow10), ("bole/boleref19.words", laid_bole_boleref19_words), ("bole/boleref19.fields", laid_bole_boleref19_fields), ("bole/rec.widths", laid_bole_rec_widths), ("bole/sum.half", laid_bole_sum_half), ("bole/check.kinds", laid_bole_check_kinds)] }
def CheckImagesSaid : Prop := checkImagesRow.holds Tryz.pinned (OpenSpec.ofChange checkImagesSpec)

/-- ITS FALSE NEIGHBOUR: 'it returns false'. Refute it at one input. -/
def checkImagesWrong : ChangeSpec := { name := "checkImages", fn := fun _ => fun
  | [d1, d2] => { results := [.lit (.bool false)], args := [d1, d2] }
  | _ => none }
def CheckImagesWrongFalsely : Prop := checkImagesRow.holds Tryz.pinned (OpenSpec.ofChange checkImagesWrong)

/-- 'bolelaw19.CheckBytes': WHATEVER THE INPUT: true; the input reads as it did. -/
def checkBytesSpec : ChangeSpec := { name := "checkBytes", fn := fun _ => fun
  | [d] => { results := [.lit (.bool true)], args := [d] }
  | _ => none }
def checkBytesRow : OpenClaim := { program := "ytegplehbcdeeoaagreatdoor", sum := "2bad92b6e564a1fb2d80bb738dde9f5c4b021f6a220da409a89c7a48603a6f1b", func := "bole/bolelaw19.CheckBytes", spec := "checkBytes", inPlace := ["internal/bytealg.IndexByteString", "internal/bytealg.IndexString", "internal/abi.NoEscape"], unfollowed := true, recurses := true, named := ["bole/rec.widths", "bole/sum.half", "bole/check.kinds", "internal/strconv.uint64pow10", "math/bits.deBruijn32tab", "math/bits.deBruijn64tab", "bole/boleref19.words", "bole/boleref19.fields", "internal/bytealg.MaxLen"], plainKeys := false, apart := false, laid := [("math/bits.deBruijn32tab", laid_math_bits_deBruijn32tab), ("math/bits.deBruijn64tab", laid_math_bits_deBruijn64tab), ("internal/strconv.uint64pow10", laid_internal_strconv_uint64pow10), ("bole/boleref19.words", laid_bole_boleref19_words), ("bole/boleref19.fields", laid_bole_boleref19_fields), ("bole/rec.widths", laid_bole_rec_widths), ("bole/sum.half", laid_bole_sum_half), ("bole/check.kinds", laid_bole_check_kinds)] }
def CheckBytesSaid : Prop := checkBytesRow.holds Tryz.pinned (OpenSpec.ofChange checkBytesSpec)

/-- ITS FALSE NEIGHBOUR: 'it returns false'. Refute it at one input. -/
def checkBytesWrong : ChangeSpec := { name := "checkBytes", fn := fun _ => fun
  | [d] => { results := [.lit (.bool false)], args := [d] }
  | _ => none }
def CheckBytesWrongFalsely : Prop := checkBytesRow.holds Tryz.pinned (OpenSpec.ofChange checkBytesWrong)

/-- 'bolelaw19.CheckPrints': WHATEVER THE INPUT: true; the input reads as it did. -/
def checkPrintsSpec : ChangeSpec := { name := "checkPrints", fn := fun _ => fun
  | [d] => { results := [.lit (.bool true)], args := [d] }
  | _ => none }
def checkPrintsRow : OpenClaim := { program := "ytegplehbcdeeoaagreatdoor", sum := "2bad92b6e564a1fb2d80bb738dde9f5c4b021f6a220da409a89c7a48603a6f1b", func := "bole/bolelaw19.CheckPrints", spec := "checkPrints", inPlace := ["internal/bytealg.IndexByteString", "internal/bytealg.IndexString", "internal/abi.NoEscape"], unfollowed := true, recurses := true, named := ["bole/rec.widths", "bole/sum.half", "bole/check.kinds", "internal/strconv.uint64pow10", "math/bits.deBruijn32tab", "math/bits.deBruijn64tab", "bole/boleref19.words", "bole/boleref19.fields", "internal/bytealg.MaxLen"], plainKeys := false, apart := false, laid := [("math/bits.deBruijn32tab", laid_math_bits_deBruijn32tab), ("math/bits.deBruijn64tab", laid_math_bits_deBruijn64tab), ("internal/strconv.uint64pow10", laid_internal_strconv_uint64pow10), ("bole/boleref19.words", laid_bole_boleref19_words), ("bole/boleref19.fields", laid_bole_boleref19_fields), ("bole/rec.widths", laid_bole_rec_widths), ("bole/sum.half", laid_bole_sum_half), ("bole/check.kinds", laid_bole_check_kinds)] }
def CheckPrintsSaid : Prop := checkPrintsRow.holds Tryz.pinned (OpenSpec.ofChange checkPrintsSpec)

/-- ITS FALSE NEIGHBOUR: 'it returns false'. Refute it at one input. -/
def checkPrintsWrong : ChangeSpec := { name := "checkPrints", fn := fun _ => fun
  | [d] => { results := [.lit (.bool false)], args := [d] }
  | _ => none }
def CheckPrintsWrongFalsely : Prop := checkPrintsRow.holds Tryz.pinned (OpenSpec.ofChange checkPrintsWrong)

/- THE SECOND FORM. 'bulk': how many values and letters a reading holds, each counted each time it is reached (what is shared counts as often as it is met; a slice's spare places count too). A statement '..UptoSaid' is the law's where the arguments, and the package variables that the reading takes, are together of bulk at most 1048576: NARROWER than '..Said'. Prove '..Said' where nothing that the law and all that it calls make is longer than what came in: it says more and counts as full. Else prove '..UptoSaid'. A law counts once. -/
mutual
def uptoBulk {H : Type} : DataW H → Nat
  | .lit (.string bytes) => bytes.length + 1
  | .lit _ => 1
  | .nil => 1
  | .ptr d => uptoBulk d + 1
  | .slice elems spare => uptoBulkAll elems + uptoBulkAll spare + 1
  | .agg parts => uptoBulkAll parts + 1
  | .iface _ d => uptoBulk d + 1
  | .map entries => uptoBulkEntries entries + 1
  | .held _ => 1
def uptoBulkAll {H : Type} : List (DataW H) → Nat
  | [] => 0
  | d :: r => uptoBulk d + uptoBulkAll r
def uptoBulkEntries {H : Type} : List (Lit × DataW H) → Nat
  | [] => 0
  | x :: r => uptoBulkEntry x + uptoBulkEntries r
def uptoBulkEntry {H : Type} : Lit × DataW H → Nat
  | (.string bytes, d) => bytes.length + uptoBulk d + 1
  | (_, d) => uptoBulk d + 1
 end
def uptoSmall : (H : Type) → List (DataW H) → Bool := fun _ ds => decide (uptoBulkAll ds ≤ 1048576)
def OpenSpec.upto (s : _root_.Go.ChangeSpec) : _root_.Go.OpenSpec := { _root_.Go.OpenSpec.ofChange s with cond := some uptoSmall }

/-- 'bolelaw19.CheckImages', WHERE WHAT IT READS IS OF BULK AT MOST 1048576: true; the input reads as it did. -/
def checkImagesUptoRow : OpenClaim := { program := "ytegplehbcdeeoaagreatdoor", sum := "2bad92b6e564a1fb2d80bb738dde9f5c4b021f6a220da409a89c7a48603a6f1b", func := "bole/bolelaw19.CheckImages", spec := "checkImages", inPlace := ["internal/bytealg.IndexByteString", "internal/bytealg.IndexString", "internal/abi.NoEscape"], unfollowed := true, recurses := true, named := ["bole/rec.widths", "bole/sum.half", "bole/check.kinds", "internal/strconv.uint64pow10", "math/bits.deBruijn32tab", "math/bits.deBruijn64tab", "bole/boleref19.words", "bole/boleref19.fields", "internal/bytealg.MaxLen"], plainKeys := false, apart := false, laid := [("math/bits.deBruijn32tab", laid_math_bits_deBruijn32tab), ("math/bits.deBruijn64tab", laid_math_bits_deBruijn64tab), ("internal/strconv.uint64pow10", laid_internal_strconv_uint64pow10), ("bole/boleref19.words", laid_bole_boleref19_words), ("bole/boleref19.fields", laid_bole_boleref19_fields), ("bole/rec.widths", laid_bole_rec_widths), ("bole/sum.half", laid_bole_sum_half), ("bole/check.kinds", laid_bole_check_kinds)], narrowed := true }
def CheckImagesUptoSaid : Prop := checkImagesUptoRow.holds Tryz.pinned (OpenSpec.upto checkImagesSpec)

/-- 'bolelaw19.CheckBytes', WHERE WHAT IT READS IS OF BULK AT MOST 1048576: true; the input reads as it did. -/
def checkBytesUptoRow : OpenClaim := { program := "ytegplehbcdeeoaagreatdoor", sum := "2bad92b6e564a1fb2d80bb738dde9f5c4b021f6a220da409a89c7a48603a6f1b", func := "bole/bolelaw19.CheckBytes", spec := "checkBytes", inPlace := ["internal/bytealg.IndexByteString", "internal/bytealg.IndexString", "internal/abi.NoEscape"], unfollowed := true, recurses := true, named := ["bole/rec.widths", "bole/sum.half", "bole/check.kinds", "internal/strconv.uint64pow10", "math/bits.deBruijn32tab", "math/bits.deBruijn64tab", "bole/boleref19.words", "bole/boleref19.fields", "internal/bytealg.MaxLen"], plainKeys := false, apart := false, laid := [("math/bits.deBruijn32tab", laid_math_bits_deBruijn32tab), ("math/bits.deBruijn64tab", laid_math_bits_deBruijn64tab), ("internal/strconv.uint64pow10", laid_internal_strconv_uint64pow10), ("bole/boleref19.words", laid_bole_boleref19_words), ("bole/boleref19.fields", laid_bole_boleref19_fields), ("bole/rec.widths", laid_bole_rec_widths), ("bole/sum.half", laid_bole_sum_half), ("bole/check.kinds", laid_bole_check_kinds)], narrowed := true }
def CheckBytesUptoSaid : Prop := checkBytesUptoRow.holds Tryz.pinned (OpenSpec.upto checkBytesSpec)

/-- 'bolelaw19.CheckPrints', WHERE WHAT IT READS IS OF BULK AT MOST 1048576: true; the input reads as it did. -/
def checkPrintsUptoRow : OpenClaim := { program := "ytegplehbcdeeoaagreatdoor", sum := "2bad92b6e564a1fb2d80bb738dde9f5c4b021f6a220da409a89c7a48603a6f1b", func := "bole/bolelaw19.CheckPrints", spec := "checkPrints", inPlace := ["internal/bytealg.IndexByteString", "internal/bytealg.IndexString", "internal/abi.NoEscape"], unfollowed := true, recurses := true, named := ["bole/rec.widths", "bole/sum.half", "bole/check.kinds", "internal/strconv.uint64pow10", "math/bits.deBruijn32tab", "math/bits.deBruijn64tab", "bole/boleref19.words", "bole/boleref19.fields", "internal/bytealg.MaxLen"], plainKeys := false, apart := false, laid := [("math/bits.deBruijn32tab", laid_math_bits_deBruijn32tab), ("math/bits.deBruijn64tab", laid_math_bits_deBruijn64tab), ("internal/strconv.uint64pow10", laid_internal_strconv_uint64pow10), ("bole/boleref19.words", laid_bole_boleref19_words), ("bole/boleref19.fields", laid_bole_boleref19_fields), ("bole/rec.widths", laid_bole_rec_widths), ("bole/sum.half", laid_bole_sum_half), ("bole/check.kinds", laid_bole_check_kinds)], narrowed := true }
def CheckPrintsUptoSaid : Prop := checkPrintsUptoRow.holds Tryz.pinned (OpenSpec.upto checkPrintsSpec)

end Rows
end Go.Proofs.YtegplehbcdeeoaaGreatDoor
