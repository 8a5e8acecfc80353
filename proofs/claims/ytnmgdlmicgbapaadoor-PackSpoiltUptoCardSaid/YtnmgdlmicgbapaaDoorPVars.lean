/- What the row's list of package-level variables, and the world's shape, give the walks. -/
import Derived.Test.YtnmgdlmicgbapaaDoorPWRow
import Derived.Test.YtnmgdlmicgbapaaDoorRows
import Derived.Test.YtnmgdlmicgbapaaDoorOpen
import Derived.Lib.LaidTab
import Derived.Lay
import Derived.Stop.LaidErr
import Derived.MakeChecks
import Derived.Deep.DeepHandedRow
import Derived.Deep.DeepWitnessRowRef
import Derived.ProofKit
import Derived.OpenShut
import Derived.SizedLaws
import Derived.Shelf.Vars
namespace Go.Proofs.YtnmgdlmicgbapaaDoor
open Go.ChangeShapes Go.WideShapes Go.ChangeAt Go.RowKit

namespace Pv
theorem own : ownKnob Tryd.prog.godebug = none := by kernel_rfl
theorem laidOut : laidOutB Tryd.prog = true := by kernel_rfl
theorem gHalf : Tryd.prog.globalNamed "bole/sum.half" = some 0 := by kernel_rfl
theorem gWidths : Tryd.prog.globalNamed "bole/rec.widths" = some 1 := by kernel_rfl
theorem tHalf : (Tryd.prog.globals[0]?).map (·.type) = some 63 := by kernel_rfl
theorem tWidths : (Tryd.prog.globals[1]?).map (·.type) = some 83 := by kernel_rfl
theorem cU32 : Tryd.prog.cellsOf 36 = 1 := by kernel_rfl
theorem cBool : Tryd.prog.cellsOf 4 = 1 := by kernel_rfl
theorem cHalf : Tryd.prog.cellsOf 63 = 16 := by kernel_rfl
theorem cWidths : Tryd.prog.cellsOf 83 = 9 := by kernel_rfl
/-- The list of the statement. -/
abbrev laid4 : List (String × DataW Unit) := [("unicode/utf8.acceptRanges", Rows.laid_unicode_utf8_acceptRanges), ("bole/rec.widths", Rows.laid_bole_rec_widths), ("bole/sum.half", Rows.laid_bole_sum_half), ("unicode/utf8.first", Rows.laid_unicode_utf8_first)]
/-- An array of bools that reads as a list holds the list. -/
theorem cells_of_bools {H : Type} {enc : TypeId × Value → H} {P : Program} {w : World} {base : Nat} {sp : Nat → Bool} {held : Bool} {fuel : Nat} {t e : TypeId} {n : Nat} {cs : List Value} {zs : List Bool} {p : List MemPlace}
    (ht : P.underlying t = some (.array n e)) (he : P.underlying e = some .bool) (hce : P.cellsOf e = 1) (hct : P.cellsOf t = n)
    (h : DataW.trod enc P w base sp held fuel t cs = some (.agg (zs.map fun z => DataW.lit (Lit.bool z)), p)) : ∀ (i : Nat) (z : Bool), zs[i]? = some z → cs[i]? = some (Value.bool z) := by
  cases fuel with
  | zero => simp [DataW.trod] at h
  | succ fuel =>
    simp only [DataW.trod, ht, hce, hct, Nat.mul_one] at h
    split at h
    · obtain ⟨xs, hm, hx⟩ := Option.map_eq_some_iff.1 h
      have hxs : xs.map (·.1) = zs.map fun z => (DataW.lit (.bool z) : DataW H) := by
        have := congrArg Prod.fst hx
        simpa using this
      have hxl : xs.length = n := by simpa using Lib.mapM_length hm
      have hzl : zs.length = n := by
        have := congrArg List.length hxs
        simp at this
        omega
      intro i z hz
      have hi : i < n := by have := (List.getElem?_eq_some_iff.1 hz).1; omega
      obtain ⟨b, hb, hf⟩ := Lib.mapM_at hm i i (by simp [hi])
      obtain ⟨z', hc, rfl⟩ := DataW.trod_bool he hf
      have h1 : cs[i]? = some (.bool z') := by
        have := congrArg (·[0]?) hc
        simpa [List.getElem?_take, List.getElem?_drop] using this
      have h2 : (xs.map (·.1))[i]? = some (DataW.lit (.bool z') : DataW H) := by simp [hb]
      rw [hxs, List.getElem?_map, hz] at h2
      simp at h2
      rw [h1, h2]
    · cases h
theorem halfs : Rows.laid_bole_sum_half (H := Unit) = Lib.tabData .u32 (Pk.half.map fun n : Nat => (n : Int)) := by kernel_rfl
theorem bools : Rows.laid_bole_rec_widths (H := Unit) = .agg ([false, true, true, false, true, false, false, false, true].map fun z => DataW.lit (Lit.bool z)) := rfl
theorem tabs_of {W : World} (h : laidMet Tryd.prog laid4 W) (hs : W.ShapedOpen Tryd.prog) : Pw.Tabs W := by
  have hw : ∀ (i : Nat) (z : Bool), ([false, true, true, false, true, false, false, false, true] : List Bool)[i]? = some z → W.cell? ⟨1, i, none⟩ = some (.bool z) := by
    intro i z hz
    obtain ⟨ps, ⟨g', t', cs, fuel, p, q, hg', ht', hvar, hd, _, _⟩, _⟩ := h.tail
    obtain rfl := Option.some.inj (gWidths.symm.trans hg')
    obtain rfl := Option.some.inj (tWidths.symm.trans ht')
    rw [bools] at hd
    have := cells_of_bools Tryd.underlying83 Tryd.underlying4 cBool cWidths hd i z hz
    have hv := World.var?_cell gWidths hvar i
    rw [hv]
    simpa using this
  have ht : Lib.TabIs Tryd.prog W "bole/sum.half" .u32 (Pk.half.map fun n : Nat => (n : Int)) := by
    have h2 := h.tail.tail
    rw [show Rows.laid_bole_sum_half = _ from halfs] at h2
    exact Lib.tabIs_of_head gHalf tHalf Tryd.underlying63 Tryd.underlying36 cU32 cHalf h2
  have hh : ∀ k, k < 16 → W.cell? ⟨0, k, none⟩ = some (.int .u32 (Pk.half.getD k 0 : Nat)) := by
    intro k hk
    have hl : Pk.half.length = 16 := rfl
    rw [ht.cell gHalf k (by rw [List.length_map, hl]; exact hk)]
    rw [List.getD_eq_getElem?_getD, List.getD_eq_getElem?_getD, List.getElem?_map, List.getElem?_eq_getElem (by omega)]
    rfl
  obtain ⟨m, hm⟩ := cell_of_shapedOpen_int (g := 2) (t := 3) (zero := #[.int .i64 0]) (k := .i64) hs (of_decide_eq_true (by kernel_rfl)) (by kernel_rfl) (by kernel_rfl) (by kernel_rfl) (by kernel_rfl) Tryd.underlying3
  refine ⟨⟨hh⟩, World.block_lt_of_cell? _ _ (hh 0 (by decide)), ?_, World.block_lt_of_cell? _ _ (hw 1 true rfl), ⟨m, hm⟩, World.block_lt_of_cell? _ _ hm⟩
  intro wd hwd
  rcases hwd with rfl | rfl | rfl
  · exact hw 1 true rfl
  · exact hw 2 true rfl
  · exact hw 4 true rfl
noncomputable def world (os : Os) : World := World.laidAll Tryd.prog os laid4
theorem world_met (os : Os) (args : Array Value) : laidMet Tryd.prog laid4 ((world os).forCall (fun _ _ => 0) ⟨#[], args, []⟩).memory := laidMet_laidAll _ (by kernel_rfl) (by kernel_rfl)
end Pv
end Go.Proofs.YtnmgdlmicgbapaaDoor
