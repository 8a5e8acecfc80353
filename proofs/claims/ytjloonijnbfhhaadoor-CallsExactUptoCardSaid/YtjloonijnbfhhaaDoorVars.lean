/- What the rows' list of package-level variables gives the walks: the table of powers of ten and the two errors of the library; and a world that holds them all. -/
import Derived.Test.YtjloonijnbfhhaaDoorRPlaces
import Derived.Test.YtjloonijnbfhhaaDoorRows
import Derived.Lib.LaidTab
import Derived.Stop.LaidErr
import Derived.Lay
import Derived.MakeChecks
import Derived.Deep.DeepHandedRow
import Derived.Deep.DeepWitnessRowRef
import Derived.ProofKit
import Derived.OpenShut
import Derived.SizedLaws
namespace Go.Proofs.YtjloonijnbfhhaaDoor
open Go.ChangeShapes Go.WideShapes Go.ChangeAt Go.RowKit

namespace Vs
theorem own : ownKnob Tryd.prog.godebug = none := by kernel_rfl
theorem laidOut : laidOutB Tryd.prog = true := by kernel_rfl
theorem gTabType : (Tryd.prog.globals[3]?).map (·.type) = some 169 := by kernel_rfl
theorem gBadType : (Tryd.prog.globals[4]?).map (·.type) = some 129 := by kernel_rfl
theorem gOutType : (Tryd.prog.globals[5]?).map (·.type) = some 129 := by kernel_rfl
theorem cellsU : Tryd.prog.cellsOf 105 = 1 := by kernel_rfl
theorem cellsT : Tryd.prog.cellsOf 169 = 20 := by kernel_rfl
theorem cellsE : Tryd.prog.cellsOf 198 = 1 := by kernel_rfl
theorem cellsS : Tryd.prog.cellsOf 9 = 1 := by kernel_rfl
theorem star : "*" ++ "errors.errorString" = "*errors.errorString" := by decide
theorem rowE (u : TypeId) (h : Tryd.prog.typeName? 3 u = some "*errors.errorString") : u = 196 :=
  typeName_ptr_named (nm := "errors.errorString") (by rw [star]; kernel_rfl) (by kernel_rfl) (by decide) u (by rw [star]; exact h)
/-- The list of the four statements of the layer. -/
abbrev laid5 : List (String × DataW Unit) := [("math/bits.deBruijn32tab", Rows.laid_math_bits_deBruijn32tab), ("math/bits.deBruijn64tab", Rows.laid_math_bits_deBruijn64tab), ("internal/strconv.uint64pow10", Rows.laid_internal_strconv_uint64pow10), ("strconv.ErrRange", Rows.laid_strconv_ErrRange), ("strconv.ErrSyntax", Rows.laid_strconv_ErrSyntax)]
theorem vars_of {W : World} (h : laidMet Tryd.prog laid5 W) : Rw.Vars W where
  tab := Lib.tabIs_of_head (k := .u64) (zs := Lib.pow10Tab) Rw.gTab gTabType Tryd.underlying169 Tryd.underlying105 cellsU cellsT h.tail.tail
  bad := by
    obtain ⟨a, s, h1, _⟩ := laid_sentinel h.tail.tail.tail.tail Rw.gBad gBadType Tryd.underlying129 rowE Tryd.underlying196 Tryd.underlying198 rfl rfl Tryd.underlying9 cellsE cellsS
    exact ⟨_, _, h1⟩
  out := by
    obtain ⟨a, s, h1, _⟩ := laid_sentinel h.tail.tail.tail Rw.gOut gOutType Tryd.underlying129 rowE Tryd.underlying196 Tryd.underlying198 rfl rfl Tryd.underlying9 cellsE cellsS
    exact ⟨_, _, h1⟩
noncomputable def world (os : Os) : World := World.laidAll Tryd.prog os laid5
theorem world_met (os : Os) (args : Array Value) : laidMet Tryd.prog laid5 ((world os).forCall (fun _ _ => 0) ⟨#[], args, []⟩).memory := laidMet_laidAll _ (by kernel_rfl) (by kernel_rfl)
end Vs
end Go.Proofs.YtjloonijnbfhhaaDoor
