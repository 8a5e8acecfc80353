/- The walks of the document's text, name, names, ahead, above. -/
import Derived.Test.YtnmgdlmicgbapaaDoorPDoc
import Derived.Test.YtnmgdlmicgbapaaDoorPWText
import Derived.Test.YtnmgdlmicgbapaaDoorPWItem2
namespace Go.Proofs.YtnmgdlmicgbapaaDoor
open Go.RowKit

namespace Pw
open Pk
theorem u8_0 {c : UInt8} (h : c.toNat = 0) : c = 0 := UInt8.toNat.inj (by rw [h]; rfl)
theorem u8_0' {c : UInt8} (h : ¬ c.toNat = 0) : c ≠ 0 := fun e => h (by rw [e]; rfl)
theorem isC_no {p : List UInt8} (h : p = [] ∨ p = [46]) : cnt p = 0 := by
  unfold cnt isC
  rw [if_neg]
  rcases h with h | h <;> simp [h]
theorem isC_yes {p : List UInt8} (h : p ≠ []) (h2 : p ≠ [46]) : cnt p = 1 := by
  unfold cnt isC
  rw [if_pos (by simp [h, h2])]
end Pw
end Go.Proofs.YtnmgdlmicgbapaaDoor
