/- The walks of what one item may be, the document's: zeros, long, file. -/
import Derived.Test.YtnmgdlmicgbapaaDoorPWItem
import Derived.WalkSpells
import Derived.WalkLawsBesides
namespace Go.Proofs.YtnmgdlmicgbapaaDoor
open Go.RowKit

namespace Pw
open Pk
theorem mk_mid (l : List UInt8) (a n : Nat) : (mk l).extract a (a + n) = mk ((l.drop a).take n) := by
  have := Lib.extract_mk l a (a + n)
  rw [show a + n - a = n by omega] at this
  exact this
end Pw
end Go.Proofs.YtnmgdlmicgbapaaDoor
