/- The plain table of rows: each kind's command and its places (0 PATH, 1 OTHER, 2 DATA, 3 OFFSET, 4 SIZE). No program in sight. -/
import Derived.Test.YtjloonijnbfhhaaDoorCallsLine
namespace Go.Proofs.YtjloonijnbfhhaaDoor
namespace Cl
/-- The rows of the kinds 1 to 15. -/
def rowsT : List (B × List Nat) :=
  [([99, 114, 101, 97, 116, 101], [0]), ([109, 107, 100, 105, 114], [0]), ([114, 101, 97, 100], [0, 3, 4]), ([119, 114, 105, 116, 101], [0, 3, 2]), ([116, 114, 117, 110, 99, 97, 116, 101], [0, 4]),
   ([117, 110, 108, 105, 110, 107], [0]), ([114, 109, 100, 105, 114], [0]), ([114, 101, 110, 97, 109, 101], [0, 1]), ([108, 105, 110, 107], [0, 1]), ([115, 121, 109, 108, 105, 110, 107], [1, 0]),
   ([114, 101, 97, 100, 108, 105, 110, 107], [0]), ([115, 116, 97, 116], [0]), ([108, 115, 116, 97, 116], [0]), ([114, 101, 97, 100, 100, 105, 114], [0]), ([114, 111, 111, 109], [])]
end Cl
end Go.Proofs.YtjloonijnbfhhaaDoor
