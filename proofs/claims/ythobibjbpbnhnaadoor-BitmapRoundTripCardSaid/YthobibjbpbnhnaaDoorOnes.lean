/-
  The walk of bitmap.Ones.
-/
import Derived.Test.YthobibjbpbnhnaaDoorFrom
namespace Go.Proofs.YthobibjbpbnhnaaDoor
open Go.RowKit

end Go.Proofs.YthobibjbpbnhnaaDoor
