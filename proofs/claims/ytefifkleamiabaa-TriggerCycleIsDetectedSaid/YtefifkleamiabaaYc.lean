/-
  The walks of slices.BinarySearchFunc over keys and the entries of an index; search.
-/
import Derived.Test.YtefifkleamiabaaYb
namespace Go.Proofs.Ytefifkleamiabaa
open Go.RowKit Go.Sort

end Go.Proofs.Ytefifkleamiabaa
