/-
  The walk of encoding.CheckRow.
-/
import Derived.Test.YtefifkleamiabaaValidate
namespace Go.Proofs.Ytefifkleamiabaa
open Go.RowKit

end Go.Proofs.Ytefifkleamiabaa
