/-
  What the function does that Try defers, where nothing panicked: the low goes, and, where f answered false, what came since.
-/
import Derived.Test.YtkejjiohkhlnnaaSLow
import Derived.Defers
import Derived.Recover
import Derived.Laws.Pointers
namespace Go.Proofs.Ytkejjiohkhlnnaa
open Go.RowKit

end Go.Proofs.Ytkejjiohkhlnnaa
