/-
  What roomyConsts and untouchedConsts do.
-/
import Derived.Test.YtkejjiohkhlnnaaHolds
namespace Go.Proofs.Ytkejjiohkhlnnaa
open Go.RowKit
namespace Mt

end Mt
end Go.Proofs.Ytkejjiohkhlnnaa
