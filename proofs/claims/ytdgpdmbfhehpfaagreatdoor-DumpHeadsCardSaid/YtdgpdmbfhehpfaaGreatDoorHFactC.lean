/-
  A closed fact on the whole program.
-/
import Derived.Test.YtdgpdmbfhehpfaaGreatDoorRows
import Derived.ProofKit
import Derived.SevenTiedAt
namespace Go.Proofs.YtdgpdmbfhehpfaaGreatDoor
open Go.RowKit
set_option linter.all false
set_option maxRecDepth 100000
theorem factUnf : (Rows.dumpHeadsRow.unfollowed == Tryz.pinned.checked.prog.unfollowed 3) = true := by kernel_rfl
end Go.Proofs.YtdgpdmbfhehpfaaGreatDoor
