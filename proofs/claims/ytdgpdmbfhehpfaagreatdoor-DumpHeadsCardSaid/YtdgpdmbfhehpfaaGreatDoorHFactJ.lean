/-
  The closed facts of the row, joined.
-/
import Derived.Test.YtdgpdmbfhehpfaaGreatDoorHFactA
import Derived.Test.YtdgpdmbfhehpfaaGreatDoorHFactB
import Derived.Test.YtdgpdmbfhehpfaaGreatDoorHFactC
import Derived.Test.YtdgpdmbfhehpfaaGreatDoorHFactD
import Derived.Test.YtdgpdmbfhehpfaaGreatDoorHFactE
import Derived.Test.YtdgpdmbfhehpfaaGreatDoorHFactG
import Derived.Test.YtdgpdmbfhehpfaaGreatDoorHFactH
import Derived.Test.YtdgpdmbfhehpfaaGreatDoorHFactI
namespace Go.Proofs.YtdgpdmbfhehpfaaGreatDoor
open Go.RowKit
set_option linter.all false
set_option maxRecDepth 100000
theorem both {a b : Bool} (h : a = true) (k : b = true) : (a && b) = true := by rw [h, k]; rfl
theorem factJoined : joinedFacts Tryz.pinned.checked.prog 3 Tryz.f3 Rows.dumpHeadsSpec Rows.dumpHeadsRow = true := by
  unfold joinedFacts
  exact (both (both (both (both (both (both (both (both (both (both (both (both (both (both (both (both (both (both (both (both (both (both (both (both (both (both (both (both (both (both (both (by kernel_rfl) factLaid) factMaps) (by kernel_rfl)) (by kernel_rfl)) (by kernel_rfl)) (by kernel_rfl)) (by kernel_rfl)) (by kernel_rfl)) factInPlace) factUnf) factRec) factNamed) (by kernel_rfl)) (by kernel_rfl)) (by kernel_rfl)) (by kernel_rfl)) (by kernel_rfl)) (by kernel_rfl)) (by kernel_rfl)) (by kernel_rfl)) (by kernel_rfl)) (by kernel_rfl)) (by kernel_rfl)) factHeard) factEnter) (by kernel_rfl)) (by kernel_rfl)) (by kernel_rfl)) (by kernel_rfl)) (by kernel_rfl)) (by kernel_rfl))
end Go.Proofs.YtdgpdmbfhehpfaaGreatDoor
