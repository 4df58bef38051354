/-
  The run of 'taken', reckoned.
-/
import Derived.Test.YtdgpdmbfhehpfaaGreatDoorTakB
import Derived.KernelRfl
namespace Go.Proofs.YtdgpdmbfhehpfaaGreatDoor
open Ev

set_option maxRecDepth 1000000 in
theorem run_taken : isTrue ((level Tryz.prog prm 100000).call 6 [] h0) = true := by kernel_rfl

end Go.Proofs.YtdgpdmbfhehpfaaGreatDoor
