/-
  Closed facts on the whole program, each by itself.
-/
import Derived.Test.YtdgpdmbfhehpfaaGreatDoorHLaid
import Derived.Test.YtdgpdmbfhehpfaaGreatDoorTie
import Derived.Test.YtdgpdmbfhehpfaaGreatDoorCards
import Derived.ProofKit
import Derived.OpenShut
import Derived.ShutString
import Derived.ChangeOld
import Derived.SizedLaws
import Derived.LaidMore
import Derived.SevenTiedAt
namespace Go.Proofs.YtdgpdmbfhehpfaaGreatDoor
open Go.ChangeShapes Go.WideShapes Go.ChangeAt Go.RowKit
set_option linter.all false
set_option maxRecDepth 100000

theorem factOwn : ownKnob Tryz.prog.godebug = none := by kernel_rfl
theorem factInit : Tryz.checked.prog.inits.idxOf? 3 = none := by kernel_rfl
theorem factName : Tryz.prog.funcNamed "edict/edictlaw20.DumpHeads" = some 3 := by kernel_rfl
theorem factLooks : true = Tryz.prog.looks [] := by kernel_rfl
theorem factStand : ([9].all fun u => !Tryz.prog.wantsStandIn u) = true := by kernel_rfl
theorem factMain : Tryz.pinned.checked.prog.mainIs = some (true, "5ded5503961dbc8819df286d3f9d1ef494a4dd03984ef1cf3d5c12c32c21d9df".toList) := by kernel_rfl
theorem factGoes : false = Rows.dumpHeadsRow.goesBy Tryz.pinned.checked.prog := by kernel_rfl
theorem factWf : Rows.dumpHeadsRow.wfByText (OpenSpec.ofChange Rows.dumpHeadsSpec) = true := by kernel_rfl
theorem factInst : Tryz.f3.isInstance Tryz.pinned.checked.prog Rows.dumpHeadsRow.origin Rows.dumpHeadsRow.targs := of_decide_eq_true (by kernel_rfl)
theorem factWrap : Tryz.f3.isWrapper Tryz.pinned.checked.prog Rows.dumpHeadsRow.wrapper Rows.dumpHeadsRow.mainSum := by unfold Func.isWrapper; first | (rw [if_pos (by decide +kernel)]; kernel_rfl) | (rw [if_neg (by decide +kernel)]; exact ⟨rfl, rfl⟩)
end Go.Proofs.YtdgpdmbfhehpfaaGreatDoor
