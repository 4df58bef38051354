/-
  DERIVED. GIVEN WITH THE SEED: THE CARDS: each row of YtglnbcjffhfaaaaDoorRows.lean that lists a variable, with what it lists TIED to the program's text (the seventh form; the later family's looks); each row that meets fmt, with fmt's text TOLD by the authors' own Lean function (tested against real Go, not proved from fmt's source: count such statements apart). THE CARD IS WHAT COUNTS. Prove the row's statement (the work); the ties are given (YtglnbcjffhfaaaaDoorTie.lean); close each card by the builder's one call (the guide's Derived/Test/ToyasCard.lean, 'card_holds'). Laid BY PROGRAM, IN A SANDBOX (cutbox-door.mjs). By AI agents, Wed Nov 11 2026. No macro, syntax, notation, axiom, sorry.
-/
import Derived.Test.YtglnbcjffhfaaaaDoorRows
import GoSem.ClaimSeven
namespace Go.Proofs.YtglnbcjffhfaaaaDoor
namespace Rows

/-- THE TIED CARD OF 'edictlaw20.DumpSplits'. -/
def dumpSplitsCard : Claim7 := { stood := { row := dumpSplitsRow, standIns := [], harness := (true, "57073812d744e57224431721137bc4f862074759e71562fd26191c2307641abf"), looks := false }, kinds := [], alts := [], laidByText := true, laidKinds := [.data], laidTests := true, laidLooks := .later }
def DumpSplitsCardSaid : Prop := Claim7.holds Tryd.pinned (.plain (OpenSpec.ofChange dumpSplitsSpec)) dumpSplitsCard

/-- THE TIED CARD OF 'edictlaw20.DumpLinear'. -/
def dumpLinearCard : Claim7 := { stood := { row := dumpLinearRow, standIns := [], harness := (true, "57073812d744e57224431721137bc4f862074759e71562fd26191c2307641abf"), looks := false }, kinds := [], alts := [], laidByText := true, laidKinds := [.data], laidTests := true, laidLooks := .later }
def DumpLinearCardSaid : Prop := Claim7.holds Tryd.pinned (.plain (OpenSpec.ofChange dumpLinearSpec)) dumpLinearCard

/-- THE SECOND FORM's CARD OF 'edictlaw20.DumpSplits'. -/
def dumpSplitsUptoCard : Claim7 := { stood := { row := dumpSplitsUptoRow, standIns := [], harness := (true, "57073812d744e57224431721137bc4f862074759e71562fd26191c2307641abf"), looks := false }, kinds := [], alts := [], laidByText := true, laidKinds := [.data], laidTests := true, laidLooks := .later }
def DumpSplitsUptoCardSaid : Prop := Claim7.holds Tryd.pinned (.plain (OpenSpec.upto dumpSplitsSpec)) dumpSplitsUptoCard

/-- THE SECOND FORM's CARD OF 'edictlaw20.DumpLinear'. -/
def dumpLinearUptoCard : Claim7 := { stood := { row := dumpLinearUptoRow, standIns := [], harness := (true, "57073812d744e57224431721137bc4f862074759e71562fd26191c2307641abf"), looks := false }, kinds := [], alts := [], laidByText := true, laidKinds := [.data], laidTests := true, laidLooks := .later }
def DumpLinearUptoCardSaid : Prop := Claim7.holds Tryd.pinned (.plain (OpenSpec.upto dumpLinearSpec)) dumpLinearUptoCard
end Rows
end Go.Proofs.YtglnbcjffhfaaaaDoor
