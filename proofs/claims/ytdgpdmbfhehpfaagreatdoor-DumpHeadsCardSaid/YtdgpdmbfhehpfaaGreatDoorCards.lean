/-
  DERIVED. GIVEN WITH THE SEED: THE CARDS: each row of YtdgpdmbfhehpfaaGreatDoorRows.lean that lists a variable, with what it lists TIED to the program's text (the seventh form; the later family's looks); each row that meets fmt, with fmt's text TOLD by the authors' own Lean function (tested against real Go, not proved from fmt's source: count such statements apart). THE CARD IS WHAT COUNTS. Prove the row's statement (the work); the ties are given (YtdgpdmbfhehpfaaGreatDoorTie.lean); close each card by the builder's one call (the guide's Derived/Test/ToyasCard.lean, 'card_holds'). Laid BY PROGRAM, IN A SANDBOX (cutbox-door.mjs). By AI agents, Wed Nov 11 2026. No macro, syntax, notation, axiom, sorry.
-/
import Derived.Test.YtdgpdmbfhehpfaaGreatDoorRows
import GoSem.ClaimSeven
namespace Go.Proofs.YtdgpdmbfhehpfaaGreatDoor
namespace Rows

/-- THE TIED CARD OF 'edictlaw20.DumpHeads'. -/
def dumpHeadsCard : Claim7 := { stood := { row := dumpHeadsRow, standIns := [], harness := (true, "5ded5503961dbc8819df286d3f9d1ef494a4dd03984ef1cf3d5c12c32c21d9df"), looks := true }, kinds := [], alts := [], laidByText := true, laidKinds := [.data, .data, .data, .sentinel, .sentinel, .data, .data], laidTests := true, laidLooks := .later }
def DumpHeadsCardSaid : Prop := Claim7.holds Tryz.pinned (.plain (OpenSpec.ofChange dumpHeadsSpec)) dumpHeadsCard

/-- THE SECOND FORM's CARD OF 'edictlaw20.DumpHeads'. -/
def dumpHeadsUptoCard : Claim7 := { stood := { row := dumpHeadsUptoRow, standIns := [], harness := (true, "5ded5503961dbc8819df286d3f9d1ef494a4dd03984ef1cf3d5c12c32c21d9df"), looks := true }, kinds := [], alts := [], laidByText := true, laidKinds := [.data, .data, .data, .sentinel, .sentinel, .data, .data], laidTests := true, laidLooks := .later }
def DumpHeadsUptoCardSaid : Prop := Claim7.holds Tryz.pinned (.plain (OpenSpec.upto dumpHeadsSpec)) dumpHeadsUptoCard
end Rows
end Go.Proofs.YtdgpdmbfhehpfaaGreatDoor
