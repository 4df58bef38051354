/-
  No cell of these rows narrows 'for every input' (looked for: loops, veiled, ifaces, maps, wideKeys, modest, calm, conditions, laid).
  DERIVED. THE GIVEN ROWS OF THIS SEAT. 4 by the template 'for every input the law returns true; each argument reads behind the call as it read before'; 0 by the template 'total and deterministic' (their statements: YtglnbcjffhfaaaaTotals.lean).
  GIVEN WITH THE SEED: the statements are not yours to turn. If you find one false, say at which input.
  Laid BY PROGRAM, IN A SANDBOX (cutbox-rows.mjs): the forced cells as the released guide's own fill.sh prints them over the translation 4c8299118bcbc1d8… (all of the seat's roots in one cut). By AI agents, Wed Nov 11 2026. No macro, syntax, notation, axiom, sorry.
-/
import Derived.Test.YtglnbcjffhfaaaaChecked
import GoSem.Claim
import GoSem.ClaimJoined
import GoSem.ClaimMapViews
import Derived.JoinedTies
import Derived.KernelRfl
namespace Go.Proofs.Ytglnbcjffhfaaaa
/- THE CELL 'sum', in the pinned program and in every row, IS THE sha256 OF THE DUMP (.gsa) THAT YtglnbcjffhfaaaaProg.lean LOADS. Nothing in Lean hashes anything: it is a label: what it is worth is what the hold of that sum in a sandbox is worth. -/
noncomputable def Try.pinned : Pinned := { name := "ytglnbcjffhfaaaa", sum := "4c8299118bcbc1d86197ad7489daa195a8f195ca9c2697aba131fe8c02822ea6", checked := Try.checked }
namespace Rows
def none {H : Type} : Left H := { results := [], args := [] }

/-- 'edictlaw06.MatchGrounds': WHATEVER THE INPUT: true; the input reads as it did. -/
def matchGroundsSpec : ChangeSpec := { name := "matchGrounds", fn := fun _ => fun
  | [d1, d2] => { results := [.lit (.bool true)], args := [d1, d2] }
  | _ => none }
def matchGroundsRow : OpenClaim := { program := "ytglnbcjffhfaaaa", sum := "4c8299118bcbc1d86197ad7489daa195a8f195ca9c2697aba131fe8c02822ea6", func := "edict/edictlaw06.MatchGrounds", spec := "matchGrounds", apart := false }
def MatchGroundsSaid : Prop := matchGroundsRow.holds Try.pinned (OpenSpec.ofChange matchGroundsSpec)

/-- ITS FALSE NEIGHBOUR: 'it returns false'. Refute it at one input. -/
def matchGroundsWrong : ChangeSpec := { name := "matchGrounds", fn := fun _ => fun
  | [d1, d2] => { results := [.lit (.bool false)], args := [d1, d2] }
  | _ => none }
def MatchGroundsWrongFalsely : Prop := matchGroundsRow.holds Try.pinned (OpenSpec.ofChange matchGroundsWrong)

/-- 'edictlaw06.MatchExtends': WHATEVER THE INPUT: true; the input reads as it did. -/
def matchExtendsSpec : ChangeSpec := { name := "matchExtends", fn := fun _ => fun
  | [d1, d2, d3] => { results := [.lit (.bool true)], args := [d1, d2, d3] }
  | _ => none }
def matchExtendsRow : OpenClaim := { program := "ytglnbcjffhfaaaa", sum := "4c8299118bcbc1d86197ad7489daa195a8f195ca9c2697aba131fe8c02822ea6", func := "edict/edictlaw06.MatchExtends", spec := "matchExtends", apart := false }
def MatchExtendsSaid : Prop := matchExtendsRow.holds Try.pinned (OpenSpec.ofChange matchExtendsSpec)

/-- ITS FALSE NEIGHBOUR: 'it returns false'. Refute it at one input. -/
def matchExtendsWrong : ChangeSpec := { name := "matchExtends", fn := fun _ => fun
  | [d1, d2, d3] => { results := [.lit (.bool false)], args := [d1, d2, d3] }
  | _ => none }
def MatchExtendsWrongFalsely : Prop := matchExtendsRow.holds Try.pinned (OpenSpec.ofChange matchExtendsWrong)

/-- 'edictlaw06.MatchCompares': WHATEVER THE INPUT: true; the input reads as it did. -/
def matchComparesSpec : ChangeSpec := { name := "matchCompares", fn := fun _ => fun
  | [d1, d2, d3] => { results := [.lit (.bool true)], args := [d1, d2, d3] }
  | _ => none }
def matchComparesRow : OpenClaim := { program := "ytglnbcjffhfaaaa", sum := "4c8299118bcbc1d86197ad7489daa195a8f195ca9c2697aba131fe8c02822ea6", func := "edict/edictlaw06.MatchCompares", spec := "matchCompares", unfollowed := true, recurses := true, apart := false }
def MatchComparesSaid : Prop := matchComparesRow.holds Try.pinned (OpenSpec.ofChange matchComparesSpec)

/-- ITS FALSE NEIGHBOUR: 'it returns false'. Refute it at one input. -/
def matchComparesWrong : ChangeSpec := { name := "matchCompares", fn := fun _ => fun
  | [d1, d2, d3] => { results := [.lit (.bool false)], args := [d1, d2, d3] }
  | _ => none }
def MatchComparesWrongFalsely : Prop := matchComparesRow.holds Try.pinned (OpenSpec.ofChange matchComparesWrong)

/-- 'edictlaw06.MatchHolds': WHATEVER THE INPUT: true; the input reads as it did. -/
def matchHoldsSpec : ChangeSpec := { name := "matchHolds", fn := fun _ => fun
  | [d1, d2, d3] => { results := [.lit (.bool true)], args := [d1, d2, d3] }
  | _ => none }
def matchHoldsRow : OpenClaim := { program := "ytglnbcjffhfaaaa", sum := "4c8299118bcbc1d86197ad7489daa195a8f195ca9c2697aba131fe8c02822ea6", func := "edict/edictlaw06.MatchHolds", spec := "matchHolds", unfollowed := true, recurses := true, apart := false }
def MatchHoldsSaid : Prop := matchHoldsRow.holds Try.pinned (OpenSpec.ofChange matchHoldsSpec)

/-- ITS FALSE NEIGHBOUR: 'it returns false'. Refute it at one input. -/
def matchHoldsWrong : ChangeSpec := { name := "matchHolds", fn := fun _ => fun
  | [d1, d2, d3] => { results := [.lit (.bool false)], args := [d1, d2, d3] }
  | _ => none }
def MatchHoldsWrongFalsely : Prop := matchHoldsRow.holds Try.pinned (OpenSpec.ofChange matchHoldsWrong)

/- THE SECOND FORM. 'bulk': how many values and letters a reading holds, each counted each time it is reached (what is shared counts as often as it is met; a slice's spare places count too). A statement '..UptoSaid' is the law's where the arguments, and the package variables that the reading takes, are together of bulk at most 1048576: NARROWER than '..Said'. Prove '..Said' where nothing that the law and all that it calls make is longer than what came in: it says more and counts as full. Else prove '..UptoSaid'. A law counts once. -/
mutual
def uptoBulk {H : Type} : DataW H → Nat
  | .lit (.string bytes) => bytes.length + 1
  | .lit _ => 1
  | .nil => 1
  | .ptr d => uptoBulk d + 1
  | .slice elems spare => uptoBulkAll elems + uptoBulkAll spare + 1
  | .agg parts => uptoBulkAll parts + 1
  | .iface _ d => uptoBulk d + 1
  | .map entries => uptoBulkEntries entries + 1
  | .held _ => 1
def uptoBulkAll {H : Type} : List (DataW H) → Nat
  | [] => 0
  | d :: r => uptoBulk d + uptoBulkAll r
def uptoBulkEntries {H : Type} : List (Lit × DataW H) → Nat
  | [] => 0
  | x :: r => uptoBulkEntry x + uptoBulkEntries r
def uptoBulkEntry {H : Type} : Lit × DataW H → Nat
  | (.string bytes, d) => bytes.length + uptoBulk d + 1
  | (_, d) => uptoBulk d + 1
 end
def uptoSmall : (H : Type) → List (DataW H) → Bool := fun _ ds => decide (uptoBulkAll ds ≤ 1048576)
def OpenSpec.upto (s : _root_.Go.ChangeSpec) : _root_.Go.OpenSpec := { _root_.Go.OpenSpec.ofChange s with cond := some uptoSmall }

/-- 'edictlaw06.MatchGrounds', WHERE WHAT IT READS IS OF BULK AT MOST 1048576: true; the input reads as it did. -/
def matchGroundsUptoRow : OpenClaim := { program := "ytglnbcjffhfaaaa", sum := "4c8299118bcbc1d86197ad7489daa195a8f195ca9c2697aba131fe8c02822ea6", func := "edict/edictlaw06.MatchGrounds", spec := "matchGrounds", apart := false, narrowed := true }
def MatchGroundsUptoSaid : Prop := matchGroundsUptoRow.holds Try.pinned (OpenSpec.upto matchGroundsSpec)

/-- 'edictlaw06.MatchExtends', WHERE WHAT IT READS IS OF BULK AT MOST 1048576: true; the input reads as it did. -/
def matchExtendsUptoRow : OpenClaim := { program := "ytglnbcjffhfaaaa", sum := "4c8299118bcbc1d86197ad7489daa195a8f195ca9c2697aba131fe8c02822ea6", func := "edict/edictlaw06.MatchExtends", spec := "matchExtends", apart := false, narrowed := true }
def MatchExtendsUptoSaid : Prop := matchExtendsUptoRow.holds Try.pinned (OpenSpec.upto matchExtendsSpec)

/-- 'edictlaw06.MatchCompares', WHERE WHAT IT READS IS OF BULK AT MOST 1048576: true; the input reads as it did. -/
def matchComparesUptoRow : OpenClaim := { program := "ytglnbcjffhfaaaa", sum := "4c8299118bcbc1d86197ad7489daa195a8f195ca9c2697aba131fe8c02822ea6", func := "edict/edictlaw06.MatchCompares", spec := "matchCompares", unfollowed := true, recurses := true, apart := false, narrowed := true }
def MatchComparesUptoSaid : Prop := matchComparesUptoRow.holds Try.pinned (OpenSpec.upto matchComparesSpec)

/-- 'edictlaw06.MatchHolds', WHERE WHAT IT READS IS OF BULK AT MOST 1048576: true; the input reads as it did. -/
def matchHoldsUptoRow : OpenClaim := { program := "ytglnbcjffhfaaaa", sum := "4c8299118bcbc1d86197ad7489daa195a8f195ca9c2697aba131fe8c02822ea6", func := "edict/edictlaw06.MatchHolds", spec := "matchHolds", unfollowed := true, recurses := true, apart := false, narrowed := true }
def MatchHoldsUptoSaid : Prop := matchHoldsUptoRow.holds Try.pinned (OpenSpec.upto matchHoldsSpec)

end Rows
end Go.Proofs.Ytglnbcjffhfaaaa
