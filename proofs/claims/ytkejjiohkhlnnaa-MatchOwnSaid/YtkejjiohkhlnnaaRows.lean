/-
  No cell of these rows narrows 'for every input' (looked for: loops, veiled, ifaces, maps, wideKeys, modest, calm, conditions, laid).
  DERIVED. THE GIVEN ROWS OF THIS SEAT. 8 by the template 'for every input the law returns true; each argument reads behind the call as it read before'; 0 by the template 'total and deterministic' (their statements: YtkejjiohkhlnnaaTotals.lean).
  GIVEN WITH THE SEED: the statements are not yours to turn. If you find one false, say at which input.
  Laid BY PROGRAM, IN A SANDBOX (cutbox-rows.mjs): the forced cells as the released guide's own fill.sh prints them over the translation 99e23c7aa47f3a34… (all of the seat's roots in one cut). By AI agents, Wed Nov 11 2026. No macro, syntax, notation, axiom, sorry.
-/
import Derived.Test.YtkejjiohkhlnnaaChecked
import GoSem.Claim
import GoSem.ClaimJoined
import GoSem.ClaimMapViews
import Derived.JoinedTies
import Derived.KernelRfl
namespace Go.Proofs.Ytkejjiohkhlnnaa
/- THE CELL 'sum', in the pinned program and in every row, IS THE sha256 OF THE DUMP (.gsa) THAT YtkejjiohkhlnnaaProg.lean LOADS. Nothing in Lean hashes anything: it is a label: what it is worth is what the hold of that sum in a sandbox is worth. -/
noncomputable def Try.pinned : Pinned := { name := "ytkejjiohkhlnnaa", sum := "99e23c7aa47f3a3471a797f359c7f406704921de87451aaaf2a9cb2033ed3a1a", checked := Try.checked }
namespace Rows
def none {H : Type} : Left H := { results := [], args := [] }

/-- 'edictlaw06.MatchEvery': WHATEVER THE INPUT: true; the input reads as it did. -/
def matchEverySpec : ChangeSpec := { name := "matchEvery", fn := fun _ => fun
  | [d] => { results := [.lit (.bool true)], args := [d] }
  | _ => none }
def matchEveryRow : OpenClaim := { program := "ytkejjiohkhlnnaa", sum := "99e23c7aa47f3a3471a797f359c7f406704921de87451aaaf2a9cb2033ed3a1a", func := "edict/edictlaw06.MatchEvery", spec := "matchEvery", inPlace := ["internal/reflectlite.ValueOf", "internal/reflectlite.Swapper", "(internal/reflectlite.Value).Len"], unfollowed := true, recurses := true, plainKeys := false, apart := false }
def MatchEverySaid : Prop := matchEveryRow.holds Try.pinned (OpenSpec.ofChange matchEverySpec)

/-- ITS FALSE NEIGHBOUR: 'it returns false'. Refute it at one input. -/
def matchEveryWrong : ChangeSpec := { name := "matchEvery", fn := fun _ => fun
  | [d] => { results := [.lit (.bool false)], args := [d] }
  | _ => none }
def MatchEveryWrongFalsely : Prop := matchEveryRow.holds Try.pinned (OpenSpec.ofChange matchEveryWrong)

/-- 'edictlaw06.MatchGrows': WHATEVER THE INPUT: true; the input reads as it did. -/
def matchGrowsSpec : ChangeSpec := { name := "matchGrows", fn := fun _ => fun
  | [d] => { results := [.lit (.bool true)], args := [d] }
  | _ => none }
def matchGrowsRow : OpenClaim := { program := "ytkejjiohkhlnnaa", sum := "99e23c7aa47f3a3471a797f359c7f406704921de87451aaaf2a9cb2033ed3a1a", func := "edict/edictlaw06.MatchGrows", spec := "matchGrows", inPlace := ["internal/reflectlite.ValueOf", "internal/reflectlite.Swapper", "(internal/reflectlite.Value).Len"], unfollowed := true, recurses := true, plainKeys := false, apart := false }
def MatchGrowsSaid : Prop := matchGrowsRow.holds Try.pinned (OpenSpec.ofChange matchGrowsSpec)

/-- ITS FALSE NEIGHBOUR: 'it returns false'. Refute it at one input. -/
def matchGrowsWrong : ChangeSpec := { name := "matchGrows", fn := fun _ => fun
  | [d] => { results := [.lit (.bool false)], args := [d] }
  | _ => none }
def MatchGrowsWrongFalsely : Prop := matchGrowsRow.holds Try.pinned (OpenSpec.ofChange matchGrowsWrong)

/-- 'edictlaw06.MatchMore': WHATEVER THE INPUT: true; the input reads as it did. -/
def matchMoreSpec : ChangeSpec := { name := "matchMore", fn := fun _ => fun
  | [d1, d2] => { results := [.lit (.bool true)], args := [d1, d2] }
  | _ => none }
def matchMoreRow : OpenClaim := { program := "ytkejjiohkhlnnaa", sum := "99e23c7aa47f3a3471a797f359c7f406704921de87451aaaf2a9cb2033ed3a1a", func := "edict/edictlaw06.MatchMore", spec := "matchMore", inPlace := ["internal/reflectlite.ValueOf", "internal/reflectlite.Swapper", "(internal/reflectlite.Value).Len"], unfollowed := true, recurses := true, plainKeys := false, apart := false }
def MatchMoreSaid : Prop := matchMoreRow.holds Try.pinned (OpenSpec.ofChange matchMoreSpec)

/-- ITS FALSE NEIGHBOUR: 'it returns false'. Refute it at one input. -/
def matchMoreWrong : ChangeSpec := { name := "matchMore", fn := fun _ => fun
  | [d1, d2] => { results := [.lit (.bool false)], args := [d1, d2] }
  | _ => none }
def MatchMoreWrongFalsely : Prop := matchMoreRow.holds Try.pinned (OpenSpec.ofChange matchMoreWrong)

/-- 'edictlaw06.MatchTurns': WHATEVER THE INPUT: true; the input reads as it did. -/
def matchTurnsSpec : ChangeSpec := { name := "matchTurns", fn := fun _ => fun
  | [d1, d2] => { results := [.lit (.bool true)], args := [d1, d2] }
  | _ => none }
def matchTurnsRow : OpenClaim := { program := "ytkejjiohkhlnnaa", sum := "99e23c7aa47f3a3471a797f359c7f406704921de87451aaaf2a9cb2033ed3a1a", func := "edict/edictlaw06.MatchTurns", spec := "matchTurns", inPlace := ["internal/reflectlite.ValueOf", "internal/reflectlite.Swapper", "(internal/reflectlite.Value).Len"], unfollowed := true, recurses := true, plainKeys := false, apart := false }
def MatchTurnsSaid : Prop := matchTurnsRow.holds Try.pinned (OpenSpec.ofChange matchTurnsSpec)

/-- ITS FALSE NEIGHBOUR: 'it returns false'. Refute it at one input. -/
def matchTurnsWrong : ChangeSpec := { name := "matchTurns", fn := fun _ => fun
  | [d1, d2] => { results := [.lit (.bool false)], args := [d1, d2] }
  | _ => none }
def MatchTurnsWrongFalsely : Prop := matchTurnsRow.holds Try.pinned (OpenSpec.ofChange matchTurnsWrong)

/-- 'edictlaw06.MatchOrders': WHATEVER THE INPUT: true; the input reads as it did. -/
def matchOrdersSpec : ChangeSpec := { name := "matchOrders", fn := fun _ => fun
  | [d1, d2, d3] => { results := [.lit (.bool true)], args := [d1, d2, d3] }
  | _ => none }
def matchOrdersRow : OpenClaim := { program := "ytkejjiohkhlnnaa", sum := "99e23c7aa47f3a3471a797f359c7f406704921de87451aaaf2a9cb2033ed3a1a", func := "edict/edictlaw06.MatchOrders", spec := "matchOrders", inPlace := ["internal/reflectlite.ValueOf", "internal/reflectlite.Swapper", "(internal/reflectlite.Value).Len"], unfollowed := true, recurses := true, plainKeys := false, apart := false }
def MatchOrdersSaid : Prop := matchOrdersRow.holds Try.pinned (OpenSpec.ofChange matchOrdersSpec)

/-- ITS FALSE NEIGHBOUR: 'it returns false'. Refute it at one input. -/
def matchOrdersWrong : ChangeSpec := { name := "matchOrders", fn := fun _ => fun
  | [d1, d2, d3] => { results := [.lit (.bool false)], args := [d1, d2, d3] }
  | _ => none }
def MatchOrdersWrongFalsely : Prop := matchOrdersRow.holds Try.pinned (OpenSpec.ofChange matchOrdersWrong)

/-- 'edictlaw06.MatchLeast': WHATEVER THE INPUT: true; the input reads as it did. -/
def matchLeastSpec : ChangeSpec := { name := "matchLeast", fn := fun _ => fun
  | [d1, d2, d3] => { results := [.lit (.bool true)], args := [d1, d2, d3] }
  | _ => none }
def matchLeastRow : OpenClaim := { program := "ytkejjiohkhlnnaa", sum := "99e23c7aa47f3a3471a797f359c7f406704921de87451aaaf2a9cb2033ed3a1a", func := "edict/edictlaw06.MatchLeast", spec := "matchLeast", inPlace := ["internal/reflectlite.ValueOf", "internal/reflectlite.Swapper", "(internal/reflectlite.Value).Len"], unfollowed := true, recurses := true, plainKeys := false, apart := false }
def MatchLeastSaid : Prop := matchLeastRow.holds Try.pinned (OpenSpec.ofChange matchLeastSpec)

/-- ITS FALSE NEIGHBOUR: 'it returns false'. Refute it at one input. -/
def matchLeastWrong : ChangeSpec := { name := "matchLeast", fn := fun _ => fun
  | [d1, d2, d3] => { results := [.lit (.bool false)], args := [d1, d2, d3] }
  | _ => none }
def MatchLeastWrongFalsely : Prop := matchLeastRow.holds Try.pinned (OpenSpec.ofChange matchLeastWrong)

/-- 'edictlaw06.MatchConsts': WHATEVER THE INPUT: true; the input reads as it did. -/
def matchConstsSpec : ChangeSpec := { name := "matchConsts", fn := fun _ => fun
  | [d] => { results := [.lit (.bool true)], args := [d] }
  | _ => none }
def matchConstsRow : OpenClaim := { program := "ytkejjiohkhlnnaa", sum := "99e23c7aa47f3a3471a797f359c7f406704921de87451aaaf2a9cb2033ed3a1a", func := "edict/edictlaw06.MatchConsts", spec := "matchConsts", inPlace := ["internal/reflectlite.ValueOf", "internal/reflectlite.Swapper", "(internal/reflectlite.Value).Len"], unfollowed := true, recurses := true, plainKeys := false, apart := false }
def MatchConstsSaid : Prop := matchConstsRow.holds Try.pinned (OpenSpec.ofChange matchConstsSpec)

/-- ITS FALSE NEIGHBOUR: 'it returns false'. Refute it at one input. -/
def matchConstsWrong : ChangeSpec := { name := "matchConsts", fn := fun _ => fun
  | [d] => { results := [.lit (.bool false)], args := [d] }
  | _ => none }
def MatchConstsWrongFalsely : Prop := matchConstsRow.holds Try.pinned (OpenSpec.ofChange matchConstsWrong)

/-- 'edictlaw06.MatchOwn': WHATEVER THE INPUT: true; the input reads as it did. -/
def matchOwnSpec : ChangeSpec := { name := "matchOwn", fn := fun _ => fun
  | [d] => { results := [.lit (.bool true)], args := [d] }
  | _ => none }
def matchOwnRow : OpenClaim := { program := "ytkejjiohkhlnnaa", sum := "99e23c7aa47f3a3471a797f359c7f406704921de87451aaaf2a9cb2033ed3a1a", func := "edict/edictlaw06.MatchOwn", spec := "matchOwn", inPlace := ["internal/reflectlite.ValueOf", "internal/reflectlite.Swapper", "(internal/reflectlite.Value).Len"], unfollowed := true, recurses := true, plainKeys := false, apart := false }
def MatchOwnSaid : Prop := matchOwnRow.holds Try.pinned (OpenSpec.ofChange matchOwnSpec)

/-- ITS FALSE NEIGHBOUR: 'it returns false'. Refute it at one input. -/
def matchOwnWrong : ChangeSpec := { name := "matchOwn", fn := fun _ => fun
  | [d] => { results := [.lit (.bool false)], args := [d] }
  | _ => none }
def MatchOwnWrongFalsely : Prop := matchOwnRow.holds Try.pinned (OpenSpec.ofChange matchOwnWrong)

/- THE SECOND FORM. 'bulk': how many values and letters a reading holds, each counted each time it is reached (what is shared counts as often as it is met; a slice's spare places count too). A statement '..UptoSaid' is the law's where the arguments, and the package variables that the reading takes, are together of bulk at most 1048576: NARROWER than '..Said'. Prove '..Said' where nothing that the law and all that it calls make is longer than what came in: it says more and counts as full. Else prove '..UptoSaid'. A law counts once. -/
mutual
def uptoBulk {H : Type} : DataW H → Nat
  | .lit (.string bytes) => bytes.length + 1
  | .lit _ => 1
  | .nil => 1
  | .ptr d => uptoBulk d + 1
  | .slice elems spare => uptoBulkAll elems + uptoBulkAll spare + 1
  | .agg parts => uptoBulkAll parts + 1
  | .iface _ d => uptoBulk d + 1
  | .map entries => uptoBulkEntries entries + 1
  | .held _ => 1
def uptoBulkAll {H : Type} : List (DataW H) → Nat
  | [] => 0
  | d :: r => uptoBulk d + uptoBulkAll r
def uptoBulkEntries {H : Type} : List (Lit × DataW H) → Nat
  | [] => 0
  | x :: r => uptoBulkEntry x + uptoBulkEntries r
def uptoBulkEntry {H : Type} : Lit × DataW H → Nat
  | (.string bytes, d) => bytes.length + uptoBulk d + 1
  | (_, d) => uptoBulk d + 1
 end
def uptoSmall : (H : Type) → List (DataW H) → Bool := fun _ ds => decide (uptoBulkAll ds ≤ 1048576)
def OpenSpec.upto (s : _root_.Go.ChangeSpec) : _root_.Go.OpenSpec := { _root_.Go.OpenSpec.ofChange s with cond := some uptoSmall }

/-- 'edictlaw06.MatchEvery', WHERE WHAT IT READS IS OF BULK AT MOST 1048576: true; the input reads as it did. -/
def matchEveryUptoRow : OpenClaim := { program := "ytkejjiohkhlnnaa", sum := "99e23c7aa47f3a3471a797f359c7f406704921de87451aaaf2a9cb2033ed3a1a", func := "edict/edictlaw06.MatchEvery", spec := "matchEvery", inPlace := ["internal/reflectlite.ValueOf", "internal/reflectlite.Swapper", "(internal/reflectlite.Value).Len"], unfollowed := true, recurses := true, plainKeys := false, apart := false, narrowed := true }
def MatchEveryUptoSaid : Prop := matchEveryUptoRow.holds Try.pinned (OpenSpec.upto matchEverySpec)

/-- 'edictlaw06.MatchGrows', WHERE WHAT IT READS IS OF BULK AT MOST 1048576: true; the input reads as it did. -/
def matchGrowsUptoRow : OpenClaim := { program := "ytkejjiohkhlnnaa", sum := "99e23c7aa47f3a3471a797f359c7f406704921de87451aaaf2a9cb2033ed3a1a", func := "edict/edictlaw06.MatchGrows", spec := "matchGrows", inPlace := ["internal/reflectlite.ValueOf", "internal/reflectlite.Swapper", "(internal/reflectlite.Value).Len"], unfollowed := true, recurses := true, plainKeys := false, apart := false, narrowed := true }
def MatchGrowsUptoSaid : Prop := matchGrowsUptoRow.holds Try.pinned (OpenSpec.upto matchGrowsSpec)

/-- 'edictlaw06.MatchMore', WHERE WHAT IT READS IS OF BULK AT MOST 1048576: true; the input reads as it did. -/
def matchMoreUptoRow : OpenClaim := { program := "ytkejjiohkhlnnaa", sum := "99e23c7aa47f3a3471a797f359c7f406704921de87451aaaf2a9cb2033ed3a1a", func := "edict/edictlaw06.MatchMore", spec := "matchMore", inPlace := ["internal/reflectlite.ValueOf", "internal/reflectlite.Swapper", "(internal/reflectlite.Value).Len"], unfollowed := true, recurses := true, plainKeys := false, apart := false, narrowed := true }
def MatchMoreUptoSaid : Prop := matchMoreUptoRow.holds Try.pinned (OpenSpec.upto matchMoreSpec)

/-- 'edictlaw06.MatchTurns', WHERE WHAT IT READS IS OF BULK AT MOST 1048576: true; the input reads as it did. -/
def matchTurnsUptoRow : OpenClaim := { program := "ytkejjiohkhlnnaa", sum := "99e23c7aa47f3a3471a797f359c7f406704921de87451aaaf2a9cb2033ed3a1a", func := "edict/edictlaw06.MatchTurns", spec := "matchTurns", inPlace := ["internal/reflectlite.ValueOf", "internal/reflectlite.Swapper", "(internal/reflectlite.Value).Len"], unfollowed := true, recurses := true, plainKeys := false, apart := false, narrowed := true }
def MatchTurnsUptoSaid : Prop := matchTurnsUptoRow.holds Try.pinned (OpenSpec.upto matchTurnsSpec)

/-- 'edictlaw06.MatchOrders', WHERE WHAT IT READS IS OF BULK AT MOST 1048576: true; the input reads as it did. -/
def matchOrdersUptoRow : OpenClaim := { program := "ytkejjiohkhlnnaa", sum := "99e23c7aa47f3a3471a797f359c7f406704921de87451aaaf2a9cb2033ed3a1a", func := "edict/edictlaw06.MatchOrders", spec := "matchOrders", inPlace := ["internal/reflectlite.ValueOf", "internal/reflectlite.Swapper", "(internal/reflectlite.Value).Len"], unfollowed := true, recurses := true, plainKeys := false, apart := false, narrowed := true }
def MatchOrdersUptoSaid : Prop := matchOrdersUptoRow.holds Try.pinned (OpenSpec.upto matchOrdersSpec)

/-- 'edictlaw06.MatchLeast', WHERE WHAT IT READS IS OF BULK AT MOST 1048576: true; the input reads as it did. -/
def matchLeastUptoRow : OpenClaim := { program := "ytkejjiohkhlnnaa", sum := "99e23c7aa47f3a3471a797f359c7f406704921de87451aaaf2a9cb2033ed3a1a", func := "edict/edictlaw06.MatchLeast", spec := "matchLeast", inPlace := ["internal/reflectlite.ValueOf", "internal/reflectlite.Swapper", "(internal/reflectlite.Value).Len"], unfollowed := true, recurses := true, plainKeys := false, apart := false, narrowed := true }
def MatchLeastUptoSaid : Prop := matchLeastUptoRow.holds Try.pinned (OpenSpec.upto matchLeastSpec)

/-- 'edictlaw06.MatchConsts', WHERE WHAT IT READS IS OF BULK AT MOST 1048576: true; the input reads as it did. -/
def matchConstsUptoRow : OpenClaim := { program := "ytkejjiohkhlnnaa", sum := "99e23c7aa47f3a3471a797f359c7f406704921de87451aaaf2a9cb2033ed3a1a", func := "edict/edictlaw06.MatchConsts", spec := "matchConsts", inPlace := ["internal/reflectlite.ValueOf", "internal/reflectlite.Swapper", "(internal/reflectlite.Value).Len"], unfollowed := true, recurses := true, plainKeys := false, apart := false, narrowed := true }
def MatchConstsUptoSaid : Prop := matchConstsUptoRow.holds Try.pinned (OpenSpec.upto matchConstsSpec)

/-- 'edictlaw06.MatchOwn', WHERE WHAT IT READS IS OF BULK AT MOST 1048576: true; the input reads as it did. -/
def matchOwnUptoRow : OpenClaim := { program := "ytkejjiohkhlnnaa", sum := "99e23c7aa47f3a3471a797f359c7f406704921de87451aaaf2a9cb2033ed3a1a", func := "edict/edictlaw06.MatchOwn", spec := "matchOwn", inPlace := ["internal/reflectlite.ValueOf", "internal/reflectlite.Swapper", "(internal/reflectlite.Value).Len"], unfollowed := true, recurses := true, plainKeys := false, apart := false, narrowed := true }
def MatchOwnUptoSaid : Prop := matchOwnUptoRow.holds Try.pinned (OpenSpec.upto matchOwnSpec)

end Rows
end Go.Proofs.Ytkejjiohkhlnnaa
