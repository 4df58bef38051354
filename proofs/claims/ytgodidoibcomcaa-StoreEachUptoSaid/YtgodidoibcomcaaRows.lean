/-
  NARROWER THAN 'FOR EVERY INPUT', by the rows' own cells (each row's printed sentence says how): StoreScript: loops · StoreTries: loops · StoreEach: loops.
  DERIVED. THE GIVEN ROWS OF THIS SEAT. 9 by the template 'for every input the law returns true; each argument reads behind the call as it read before'; 0 by the template 'total and deterministic' (their statements: YtgodidoibcomcaaTotals.lean).
  GIVEN WITH THE SEED: the statements are not yours to turn. If you find one false, say at which input.
  Laid BY PROGRAM, IN A SANDBOX (cutbox-rows.mjs): the forced cells as the released guide's own fill.sh prints them over the translation 6561797c396b165e… (all of the seat's roots in one cut). By AI agents, Wed Nov 11 2026. No macro, syntax, notation, axiom, sorry.
-/
import Derived.Test.YtgodidoibcomcaaChecked
import GoSem.Claim
import GoSem.ClaimJoined
import GoSem.ClaimMapViews
import Derived.JoinedTies
import Derived.KernelRfl
namespace Go.Proofs.Ytgodidoibcomcaa
/- THE CELL 'sum', in the pinned program and in every row, IS THE sha256 OF THE DUMP (.gsa) THAT YtgodidoibcomcaaProg.lean LOADS. Nothing in Lean hashes anything: it is a label: what it is worth is what the hold of that sum in a sandbox is worth. -/
noncomputable def Try.pinned : Pinned := { name := "ytgodidoibcomcaa", sum := "6561797c396b165e54f146b9ada05d9e48458f7d2baceb58e6b6083936a81d02", checked := Try.checked }
namespace Rows
def none {H : Type} : Left H := { results := [], args := [] }

/-- 'edictlaw05.StoreOnce': WHATEVER THE INPUT: true; the input reads as it did. -/
def storeOnceSpec : ChangeSpec := { name := "storeOnce", fn := fun _ => fun
  | [d1, d2] => { results := [.lit (.bool true)], args := [d1, d2] }
  | _ => none }
def storeOnceRow : OpenClaim := { program := "ytgodidoibcomcaa", sum := "6561797c396b165e54f146b9ada05d9e48458f7d2baceb58e6b6083936a81d02", func := "edict/edictlaw05.StoreOnce", spec := "storeOnce", plainKeys := false, apart := false }
def StoreOnceSaid : Prop := storeOnceRow.holds Try.pinned (OpenSpec.ofChange storeOnceSpec)

/-- ITS FALSE NEIGHBOUR: 'it returns false'. Refute it at one input. -/
def storeOnceWrong : ChangeSpec := { name := "storeOnce", fn := fun _ => fun
  | [d1, d2] => { results := [.lit (.bool false)], args := [d1, d2] }
  | _ => none }
def StoreOnceWrongFalsely : Prop := storeOnceRow.holds Try.pinned (OpenSpec.ofChange storeOnceWrong)

/-- 'edictlaw05.StoreFound': WHATEVER THE INPUT: true; the input reads as it did. -/
def storeFoundSpec : ChangeSpec := { name := "storeFound", fn := fun _ => fun
  | [d1, d2, d3] => { results := [.lit (.bool true)], args := [d1, d2, d3] }
  | _ => none }
def storeFoundRow : OpenClaim := { program := "ytgodidoibcomcaa", sum := "6561797c396b165e54f146b9ada05d9e48458f7d2baceb58e6b6083936a81d02", func := "edict/edictlaw05.StoreFound", spec := "storeFound", plainKeys := false, apart := false }
def StoreFoundSaid : Prop := storeFoundRow.holds Try.pinned (OpenSpec.ofChange storeFoundSpec)

/-- ITS FALSE NEIGHBOUR: 'it returns false'. Refute it at one input. -/
def storeFoundWrong : ChangeSpec := { name := "storeFound", fn := fun _ => fun
  | [d1, d2, d3] => { results := [.lit (.bool false)], args := [d1, d2, d3] }
  | _ => none }
def StoreFoundWrongFalsely : Prop := storeFoundRow.holds Try.pinned (OpenSpec.ofChange storeFoundWrong)

/-- 'edictlaw05.StoreBack': WHATEVER THE INPUT: true; the input reads as it did. -/
def storeBackSpec : ChangeSpec := { name := "storeBack", fn := fun _ => fun
  | [d] => { results := [.lit (.bool true)], args := [d] }
  | _ => none }
def storeBackRow : OpenClaim := { program := "ytgodidoibcomcaa", sum := "6561797c396b165e54f146b9ada05d9e48458f7d2baceb58e6b6083936a81d02", func := "edict/edictlaw05.StoreBack", spec := "storeBack", unfollowed := true, recurses := true, plainKeys := false, apart := false }
def StoreBackSaid : Prop := storeBackRow.holds Try.pinned (OpenSpec.ofChange storeBackSpec)

/-- ITS FALSE NEIGHBOUR: 'it returns false'. Refute it at one input. -/
def storeBackWrong : ChangeSpec := { name := "storeBack", fn := fun _ => fun
  | [d] => { results := [.lit (.bool false)], args := [d] }
  | _ => none }
def StoreBackWrongFalsely : Prop := storeBackRow.holds Try.pinned (OpenSpec.ofChange storeBackWrong)

/-- 'edictlaw05.StoreCopies': WHATEVER THE INPUT: true; the input reads as it did. -/
def storeCopiesSpec : ChangeSpec := { name := "storeCopies", fn := fun _ => fun
  | [d] => { results := [.lit (.bool true)], args := [d] }
  | _ => none }
def storeCopiesRow : OpenClaim := { program := "ytgodidoibcomcaa", sum := "6561797c396b165e54f146b9ada05d9e48458f7d2baceb58e6b6083936a81d02", func := "edict/edictlaw05.StoreCopies", spec := "storeCopies", unfollowed := true, recurses := true, plainKeys := false, apart := false }
def StoreCopiesSaid : Prop := storeCopiesRow.holds Try.pinned (OpenSpec.ofChange storeCopiesSpec)

/-- ITS FALSE NEIGHBOUR: 'it returns false'. Refute it at one input. -/
def storeCopiesWrong : ChangeSpec := { name := "storeCopies", fn := fun _ => fun
  | [d] => { results := [.lit (.bool false)], args := [d] }
  | _ => none }
def StoreCopiesWrongFalsely : Prop := storeCopiesRow.holds Try.pinned (OpenSpec.ofChange storeCopiesWrong)

/-- 'edictlaw05.StoreTry': WHATEVER THE INPUT: true; the input reads as it did. -/
def storeTrySpec : ChangeSpec := { name := "storeTry", fn := fun _ => fun
  | [d] => { results := [.lit (.bool true)], args := [d] }
  | _ => none }
def storeTryRow : OpenClaim := { program := "ytgodidoibcomcaa", sum := "6561797c396b165e54f146b9ada05d9e48458f7d2baceb58e6b6083936a81d02", func := "edict/edictlaw05.StoreTry", spec := "storeTry", unfollowed := true, recurses := true, plainKeys := false, apart := false }
def StoreTrySaid : Prop := storeTryRow.holds Try.pinned (OpenSpec.ofChange storeTrySpec)

/-- ITS FALSE NEIGHBOUR: 'it returns false'. Refute it at one input. -/
def storeTryWrong : ChangeSpec := { name := "storeTry", fn := fun _ => fun
  | [d] => { results := [.lit (.bool false)], args := [d] }
  | _ => none }
def StoreTryWrongFalsely : Prop := storeTryRow.holds Try.pinned (OpenSpec.ofChange storeTryWrong)

/-- 'edictlaw05.StoreScript': WHATEVER THE INPUT: true; the input reads as it did. -/
def storeScriptSpec : ChangeSpec := { name := "storeScript", fn := fun _ => fun
  | [d1, d2] => { results := [.lit (.bool true)], args := [d1, d2] }
  | _ => none }
def storeScriptRow : OpenClaim := { program := "ytgodidoibcomcaa", sum := "6561797c396b165e54f146b9ada05d9e48458f7d2baceb58e6b6083936a81d02", func := "edict/edictlaw05.StoreScript", spec := "storeScript", unfollowed := true, recurses := true, loops := true, plainKeys := false, apart := false }
def StoreScriptSaid : Prop := storeScriptRow.holds Try.pinned (OpenSpec.ofChange storeScriptSpec)

/-- ITS FALSE NEIGHBOUR: 'it returns false'. Refute it at one input. -/
def storeScriptWrong : ChangeSpec := { name := "storeScript", fn := fun _ => fun
  | [d1, d2] => { results := [.lit (.bool false)], args := [d1, d2] }
  | _ => none }
def StoreScriptWrongFalsely : Prop := storeScriptRow.holds Try.pinned (OpenSpec.ofChange storeScriptWrong)

/-- 'edictlaw05.StoreTries': WHATEVER THE INPUT: true; the input reads as it did. -/
def storeTriesSpec : ChangeSpec := { name := "storeTries", fn := fun _ => fun
  | [d1, d2] => { results := [.lit (.bool true)], args := [d1, d2] }
  | _ => none }
def storeTriesRow : OpenClaim := { program := "ytgodidoibcomcaa", sum := "6561797c396b165e54f146b9ada05d9e48458f7d2baceb58e6b6083936a81d02", func := "edict/edictlaw05.StoreTries", spec := "storeTries", unfollowed := true, recurses := true, loops := true, plainKeys := false, apart := false }
def StoreTriesSaid : Prop := storeTriesRow.holds Try.pinned (OpenSpec.ofChange storeTriesSpec)

/-- ITS FALSE NEIGHBOUR: 'it returns false'. Refute it at one input. -/
def storeTriesWrong : ChangeSpec := { name := "storeTries", fn := fun _ => fun
  | [d1, d2] => { results := [.lit (.bool false)], args := [d1, d2] }
  | _ => none }
def StoreTriesWrongFalsely : Prop := storeTriesRow.holds Try.pinned (OpenSpec.ofChange storeTriesWrong)

/-- 'edictlaw05.StoreEach': WHATEVER THE INPUT: true; the input reads as it did. -/
def storeEachSpec : ChangeSpec := { name := "storeEach", fn := fun _ => fun
  | [d1, d2] => { results := [.lit (.bool true)], args := [d1, d2] }
  | _ => none }
def storeEachRow : OpenClaim := { program := "ytgodidoibcomcaa", sum := "6561797c396b165e54f146b9ada05d9e48458f7d2baceb58e6b6083936a81d02", func := "edict/edictlaw05.StoreEach", spec := "storeEach", unfollowed := true, recurses := true, loops := true, plainKeys := false, apart := false }
def StoreEachSaid : Prop := storeEachRow.holds Try.pinned (OpenSpec.ofChange storeEachSpec)

/-- ITS FALSE NEIGHBOUR: 'it returns false'. Refute it at one input. -/
def storeEachWrong : ChangeSpec := { name := "storeEach", fn := fun _ => fun
  | [d1, d2] => { results := [.lit (.bool false)], args := [d1, d2] }
  | _ => none }
def StoreEachWrongFalsely : Prop := storeEachRow.holds Try.pinned (OpenSpec.ofChange storeEachWrong)

/-- 'edictlaw05.StoreGoes': WHATEVER THE INPUT: true; the input reads as it did. -/
def storeGoesSpec : ChangeSpec := { name := "storeGoes", fn := fun _ => fun
  | [d] => { results := [.lit (.bool true)], args := [d] }
  | _ => none }
def storeGoesRow : OpenClaim := { program := "ytgodidoibcomcaa", sum := "6561797c396b165e54f146b9ada05d9e48458f7d2baceb58e6b6083936a81d02", func := "edict/edictlaw05.StoreGoes", spec := "storeGoes", unfollowed := true, recurses := true, plainKeys := false, apart := false }
def StoreGoesSaid : Prop := storeGoesRow.holds Try.pinned (OpenSpec.ofChange storeGoesSpec)

/-- ITS FALSE NEIGHBOUR: 'it returns false'. Refute it at one input. -/
def storeGoesWrong : ChangeSpec := { name := "storeGoes", fn := fun _ => fun
  | [d] => { results := [.lit (.bool false)], args := [d] }
  | _ => none }
def StoreGoesWrongFalsely : Prop := storeGoesRow.holds Try.pinned (OpenSpec.ofChange storeGoesWrong)

/- THE SECOND FORM. 'bulk': how many values and letters a reading holds, each counted each time it is reached (what is shared counts as often as it is met; a slice's spare places count too). A statement '..UptoSaid' is the law's where the arguments, and the package variables that the reading takes, are together of bulk at most 1048576: NARROWER than '..Said'. Prove '..Said' where nothing that the law and all that it calls make is longer than what came in: it says more and counts as full. Else prove '..UptoSaid'. A law counts once. -/
mutual
def uptoBulk {H : Type} : DataW H → Nat
  | .lit (.string bytes) => bytes.length + 1
  | .lit _ => 1
  | .nil => 1
  | .ptr d => uptoBulk d + 1
  | .slice elems spare => uptoBulkAll elems + uptoBulkAll spare + 1
  | .agg parts => uptoBulkAll parts + 1
  | .iface _ d => uptoBulk d + 1
  | .map entries => uptoBulkEntries entries + 1
  | .held _ => 1
def uptoBulkAll {H : Type} : List (DataW H) → Nat
  | [] => 0
  | d :: r => uptoBulk d + uptoBulkAll r
def uptoBulkEntries {H : Type} : List (Lit × DataW H) → Nat
  | [] => 0
  | x :: r => uptoBulkEntry x + uptoBulkEntries r
def uptoBulkEntry {H : Type} : Lit × DataW H → Nat
  | (.string bytes, d) => bytes.length + uptoBulk d + 1
  | (_, d) => uptoBulk d + 1
 end
def uptoSmall : (H : Type) → List (DataW H) → Bool := fun _ ds => decide (uptoBulkAll ds ≤ 1048576)
def OpenSpec.upto (s : _root_.Go.ChangeSpec) : _root_.Go.OpenSpec := { _root_.Go.OpenSpec.ofChange s with cond := some uptoSmall }

/-- 'edictlaw05.StoreOnce', WHERE WHAT IT READS IS OF BULK AT MOST 1048576: true; the input reads as it did. -/
def storeOnceUptoRow : OpenClaim := { program := "ytgodidoibcomcaa", sum := "6561797c396b165e54f146b9ada05d9e48458f7d2baceb58e6b6083936a81d02", func := "edict/edictlaw05.StoreOnce", spec := "storeOnce", plainKeys := false, apart := false, narrowed := true }
def StoreOnceUptoSaid : Prop := storeOnceUptoRow.holds Try.pinned (OpenSpec.upto storeOnceSpec)

/-- 'edictlaw05.StoreFound', WHERE WHAT IT READS IS OF BULK AT MOST 1048576: true; the input reads as it did. -/
def storeFoundUptoRow : OpenClaim := { program := "ytgodidoibcomcaa", sum := "6561797c396b165e54f146b9ada05d9e48458f7d2baceb58e6b6083936a81d02", func := "edict/edictlaw05.StoreFound", spec := "storeFound", plainKeys := false, apart := false, narrowed := true }
def StoreFoundUptoSaid : Prop := storeFoundUptoRow.holds Try.pinned (OpenSpec.upto storeFoundSpec)

/-- 'edictlaw05.StoreBack', WHERE WHAT IT READS IS OF BULK AT MOST 1048576: true; the input reads as it did. -/
def storeBackUptoRow : OpenClaim := { program := "ytgodidoibcomcaa", sum := "6561797c396b165e54f146b9ada05d9e48458f7d2baceb58e6b6083936a81d02", func := "edict/edictlaw05.StoreBack", spec := "storeBack", unfollowed := true, recurses := true, plainKeys := false, apart := false, narrowed := true }
def StoreBackUptoSaid : Prop := storeBackUptoRow.holds Try.pinned (OpenSpec.upto storeBackSpec)

/-- 'edictlaw05.StoreCopies', WHERE WHAT IT READS IS OF BULK AT MOST 1048576: true; the input reads as it did. -/
def storeCopiesUptoRow : OpenClaim := { program := "ytgodidoibcomcaa", sum := "6561797c396b165e54f146b9ada05d9e48458f7d2baceb58e6b6083936a81d02", func := "edict/edictlaw05.StoreCopies", spec := "storeCopies", unfollowed := true, recurses := true, plainKeys := false, apart := false, narrowed := true }
def StoreCopiesUptoSaid : Prop := storeCopiesUptoRow.holds Try.pinned (OpenSpec.upto storeCopiesSpec)

/-- 'edictlaw05.StoreTry', WHERE WHAT IT READS IS OF BULK AT MOST 1048576: true; the input reads as it did. -/
def storeTryUptoRow : OpenClaim := { program := "ytgodidoibcomcaa", sum := "6561797c396b165e54f146b9ada05d9e48458f7d2baceb58e6b6083936a81d02", func := "edict/edictlaw05.StoreTry", spec := "storeTry", unfollowed := true, recurses := true, plainKeys := false, apart := false, narrowed := true }
def StoreTryUptoSaid : Prop := storeTryUptoRow.holds Try.pinned (OpenSpec.upto storeTrySpec)

/-- 'edictlaw05.StoreScript', WHERE WHAT IT READS IS OF BULK AT MOST 1048576: true; the input reads as it did. -/
def storeScriptUptoRow : OpenClaim := { program := "ytgodidoibcomcaa", sum := "6561797c396b165e54f146b9ada05d9e48458f7d2baceb58e6b6083936a81d02", func := "edict/edictlaw05.StoreScript", spec := "storeScript", unfollowed := true, recurses := true, loops := true, plainKeys := false, apart := false, narrowed := true }
def StoreScriptUptoSaid : Prop := storeScriptUptoRow.holds Try.pinned (OpenSpec.upto storeScriptSpec)

/-- 'edictlaw05.StoreTries', WHERE WHAT IT READS IS OF BULK AT MOST 1048576: true; the input reads as it did. -/
def storeTriesUptoRow : OpenClaim := { program := "ytgodidoibcomcaa", sum := "6561797c396b165e54f146b9ada05d9e48458f7d2baceb58e6b6083936a81d02", func := "edict/edictlaw05.StoreTries", spec := "storeTries", unfollowed := true, recurses := true, loops := true, plainKeys := false, apart := false, narrowed := true }
def StoreTriesUptoSaid : Prop := storeTriesUptoRow.holds Try.pinned (OpenSpec.upto storeTriesSpec)

/-- 'edictlaw05.StoreEach', WHERE WHAT IT READS IS OF BULK AT MOST 1048576: true; the input reads as it did. -/
def storeEachUptoRow : OpenClaim := { program := "ytgodidoibcomcaa", sum := "6561797c396b165e54f146b9ada05d9e48458f7d2baceb58e6b6083936a81d02", func := "edict/edictlaw05.StoreEach", spec := "storeEach", unfollowed := true, recurses := true, loops := true, plainKeys := false, apart := false, narrowed := true }
def StoreEachUptoSaid : Prop := storeEachUptoRow.holds Try.pinned (OpenSpec.upto storeEachSpec)

/-- 'edictlaw05.StoreGoes', WHERE WHAT IT READS IS OF BULK AT MOST 1048576: true; the input reads as it did. -/
def storeGoesUptoRow : OpenClaim := { program := "ytgodidoibcomcaa", sum := "6561797c396b165e54f146b9ada05d9e48458f7d2baceb58e6b6083936a81d02", func := "edict/edictlaw05.StoreGoes", spec := "storeGoes", unfollowed := true, recurses := true, plainKeys := false, apart := false, narrowed := true }
def StoreGoesUptoSaid : Prop := storeGoesUptoRow.holds Try.pinned (OpenSpec.upto storeGoesSpec)

end Rows
end Go.Proofs.Ytgodidoibcomcaa
