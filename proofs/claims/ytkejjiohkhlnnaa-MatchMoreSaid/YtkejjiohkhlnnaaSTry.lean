/-
  What Try does, whatever the function does that it is handed.
-/
import Derived.Test.YtkejjiohkhlnnaaSTryDef
import Derived.Deep.Cut
import Derived.Deep.DeepCutAuto
namespace Go.Proofs.Ytkejjiohkhlnnaa
open Go.RowKit

theorem Env.tail {w0 : World} {τ : Own} {w : World} {S : List Ent} {L : List RSl} {C : List Box} {x : Box} (E : Env w0 τ w S L (x :: C)) : Env w0 τ w S L C :=
  ⟨E.fresh, E.old, E.below, E.st, E.rows, fun z hz => E.boxes z (List.mem_cons_of_mem _ hz), (List.nodup_cons.1 E.keys).2⟩
theorem box_turn {τ : Own} {w : World} (hf : Fresh τ w) (s : Nat) (r : Role) (o : Obj) : Turn s (fun _ => False) τ (adopted s r w.heap.size (w.alloc o).heap.size τ) w (w.alloc o) :=
  (Turn.of_below (R := fun _ => False) (s := s) ((Below.refl _ _).alloc (Nat.le_refl _) _) hf).adopt r (Nat.le_refl _)
theorem Env.low {w0 : World} {τ : Own} {w : World} {S : List Ent} {L : List RSl} {C : List Box} {s : Nat} (E : Env w0 τ w S L C) (h0 : s ≠ boxS) (o : Obj) :
    Env w0 (adopted s .lows w.heap.size (w.alloc o).heap.size τ) (w.alloc o) S L C ∧ adopted s .lows w.heap.size (w.alloc o).heap.size τ w.heap.size = some (s, .lows) ∧ (w.alloc o).heap[w.heap.size]? = some o := by
  have hz : (w.alloc o).heap.size = w.heap.size + 1 := by simp
  have T := box_turn E.fresh s .lows o
  obtain ⟨h1, h2, h3, h4, h5⟩ := E.turned T (.inl h0)
  exact ⟨⟨h1, h2, h3, fun z hz => (E.st z hz).idle T (fun _ h => h), h4, h5, E.keys⟩, adopted_in (Nat.le_refl _) (by omega), (MapKept.heap_alloc w o).1⟩

/-- what the function that Try is handed does, at whatever further variables -/
def TryFn (w0 : World) (s sb : Nat) (ar : List Int) (rows : List Row) (ls : List (Nat × Int)) (n : Nat) (S : List Ent) (L : List RSl) (C : List Box) (F : Nat) (caps : Array Value)
    (P : Bool → List Row → List (Nat × Int) → Nat → Nat → List Ent → List RSl → List Box → Prop) : Prop :=
  ∀ (τ1 : Own) (w1 : World) (b5 : Nat) (X : List Box), Env w0 τ1 w1 (⟨s, sb, ar, rows, ls ++ [(b5, (rows.length : Int))], n⟩ :: S) L (X ++ C) →
    Calls Try.prog F caps w1 fun e w2 => ∃ (say : Bool) (τ2 : Own) (rows2 : List Row) (ls2 : List (Nat × Int)) (k n2 : Nat) (S2 : List Ent) (L2 : List RSl) (C2 : List Box), e = .returned (.bool say) ∧ Env w0 τ2 w2 (⟨s, sb, ar, rows2, ls2 ++ [(b5, (k : Int))], n2⟩ :: S2) L2 (X ++ C2) ∧ ls2.length = ls.length ∧ k ≤ rows2.length ∧ n2 ≤ 100000000000 ∧ (∀ z ∈ S2, z.s ≠ s) ∧ (∀ z ∈ S2, z.s ≠ boxS) ∧ P say rows2 ls2 k n2 S2 L2 C2

/-- what Try leaves -/
def TryEnd (w0 : World) (s sb : Nat) (ar : List Int) (ls : List (Nat × Int)) (P : Bool → List Row → List (Nat × Int) → Nat → Nat → List Ent → List RSl → List Box → Prop) (e : Ending) (w' : World) : Prop :=
  ∃ (say : Bool) (τ' : Own) (rows2 : List Row) (ls2 : List (Nat × Int)) (k n2 : Nat) (S2 : List Ent) (L2 : List RSl) (C2 : List Box), e = .returned (.bool say) ∧ Env w0 τ' w' (⟨s, sb, ar, if say then rows2 else rows2.take k, if say then ls2 else lowMix k ls2.length ls2, n2⟩ :: S2) L2 C2 ∧ ls2.length = ls.length ∧ k ≤ rows2.length ∧ (∀ z ∈ S2, z.s ≠ s) ∧ (∀ z ∈ S2, z.s ≠ boxS) ∧ P say rows2 ls2 k n2 S2 L2 C2

end Go.Proofs.Ytkejjiohkhlnnaa
