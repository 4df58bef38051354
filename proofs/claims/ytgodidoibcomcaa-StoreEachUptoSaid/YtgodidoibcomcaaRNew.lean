/-
  New of the document's store, of arities that may be: an empty store.
-/
import Derived.Test.YtgodidoibcomcaaRUndo
namespace Go.Proofs.Ytgodidoibcomcaa
open Go.RowKit

/-- the owners behind New: what was made is still, the last block the head -/
def newRef (s lo n : Nat) (τ : Own) : Own := fun j => if j < lo then τ j else if j < n then some (s, .still) else if j = n then some (s, .head) else none

theorem rnew_store {s : Nat} {τ : Own} {w w1 : World} {ar : List Int} {a : Option Addr} {c : Nat} (hb : Below w.heap.size w w1) (hi : IntsZ (fun j => w.heap.size ≤ j) w1 a c ar) (har : ∀ x ∈ ar, 0 ≤ x ∧ x ≤ 8) (hn : ar.length ≤ 128) :
    let W := w1.alloc (.cells #[.slice a ar.length c, .slice none 0 0, .slice none 0 0, .int .i64 0] 104)
    IsRef s w1.heap.size ⟨ar, [], [], 0⟩ (newRef s w.heap.size w1.heap.size τ) W ∧ Turn s (fun _ => False) τ (newRef s w.heap.size w1.heap.size τ) w W ∧ Below w.heap.size w W := by
  intro W
  have hs := hb.size
  have s4 : W.heap.size = w1.heap.size + 1 := by show (World.alloc _ _).heap.size = _; rw [asz]
  have hB : Below w.heap.size w W := hb.alloc hs _
  have b1 : Below w1.heap.size w1 W := (Below.refl _ _).alloc (Nat.le_refl _) _
  have hS : W.heap[w1.heap.size]? = some (.cells #[.slice a ar.length c, .slice none 0 0, .slice none 0 0, .int .i64 0] 104 (0, 0)) := (MapKept.heap_alloc w1 _).1
  have fresh : Fresh (newRef s w.heap.size w1.heap.size τ) W := fun j hj => by
    unfold newRef
    rw [if_neg (by omega), if_neg (by omega), if_neg (by omega)]
  have tS : newRef s w.heap.size w1.heap.size τ w1.heap.size = some (s, .head) := by unfold newRef; rw [if_neg (by omega), if_neg (by omega), if_pos rfl]
  have hT : Turn s (fun _ => False) τ (newRef s w.heap.size w1.heap.size τ) w W := ⟨hB.os, hB.tape, hB.output, hB.size, fun j hj _ => hB.block j hj, fun j hj => by unfold newRef; rw [if_pos hj], (fun j hj s' r e => by
    unfold newRef at e
    rw [if_neg (by omega)] at e
    repeat' split at e
    all_goals first | (cases e; rfl) | cases e), fresh⟩
  refine ⟨⟨a, c, .slice none 0 0, .slice none 0 0, ⟨fresh, tS, hS, ?_, ⟨[], World.ownsRow_nil _ _ _ _, (fun g e => by cases e), RowCells.nil _ _⟩, ⟨World.ownsRow_nil _ _ _ _, fun g e => by cases e⟩, rfl, (fun r hr => by cases hr), har, hn, Nat.zero_le _⟩⟩, hT, hB⟩
  refine hi.keep (fun j hj hz => b1.block j hj) (fun j hj hz => ?_)
  have hz : w.heap.size ≤ j := hz
  show newRef s w.heap.size w1.heap.size τ j = _
  unfold newRef
  rw [if_neg (by omega), if_pos hj]

set_option maxHeartbeats 2000000 in
theorem rnew_any {Z : Nat → Prop} {s : Nat} {τ : Own} (aa : Option Addr) (ca : Nat) (ar : List Int) (w : World) (ha : IntsZ Z w aa ca ar) (har : ∀ x ∈ ar, 0 ≤ x ∧ x ≤ 8) (hn : ar.length ≤ 128) :
    Calls Try.prog 49 #[.slice aa ar.length ca] w fun e w' => ∃ rb τ', e = .returned (.tuple #[.pointer (some ⟨rb, 0, none⟩), .int .i64 0]) ∧ IsRef s rb ⟨ar, [], [], 0⟩ τ' w' ∧ Turn s (fun _ => False) τ τ' w w' ∧ Below w.heap.size w w' := by
  have HA := Lib.hid ha
  have HR := Lib.hid har
  have HC := Lib.hid (rints_own aa ca ar w ha.ints (by omega))
  have hd128 : decide ((128 : Int) < (ar.length : Int)) = false := by rw [decide_eq_false_iff_not]; omega
  clear ha har
  go_enter Try.func49, Try.ntmps49
  go_wp2
  go_loopw [4] (fun i wr => ∃ k : Nat, k ≤ ar.length ∧ i = .int .i64 k ∧ wr = w) (fun i _ => ar.length - (intOf i).toNat)
  case atStart => exact ⟨0, Nat.zero_le _, rfl, rfl⟩
  case round =>
    obtain ⟨k, hk, rfl, rfl⟩ := hrel
    by_cases hlt : k < ar.length
    · rcases HA.out.1 with h | ⟨b, o, rfl, _, hc⟩
      · rw [h] at hlt; simp at hlt
      · obtain ⟨x, c0, HX⟩ := ints_at hc hlt
        obtain ⟨h0, h8⟩ := HR.out x (List.mem_of_getElem? HX.out)
        have d0 : decide (x < 0) = false := by simpa using h0
        have d8 : decide (8 < x) = false := by simpa using h8
        clear hc
        go_wp2
        go_roundw
        case rel => exact ⟨k + 1, by omega, by go_num, trivial⟩
        case measure => simp [intOf]; omega
    · go_wp2_with (go_at_call 69; refine HC.out.mono ?_; rintro e w1 ⟨v', rfl, hI, hb1⟩; obtain ⟨a', c', rfl, hI'⟩ := intsZ_of_row hI; have hSt := Lib.hid (rnew_store (s := s) (τ := τ) hb1 hI' HR.out hn))
      go_ret2
      obtain ⟨h1, h2, h3⟩ := hSt.out
      exact ⟨_, _, rfl, h1, h2, h3⟩
end Go.Proofs.Ytgodidoibcomcaa
