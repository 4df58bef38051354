/-
  What New makes of arities that may be: an empty store.
-/
import Derived.Test.YtkejjiohkhlnnaaSParts
namespace Go.Proofs.Ytkejjiohkhlnnaa
open Go.RowKit
open Go.Maps (Keyed)

/-- the owners behind New: lo .. n - 1 still, then the three maps, then the store -/
def newOwn (s lo n : Nat) (τ : Own) : Own := fun j =>
  if j < lo then τ j else if j < n then some (s, .still) else if j = n then some (s, .num) else if j = n + 1 then some (s, .of) else if j = n + 2 then some (s, .wh) else if j = n + 3 then some (s, .head) else none

theorem new_store {s : Nat} {τ : Own} {w w1 : World} {ar : List Int} {a : Option Addr} {c : Nat} (_hf : Fresh τ w) (hb : Below w.heap.size w w1) (hi : IntsZ (fun j => w.heap.size ≤ j) w1 a c ar) (har : ∀ x ∈ ar, 0 ≤ x ∧ x ≤ 8) (hn : ar.length ≤ 128) :
    let W := (((w1.alloc (.map #[] 0)).alloc (.map #[] 0)).alloc (.map #[] 0)).alloc (.cells #[.slice a ar.length c, .slice none 0 0, .slice none 0 0, .map (some w1.heap.size), .map (some (w1.heap.size + 1)), .map (some (w1.heap.size + 1 + 1)), .int .i64 0, .slice none 0 0] 109)
    IsStore s (w1.heap.size + 1 + 1 + 1) ⟨ar, [], [], 0, []⟩ (newOwn s w.heap.size w1.heap.size τ) W ∧ Turn s (fun _ => False) τ (newOwn s w.heap.size w1.heap.size τ) w W ∧ Below w.heap.size w W := by
  intro W
  have hs := hb.size
  have s1 := asz w1 (.map #[] 0)
  have s2 := asz (w1.alloc (.map #[] 0)) (.map #[] 0)
  have s3 := asz ((w1.alloc (.map #[] 0)).alloc (.map #[] 0)) (.map #[] 0)
  have s4 : W.heap.size = w1.heap.size + 4 := by show (World.alloc _ _).heap.size = _; rw [asz]; omega
  have hB : Below w.heap.size w W := (((hb.alloc (by omega) _).alloc (by omega) _).alloc (by omega) _).alloc (by omega) _
  have b1 : Below w1.heap.size w1 W := ((((Below.refl _ _).alloc (by omega) _).alloc (by omega) _).alloc (by omega) _).alloc (by omega) _
  have hN : W.heap[w1.heap.size]? = some (.map #[] 0) := by
    show (World.alloc _ _).heap[_]? = _
    rw [Below.heap_alloc _ _ _ (by omega), Below.heap_alloc _ _ _ (by omega), Below.heap_alloc _ _ _ (by omega)]
    exact (MapKept.heap_alloc w1 _).1
  have hO : W.heap[w1.heap.size + 1]? = some (.map #[] 0) := by
    show (World.alloc _ _).heap[_]? = _
    rw [Below.heap_alloc _ _ _ (by omega), Below.heap_alloc _ _ _ (by omega)]
    have := (MapKept.heap_alloc (w1.alloc (.map #[] 0)) (.map #[] 0)).1
    rw [s1] at this; exact this
  have hW : W.heap[w1.heap.size + 1 + 1]? = some (.map #[] 0) := by
    show (World.alloc _ _).heap[_]? = _
    rw [Below.heap_alloc _ _ _ (by omega)]
    have := (MapKept.heap_alloc ((w1.alloc (.map #[] 0)).alloc (.map #[] 0)) (.map #[] 0)).1
    rw [s2, s1] at this; exact this
  have hS : W.heap[w1.heap.size + 1 + 1 + 1]? = some (.cells #[.slice a ar.length c, .slice none 0 0, .slice none 0 0, .map (some w1.heap.size), .map (some (w1.heap.size + 1)), .map (some (w1.heap.size + 1 + 1)), .int .i64 0, .slice none 0 0] 109 (0, 0)) := by
    have := (MapKept.heap_alloc (((w1.alloc (.map #[] 0)).alloc (.map #[] 0)).alloc (.map #[] 0)) (.cells #[.slice a ar.length c, .slice none 0 0, .slice none 0 0, .map (some w1.heap.size), .map (some (w1.heap.size + 1)), .map (some (w1.heap.size + 1 + 1)), .int .i64 0, .slice none 0 0] 109)).1
    rw [s3, s2, s1] at this; exact this
  have mk : ∀ {K : TypeId} {b : Nat}, W.heap[b]? = some (.map #[] 0) → MapIs Try.prog K W b 0 (fun _ => none) := fun {K b} h => ⟨#[], 0, h, MapKept.stamped_empty 0, by simp, Nat.le_refl _, by simp⟩
  have fresh : Fresh (newOwn s w.heap.size w1.heap.size τ) W := fun j hj => by
    unfold newOwn
    rw [if_neg (by omega), if_neg (by omega), if_neg (by omega), if_neg (by omega), if_neg (by omega), if_neg (by omega)]
  have tN : newOwn s w.heap.size w1.heap.size τ w1.heap.size = some (s, .num) := by unfold newOwn; rw [if_neg (by omega), if_neg (by omega), if_pos rfl]
  have tO : newOwn s w.heap.size w1.heap.size τ (w1.heap.size + 1) = some (s, .of) := by unfold newOwn; rw [if_neg (by omega), if_neg (by omega), if_neg (by omega), if_pos rfl]
  have tW : newOwn s w.heap.size w1.heap.size τ (w1.heap.size + 1 + 1) = some (s, .wh) := by unfold newOwn; rw [if_neg (by omega), if_neg (by omega), if_neg (by omega), if_neg (by omega), if_pos rfl]
  have tS : newOwn s w.heap.size w1.heap.size τ (w1.heap.size + 1 + 1 + 1) = some (s, .head) := by unfold newOwn; rw [if_neg (by omega), if_neg (by omega), if_neg (by omega), if_neg (by omega), if_neg (by omega), if_pos rfl]
  have hT : Turn s (fun _ => False) τ (newOwn s w.heap.size w1.heap.size τ) w W := ⟨hB.os, hB.tape, hB.output, hB.size, fun j hj _ => hB.block j hj, fun j hj => by unfold newOwn; rw [if_pos hj], (fun j hj s' r e => by
    unfold newOwn at e
    rw [if_neg (by omega)] at e
    repeat' split at e
    all_goals first | (cases e; rfl) | cases e), fresh⟩
  refine ⟨⟨⟨a, c, .slice none 0 0, .slice none 0 0, w1.heap.size, w1.heap.size + 1, w1.heap.size + 1 + 1, .slice none 0 0⟩, ⟨⟨(fun r hr => by cases hr), List.nodup_nil, rfl, Nat.le_refl _, har, hn, List.Pairwise.nil, fun x hx => by cases hx⟩, fresh, tS, hS, ?_, ?_, ?_, ?_, ?_, ?_, ?_⟩⟩, hT, hB⟩
  · refine hi.keep (fun j hj hz => b1.block j hj) (fun j hj hz => ?_)
    have hz : w.heap.size ≤ j := hz
    show newOwn s w.heap.size w1.heap.size τ j = _
    unfold newOwn
    rw [if_neg (by omega), if_pos hj]
  · exact ⟨[], World.ownsRow_nil _ _ _ _, (fun g e => by cases e), (fun i r bt hr => by simp at hr)⟩
  · exact ⟨[], World.ownsRow_nil _ _ _ _, (fun g e => by cases e), (fun i r hr => by simp at hr)⟩
  · exact ⟨tN, _, mk hN, (fun i r hr => by simp at hr), (fun key v hv => by cases hv)⟩
  · exact ⟨tO, _, mk hO, fun _ _ _ => rfl, fun key v hv => by cases hv⟩
  · exact ⟨tW, _, mk hW, fun _ _ _ => rfl, fun key v hv => by cases hv⟩
  · exact LowsPart.nil _ _ _

set_option maxHeartbeats 2000000 in
set_option maxRecDepth 8000 in
theorem new_any {Z : Nat → Prop} {s : Nat} {τ : Own} (aa : Option Addr) (ca : Nat) (ar : List Int) (w : World) (hfr : Fresh τ w) (ha : IntsZ Z w aa ca ar) (har : ∀ x ∈ ar, 0 ≤ x ∧ x ≤ 8) (hn : ar.length ≤ 128) :
    Calls Try.prog 25 #[.slice aa ar.length ca] w fun e w' => ∃ sb τ', e = .returned (.tuple #[.pointer (some ⟨sb, 0, none⟩), .int .i64 0]) ∧ IsStore s sb ⟨ar, [], [], 0, []⟩ τ' w' ∧ Turn s (fun _ => False) τ τ' w w' ∧ Below w.heap.size w w' := by
  have HA := Lib.hid ha
  have HR := Lib.hid har
  have HF := Lib.hid hfr
  have HC := Lib.hid (clone_any aa ca ar w ha (by omega))
  have hmm := @run_makeMap Try.prog
  clear ha har hfr
  go_enter Try.func25, Try.ntmps25
  go_wp2
  go_loopw [11] (fun i wr => ∃ k : Nat, k ≤ ar.length ∧ i = .int .i64 k ∧ wr = w) (fun i _ => ar.length - (intOf i).toNat)
  case atStart => exact ⟨0, Nat.zero_le _, rfl, rfl⟩
  case round =>
    obtain ⟨k, hk, rfl, rfl⟩ := hrel
    by_cases hlt : k < ar.length
    · rcases HA.out.1 with h | ⟨b, o, rfl, _, hc⟩
      · rw [h] at hlt; simp at hlt
      · obtain ⟨x, c0, HX⟩ := ints_at hc hlt
        obtain ⟨h0, h8⟩ := HR.out x (List.mem_of_getElem? HX.out)
        clear hc
        go_wp2
        go_roundw
        case rel => exact ⟨k + 1, by omega, by go_num, trivial⟩
        case measure => simp [intOf]; omega
    · go_wp2_with (go_at_call 56; refine HC.out.mono ?_; rintro e w1 ⟨a', c', rfl, hI, hb1⟩; have hSt := Lib.hid (new_store (s := s) HF.out hb1 hI HR.out hn))
      go_ret2
      obtain ⟨h1, h2, h3⟩ := hSt.out
      exact ⟨_, _, rfl, h1, h2, h3⟩
end Go.Proofs.Ytkejjiohkhlnnaa
