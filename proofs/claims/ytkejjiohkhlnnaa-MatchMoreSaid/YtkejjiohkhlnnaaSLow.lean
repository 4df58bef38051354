/-
  A Try's number is put on a store's list of lows, and is taken off again: plain facts on worlds, no walk.
-/
import Derived.Test.YtkejjiohkhlnnaaSEnv
namespace Go.Proofs.Ytkejjiohkhlnnaa
open Go.RowKit

def St.withLows (σ : St) (ls : List (Nat × Int)) : St := { σ with lows := ls }
theorem Sound.withLows {σ : St} (h : Sound σ) (ls : List (Nat × Int)) : Sound (σ.withLows ls) := ⟨h.fits, h.once, h.born, h.many, h.arity, h.preds, h.rise, h.birth⟩
theorem HeadIs.setL {sb : Nat} {h : Hd} {na n : Nat} {w : World} (hh : HeadIs sb h na n w) (v : Value) : HeadIs sb { h with vL := v } na n (w.setCell ⟨sb, 7, none⟩ v) := by
  unfold HeadIs at *
  rw [heap_setCell hh]
  rfl
theorem infoPtr : (Try.prog.info? 175).map (fun i => (i.zero, i.size, i.bytes)) = some (some (.pointer none), 1, 8) := by kernel_rfl
theorem elemPtr : Elem Try.prog 107 175 (.pointer none) 1 8 := ⟨Try.underlying107, infoPtr, rfl, by decide⟩

theorem LowsPart.push {s : Nat} {τ : Own} {wA w2 : World} {v v' : Value} {ls : List (Nat × Int)} {b : Nat} {x : Int} (h : LowsPart s τ wA v ls) (hb : τ b = some (s, .lows)) (hcb : wA.heap[b]? = some (.cells #[.int .i64 x] 3 (0, 0))) (hnb : v.ownBlock ≠ some b) (hnew : ∀ y ∈ ls, y.1 ≠ b)
    (hgrow : wA.grownBy w2 v.ownBlock) (hown : w2.ownsRow 0 175 1 v' (ls.length + 1) (ls.map (fun x => Value.pointer (some ⟨x.1, 0, none⟩)) ++ [.pointer (some ⟨b, 0, none⟩)])) (hblk : v'.ownBlock = v.ownBlock ∨ v'.ownBlock = some wA.heap.size) :
    LowsPart s (adopted s .lows wA.heap.size w2.heap.size τ) w2 v' (ls ++ [(b, x)]) := by
  obtain ⟨h1, h2, h3, h4⟩ := h
  refine ⟨by simpa using hown, tag_grown hown (fun g e => ⟨h2 g e, (h1.lt g e).2⟩) hblk, fun y hy => ?_, ?_⟩
  · have key : τ y.1 = some (s, .lows) ∧ wA.heap[y.1]? = some (.cells #[.int .i64 y.2] 3 (0, 0)) ∧ v.ownBlock ≠ some y.1 := by
      rcases List.mem_append.1 hy with hy | hy
      · exact h3 y hy
      · rw [List.mem_singleton] at hy
        subst hy
        exact ⟨hb, hcb, hnb⟩
    obtain ⟨k1, k2, k3⟩ := key
    have hlt := (Array.getElem?_eq_some_iff.1 k2).1
    refine ⟨by rw [adopted_out (by omega)]; exact k1, (hgrow.block y.1 hlt (fun e => k3 e.symm)).trans k2, fun e => ?_⟩
    rcases hblk with hk | hk
    · exact k3 (hk.symm.trans e)
    · have e2 := Option.some.inj (hk.symm.trans e)
      omega
  · rw [List.map_append, List.nodup_append]
    refine ⟨h4, by simp, fun a ha c hc => ?_⟩
    obtain ⟨y, hy, rfl⟩ := List.mem_map.1 ha
    simp at hc
    subst hc
    exact hnew y hy

section
variable {s sb : Nat} {σ : St} {h : Hd} {τ : Own} {w : World}
theorem StoreAt.pushLow (hs : StoreAt s sb σ h τ w) {b : Nat} {x : Int} (hb : τ b = some (s, .lows)) (hcb : w.heap[b]? = some (.cells #[.int .i64 x] 3 (0, 0))) (hnb : h.vL.ownBlock ≠ some b) (hnew : ∀ y ∈ σ.lows, y.1 ≠ b)
    {wA w2 : World} {v' : Value} (hbA : Below w.heap.size w wA) (hown2 : w2.ownsRow 0 175 1 v' (σ.lows.length + 1) (σ.lows.map (fun x => Value.pointer (some ⟨x.1, 0, none⟩)) ++ [.pointer (some ⟨b, 0, none⟩)])) (hgrow : wA.grownBy w2 h.vL.ownBlock) (hblk : v'.ownBlock = h.vL.ownBlock ∨ v'.ownBlock = some wA.heap.size) :
    ∃ τ2, StoreAt s sb (σ.withLows (σ.lows ++ [(b, x)])) { h with vL := v' } τ2 (w2.setCell ⟨sb, 7, none⟩ v') ∧ Turn s (fun _ => True) τ τ2 w (w2.setCell ⟨sb, 7, none⟩ v') := by
  have TA : Turn s (fun _ => False) τ τ w wA := Turn.of_below hbA hs.fresh
  have P := hs.parts
  have PA := P.turn TA (fun h => h) (fun h => h) (fun h => h) (fun h => h) (fun h => h) (fun h => h) (fun _ h => h) (fun h => h) (fun _ h => h) (fun h => h)
  have hlt := (Array.getElem?_eq_some_iff.1 hcb).1
  have T2 : Turn s (fun r => r = .lows) τ (adopted s .lows wA.heap.size w2.heap.size τ) wA w2 := Turn.grown hgrow PA.fresh .lows rfl (fun g e => hs.lows.2.1 g e)
  have hl := PA.lows.push hb ((hbA.block b hlt).trans hcb) hnb hnew hgrow hown2 hblk
  have hmine : adopted s .lows wA.heap.size w2.heap.size τ sb = some (s, .head) := (T2.own sb (Array.getElem?_eq_some_iff.1 PA.head).1).trans P.mine
  have T3 : Turn s (fun r => r = .head) (adopted s .lows wA.heap.size w2.heap.size τ) (adopted s .lows wA.heap.size w2.heap.size τ) w2 (w2.setCell ⟨sb, 7, none⟩ v') := Turn.setCell (R := fun r => r = .head) T2.fresh (a := ⟨sb, 7, none⟩) hmine rfl _
  have T23 := (T2.mono (R' := fun r => r = .lows ∨ r = .head) (fun r h => .inl h)).trans (T3.mono (fun r h => .inr h))
  refine ⟨_, ⟨hs.sound.withLows _, T3.fresh, hmine, (PA.head.turn P.mine T2 (fun h => by cases h)).setL v', still_turn T23 (fun h => by rcases h with h | h <;> cases h) PA.ar, PA.rows.turn T23 (fun h => by rcases h with h | h <;> cases h) (fun h => by rcases h with h | h <;> cases h), PA.undo.turn T23 (fun h => by rcases h with h | h <;> cases h) (fun h => by rcases h with h | h <;> cases h), PA.num.turn T23 (fun h => by rcases h with h | h <;> cases h), PA.of.turn T23 (fun h => by rcases h with h | h <;> cases h) (fun k h => by rcases h with h | h <;> cases h), PA.wh.turn T23 (fun h => by rcases h with h | h <;> cases h) (fun k h => by rcases h with h | h <;> cases h), hl.turn T3 (fun h => by cases h)⟩, ?_⟩
  exact (TA.mono (fun r h => h.elim)).trans (T23.mono fun r _ => trivial)

/-- the last low goes -/
theorem StoreAt.cutLow (hs : StoreAt s sb σ h τ w) {ls : List (Nat × Int)} {b : Nat} {x : Int} (he : σ.lows = ls ++ [(b, x)]) :
    ∃ g cap, h.vL = .slice (some ⟨g, 0, none⟩) (ls.length + 1) cap ∧ ls.length + 1 ≤ cap ∧ τ b = some (s, .lows) ∧ w.heap[b]? = some (.cells #[.int .i64 x] 3 (0, 0)) ∧ ∀ wA : World, Below w.heap.size w wA →
      StoreAt s sb (σ.withLows ls) { h with vL := .slice (some ⟨g, 0, none⟩) ls.length cap } τ (wA.setCell ⟨sb, 7, none⟩ (.slice (some ⟨g, 0, none⟩) ls.length cap)) ∧ Turn s (fun _ => True) τ τ w (wA.setCell ⟨sb, 7, none⟩ (.slice (some ⟨g, 0, none⟩) ls.length cap)) := by
  obtain ⟨ho, hg, hc, hn⟩ := hs.lows
  rw [he] at ho hc hn
  rw [List.length_append, List.length_singleton] at ho
  obtain ⟨g, cap, hv, hcap, hcut⟩ := owns_cut ho
  obtain ⟨tb, cb, _⟩ := hc (b, x) (by simp)
  have hl : LowsPart s τ w (.slice (some ⟨g, 0, none⟩) ls.length cap) ls := by
    refine ⟨?_, fun g' e => by cases e; exact hg g (by rw [hv]; rfl), fun y hy => ?_, ?_⟩
    · have := hcut ls.length (by omega)
      rw [Nat.mul_one, List.map_append, List.take_append_of_le_length (by simp)] at this
      rwa [List.take_of_length_le (by simp)] at this
    · obtain ⟨k1, k2, k3⟩ := hc y (List.mem_append.2 (.inl hy))
      exact ⟨k1, k2, fun e => k3 (by rw [hv]; exact e)⟩
    · rw [List.map_append, List.nodup_append] at hn
      exact hn.1
  refine ⟨g, cap, hv, hcap, tb, cb, fun wA hbA => ?_⟩
  have TA : Turn s (fun _ => False) τ τ w wA := Turn.of_below hbA hs.fresh
  have P := hs.parts
  have PA := P.turn TA (fun h => h) (fun h => h) (fun h => h) (fun h => h) (fun h => h) (fun h => h) (fun _ h => h) (fun h => h) (fun _ h => h) (fun h => h)
  have T3 : Turn s (fun r => r = .head) τ τ wA (wA.setCell ⟨sb, 7, none⟩ (.slice (some ⟨g, 0, none⟩) ls.length cap)) := Turn.setCell (R := fun r => r = .head) PA.fresh (a := ⟨sb, 7, none⟩) P.mine rfl _
  exact ⟨⟨hs.sound.withLows _, T3.fresh, P.mine, PA.head.setL _, still_turn T3 (fun h => by cases h) PA.ar, PA.rows.turn T3 (fun h => by cases h) (fun h => by cases h), PA.undo.turn T3 (fun h => by cases h) (fun h => by cases h), PA.num.turn T3 (fun h => by cases h), PA.of.turn T3 (fun h => by cases h) (fun k h => by cases h), PA.wh.turn T3 (fun h => by cases h) (fun k h => by cases h), (hl.turn TA (fun h => h)).turn T3 (fun h => by cases h)⟩, (TA.mono (fun r h => h.elim)).trans (T3.mono fun r _ => trivial)⟩
end
end Go.Proofs.Ytkejjiohkhlnnaa
