/-
  What Undo does: the first n rows stay.
-/
import Derived.Test.YtkejjiohkhlnnaaSUndo1
namespace Go.Proofs.Ytkejjiohkhlnnaa
open Go.RowKit
open Go.Maps (Keyed)

def lowMix (n : Nat) (k : Nat) (ls : List (Nat × Int)) : List (Nat × Int) := (ls.take k).map (fun x => (x.1, min x.2 (n : Int))) ++ ls.drop k
theorem lowMix_zero (n : Nat) (ls : List (Nat × Int)) : lowMix n 0 ls = ls := by simp [lowMix]
theorem lowMix_length (n k : Nat) (ls : List (Nat × Int)) : (lowMix n k ls).length = ls.length := by simp [lowMix]; omega
theorem lowMix_at (n : Nat) (ls : List (Nat × Int)) {k : Nat} {b : Nat} {x : Int} (h : ls[k]? = some (b, x)) : (lowMix n k ls)[k]? = some (b, x) := by
  have hk := (List.getElem?_eq_some_iff.1 h).1
  unfold lowMix
  rw [List.getElem?_append_right (by simp; omega), List.length_map, List.length_take, Nat.min_eq_left (by omega), Nat.sub_self, List.getElem?_drop]
  simpa using h
theorem lowMix_succ (n : Nat) (ls : List (Nat × Int)) {k : Nat} {b : Nat} {x : Int} (h : ls[k]? = some (b, x)) : lowMix n (k + 1) ls = (lowMix n k ls).set k (b, min x (n : Int)) := by
  have hk := (List.getElem?_eq_some_iff.1 h).1
  have hd : ls.drop k = (b, x) :: ls.drop (k + 1) := by
    rw [List.drop_eq_getElem_cons hk]
    congr 1
    exact (List.getElem?_eq_some_iff.1 h).2
  unfold lowMix
  rw [take_snoc' h, hd, List.map_append]
  have hl : ((ls.take k).map (fun x => (x.1, min x.2 (n : Int)))).length = k := by simp; omega
  rw [List.set_append_right _ _ (by omega), hl, Nat.sub_self]
  simp
def St.cut (σ : St) (n : Nat) : St := { σ with rows := σ.rows.take n, bs := σ.bs.take n, lows := lowMix n σ.lows.length σ.lows }
theorem LowsPart.at {s : Nat} {τ : Own} {w : World} {v : Value} {ls : List (Nat × Int)} (h : LowsPart s τ w v ls) {k b : Nat} {x : Int} (hk : ls[k]? = some (b, x)) :
    ∃ g cap, v = .slice (some ⟨g, 0, none⟩) ls.length cap ∧ w.cell? ⟨g, k, none⟩ = some (.pointer (some ⟨b, 0, none⟩)) ∧ w.heap[b]? = some (.cells #[.int .i64 x] 3 (0, 0)) ∧ τ b = some (s, .lows) ∧ g ≠ b := by
  obtain ⟨ho, hg, hc, _⟩ := h
  have hi := (List.getElem?_eq_some_iff.1 hk).1
  obtain ⟨t, c, n⟩ := hc _ (List.mem_of_getElem? hk)
  rcases owns_form ho with ⟨e, h0, _⟩ | ⟨g, cap, e, _, _, _, _, hv, hcell, _⟩
  · omega
  · exact ⟨g, cap, e, hcell _ _ (by rw [List.getElem?_map, hk]; rfl), c, t, fun e => n (by rw [hv, e])⟩
theorem LowsPart.set {s : Nat} {τ : Own} {w : World} {v : Value} {ls : List (Nat × Int)} (h : LowsPart s τ w v ls) {k b : Nat} {x : Int} (hk : ls[k]? = some (b, x)) (y : Int) :
    LowsPart s τ (w.setCell ⟨b, 0, none⟩ (.int .i64 y)) v (ls.set k (b, y)) := by
  have hi := (List.getElem?_eq_some_iff.1 hk).1
  obtain ⟨ho, hg, hc, hn⟩ := h
  obtain ⟨t, c, n⟩ := hc _ (List.mem_of_getElem? hk)
  have hkeys : (ls.set k (b, y)).map (·.1) = ls.map (·.1) := by
    rw [List.map_set]
    apply List.ext_getElem?
    intro i
    rw [List.getElem?_set]
    split
    · rename_i e
      subst e
      rw [if_pos (by simpa using hi), List.getElem?_map, hk]
      rfl
    · rfl
  have hptr : (ls.set k (b, y)).map (fun x => Value.pointer (some ⟨x.1, 0, none⟩)) = ls.map (fun x => Value.pointer (some ⟨x.1, 0, none⟩)) := by
    have := congrArg (List.map (fun b : Nat => Value.pointer (some ⟨b, 0, none⟩))) hkeys
    rw [List.map_map, List.map_map] at this
    exact this
  refine ⟨?_, hg, fun z hz => ?_, by rw [hkeys]; exact hn⟩
  · rw [hptr, List.length_set]
    exact owns_block ho (fun g e => Below.heap_setCell w _ _ g (fun e' => n (by rw [e, e'])))
  · obtain ⟨i, hz⟩ := List.mem_iff_getElem?.1 hz
    rw [List.getElem?_set] at hz
    split at hz
    · rename_i e
      cases hz
      exact ⟨t, heap_setCell c _, n⟩
    · rename_i e
      obtain ⟨t2, c2, n2⟩ := hc z (List.mem_of_getElem? hz)
      refine ⟨t2, (Below.heap_setCell w _ _ z.1 (fun e' => ?_)).trans c2, n2⟩
      have h1 : (ls.map (·.1))[i]? = some z.1 := by rw [List.getElem?_map, hz]; rfl
      have h2 : (ls.map (·.1))[k]? = some z.1 := by
        rw [List.getElem?_map, hk, e']
        rfl
      have hik : i < (ls.map (·.1)).length := by have := (List.getElem?_eq_some_iff.1 hz).1; simpa using this
      exact e (((List.getElem?_inj hik hn).1 (h1.trans h2.symm)).symm)
theorem PartsAt.putLow {s sb : Nat} {ar : List Int} {rR : List Row} {bs : List Int} {rU rN : List Row} {LO LW : Value → List Int} {births mN mO mW : Nat} {ls : List (Nat × Int)} {h : Hd} {τ : Own} {w : World}
    (P : PartsAt s sb ar rR bs rU rN LO LW births mN mO mW ls h τ w) {k b : Nat} {x : Int} (hk : ls[k]? = some (b, x)) (y : Int) :
    PartsAt s sb ar rR bs rU rN LO LW births mN mO mW (ls.set k (b, y)) h τ (w.setCell ⟨b, 0, none⟩ (.int .i64 y)) ∧ Turn s Moves τ τ w (w.setCell ⟨b, 0, none⟩ (.int .i64 y)) := by
  obtain ⟨g, cap, _, _, _, t, _⟩ := P.lows.at hk
  have T : Turn s (fun r => r = .lows) τ τ w (w.setCell ⟨b, 0, none⟩ (.int .i64 y)) := Turn.setCell (R := fun r => r = .lows) P.fresh (a := ⟨b, 0, none⟩) t rfl _
  exact ⟨⟨T.fresh, P.mine, P.head.turn P.mine T (fun h => by cases h), still_turn T (fun h => by cases h) P.ar, P.rows.turn T (fun h => by cases h) (fun h => by cases h), P.undo.turn T (fun h => by cases h) (fun h => by cases h), P.num.turn T (fun h => by cases h), P.of.turn T (fun h => by cases h) (fun k h => by cases h), P.wh.turn T (fun h => by cases h) (fun k h => by cases h), P.lows.set hk y⟩, T.mono fun r h => by subst h; intro h; cases h⟩

theorem Sound.cut {σ : St} (h : Sound σ) (n : Nat) : Sound (σ.cut n) := by
  refine ⟨fun r hr => h.fits r (List.mem_of_mem_take hr), h.once.sublist (List.take_sublist _ _), ?_, ?_, h.arity, h.preds, h.rise.sublist (List.take_sublist _ _), fun x hx => h.birth x (List.mem_of_mem_take hx)⟩
  · show (σ.bs.take n).length = (σ.rows.take n).length
    rw [List.length_take, List.length_take, h.born]
  · show (σ.rows.take n).length ≤ σ.births
    rw [List.length_take]
    have := h.many
    omega

theorem UndoPart.at {s sb : Nat} {τ : Own} {w : World} {v : Value} {rows : List Row} (h : UndoPart s sb τ w v rows) {i : Nat} {r : Row} (hr : rows[i]? = some r) :
    ∃ g cap u, v = .slice (some ⟨g, 0, none⟩) rows.length cap ∧ w.cell? ⟨g, i, none⟩ = some u ∧ UndoAt s sb τ w u i r := by
  obtain ⟨fs, ho, _, hc⟩ := h
  have hi := (List.getElem?_eq_some_iff.1 hr).1
  obtain ⟨u, hu, hU⟩ := hc i r hr
  rcases owns_form ho with ⟨e, h0, _⟩ | ⟨g, cap, e, _, _, _, _, _, hcell, _⟩
  · omega
  · exact ⟨g, cap, u, e, hcell _ _ hu, hU⟩
theorem UndoPart.form {s sb : Nat} {τ : Own} {w : World} {v : Value} {rows : List Row} (h : UndoPart s sb τ w v rows) : ∃ a cap, v = .slice a rows.length cap := by
  obtain ⟨fs, ho, _, _⟩ := h
  rcases owns_form ho with ⟨e, h0, _⟩ | ⟨g, cap, e, _⟩
  · exact ⟨none, 0, by rw [e, h0]⟩
  · exact ⟨_, cap, e⟩
theorem RowsPart.form {s : Nat} {τ : Own} {w : World} {v : Value} {rows : List Row} {bs : List Int} (h : RowsPart s τ w v rows bs) : ∃ a cap, v = .slice a rows.length cap := by
  obtain ⟨fs, ho, _, _⟩ := h
  rcases owns_form ho with ⟨e, h0, _⟩ | ⟨g, cap, e, _⟩
  · exact ⟨none, 0, by rw [e, h0]⟩
  · exact ⟨_, cap, e⟩
theorem LowsPart.form {s : Nat} {τ : Own} {w : World} {v : Value} {ls : List (Nat × Int)} (h : LowsPart s τ w v ls) : ∃ a cap, v = .slice a ls.length cap := by
  rcases owns_form h.1 with ⟨e, h0, _⟩ | ⟨g, cap, e, _⟩
  · exact ⟨none, 0, by rw [e, h0]⟩
  · exact ⟨_, cap, e⟩

end Go.Proofs.Ytkejjiohkhlnnaa
