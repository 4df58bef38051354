/-
  What a store's parts become when a row is put in: plain facts on worlds, no walk.
-/
import Derived.Test.YtkejjiohkhlnnaaSNum
namespace Go.Proofs.Ytkejjiohkhlnnaa
open Go.RowKit
open Go.Maps (Keyed)
open Classical

theorem heap_setCell {w : World} {g j : Nat} {cs : Array Value} {T : TypeId} {fr : Nat × Nat} (hg : w.heap[g]? = some (.cells cs T fr)) (v : Value) : (w.setCell ⟨g, j, none⟩ v).heap[g]? = some (.cells (cs.setIfInBounds j v) T fr) := by
  rw [setCell_eq_setRow w g j cs T fr v hg]
  exact setRow_heap w g cs _ T fr hg
theorem cell_setBlock {w : World} {b : Nat} {o : Obj} {a : Addr} (h : a.block ≠ b) : (ChangeMaps.setBlock w b o).cell? a = w.cell? a :=
  World.cell?_of_block (w := w) (by simp [ChangeMaps.setBlock, Array.getElem?_setIfInBounds_ne (Ne.symm h)])
theorem frozen_setBlock {w : World} {b : Nat} {o : Obj} {a : Addr} (h : a.block ≠ b) : (ChangeMaps.setBlock w b o).frozen? a = w.frozen? a :=
  World.frozen?_of_block (w := w) (by simp [ChangeMaps.setBlock, Array.getElem?_setIfInBounds_ne (Ne.symm h)])

theorem HeadIs.births {sb : Nat} {h : Hd} {na n : Nat} {w : World} (hh : HeadIs sb h na n w) (m : Nat) : HeadIs sb h na m (w.setCell ⟨sb, 6, none⟩ (.int .i64 (m : Int))) := by
  unfold HeadIs at *
  rw [heap_setCell hh]
  rfl
theorem HeadIs.setR {sb : Nat} {h : Hd} {na n : Nat} {w : World} (hh : HeadIs sb h na n w) (v : Value) : HeadIs sb { h with vR := v } na n (w.setCell ⟨sb, 1, none⟩ v) := by
  unfold HeadIs at *
  rw [heap_setCell hh]
  rfl
theorem HeadIs.setU {sb : Nat} {h : Hd} {na n : Nat} {w : World} (hh : HeadIs sb h na n w) (v : Value) : HeadIs sb { h with vU := v } na n (w.setCell ⟨sb, 2, none⟩ v) := by
  unfold HeadIs at *
  rw [heap_setCell hh]
  rfl

/-- the tags behind an append -/
theorem tag_grown {s : Nat} {r : Role} {τ : Own} {wA w2 : World} {v v' : Value} {B : Nat} {e : TypeId} {size n : Nat} {xs : List Value} (hown : w2.ownsRow B e size v' n xs) (hg : ∀ g, v.ownBlock = some g → τ g = some (s, r) ∧ g < wA.heap.size) (hb : v'.ownBlock = v.ownBlock ∨ v'.ownBlock = some wA.heap.size) :
    ∀ g, v'.ownBlock = some g → adopted s r wA.heap.size w2.heap.size τ g = some (s, r) := by
  intro g hgv
  have hlt := (hown.lt g hgv).2
  rcases hb with h | h
  · rw [h] at hgv
    obtain ⟨h1, h2⟩ := hg g hgv
    rw [adopted_out (by omega)]
    exact h1
  · rw [h] at hgv
    cases hgv
    exact adopted_in (Nat.le_refl _) hlt

theorem RowsPart.push {s : Nat} {τ τ2 : Own} {wA w2 : World} {v' : Value} {rows : List Row} {bs : List Int} {r : Row} {bt : Int} {a : Option Addr} {c : Nat} {cs : List Value} {R : Role → Prop} (hlen : bs.length = rows.length) (hcl : cs.length = rows.length * 3)
    (hc : ∀ i r bt, rows[i]? = some r → bs[i]? = some bt → cs[i * 3]? = some (.int .i64 r.1) ∧ (∃ a c, cs[i * 3 + 1]? = some (.slice a r.2.length c) ∧ IntsZ (Still s τ) wA a c r.2) ∧ cs[i * 3 + 2]? = some (.int .i64 bt))
    (hi : IntsZ (Still s τ) wA a c r.2) (ht : Turn s R τ τ2 wA w2) (hR : ¬ R .still) (hown : w2.ownsRow 0 123 3 v' (rows.length + 1) (cs ++ [.int .i64 r.1, .slice a r.2.length c, .int .i64 bt])) (hg : ∀ g, v'.ownBlock = some g → τ2 g = some (s, .rows)) :
    RowsPart s τ2 w2 v' (rows ++ [r]) (bs ++ [bt]) := by
  refine ⟨_, by rw [List.length_append, List.length_singleton]; exact hown, hg, fun i r1 bt1 hr hb => ?_⟩
  by_cases hlt : i < rows.length
  · rw [List.getElem?_append_left hlt] at hr
    rw [List.getElem?_append_left (by omega)] at hb
    obtain ⟨c1, ⟨a1, ca1, c2, hI⟩, c3⟩ := hc i r1 bt1 hr hb
    refine ⟨by rw [List.getElem?_append_left (by omega)]; exact c1, ⟨a1, ca1, by rw [List.getElem?_append_left (by omega)]; exact c2, still_turn ht hR hI⟩, by rw [List.getElem?_append_left (by omega)]; exact c3⟩
  · have hi' : i < rows.length + 1 := by
      have := (List.getElem?_eq_some_iff.1 hr).1
      simpa using this
    have he : i = rows.length := by omega
    subst he
    rw [List.getElem?_append_right (Nat.le_refl _)] at hr
    rw [← hlen, List.getElem?_append_right (Nat.le_refl _)] at hb
    simp at hr hb
    subst hr
    subst hb
    refine ⟨?_, ⟨a, c, ?_, still_turn ht hR hi⟩, ?_⟩
    · rw [List.getElem?_append_right (by omega)]
      have : rows.length * 3 - cs.length = 0 := by omega
      rw [this]; rfl
    · rw [List.getElem?_append_right (by omega)]
      have : rows.length * 3 + 1 - cs.length = 1 := by omega
      rw [this]; rfl
    · rw [List.getElem?_append_right (by omega)]
      have : rows.length * 3 + 2 - cs.length = 2 := by omega
      rw [this]; rfl

theorem UndoPart.push {s sb : Nat} {τ τ2 : Own} {wA w2 : World} {v' u : Value} {rows : List Row} {r : Row} {fs : List Value} {R : Role → Prop} (hfl : fs.length = rows.length) (hc : ∀ i r, rows[i]? = some r → ∃ u, fs[i]? = some u ∧ UndoAt s sb τ wA u i r) (hu : UndoAt s sb τ wA u rows.length r)
    (ht : Turn s R τ τ2 wA w2) (hR : ¬ R .still) (hown : w2.ownsRow 0 1 1 v' (rows.length + 1) (fs ++ [u])) (hg : ∀ g, v'.ownBlock = some g → τ2 g = some (s, .undo)) : UndoPart s sb τ2 w2 v' (rows ++ [r]) := by
  refine ⟨_, by rw [List.length_append, List.length_singleton]; exact hown, hg, fun i r1 hr => ?_⟩
  by_cases hlt : i < rows.length
  · rw [List.getElem?_append_left hlt] at hr
    obtain ⟨u1, h1, h2⟩ := hc i r1 hr
    exact ⟨u1, by rw [List.getElem?_append_left (by omega)]; exact h1, h2.turn ht hR⟩
  · have hi' : i < rows.length + 1 := by
      have := (List.getElem?_eq_some_iff.1 hr).1
      simpa using this
    have he : i = rows.length := by omega
    subst he
    rw [List.getElem?_append_right (Nat.le_refl _)] at hr
    simp at hr
    subst hr
    exact ⟨u, by rw [List.getElem?_append_right (by omega), hfl]; simp, hu.turn ht hR⟩

theorem NumPart.push {s : Nat} {τ : Own} {w : World} {b m : Nat} {rows : List Row} {ar : List Int} {r : Row} (h : NumPart s τ w b m rows) (hf : ∀ r ∈ rows, FitsRow ar r) (hr : FitsRow ar r) (hp : ar.length ≤ 128) (hno : r ∉ rows) :
    ∃ es clock, (Instr.mapUpdate 104 (.map (some b)) (keyV r) (.int .i64 (rows.length : Int))).run Try.prog w = .ok () (ChangeMaps.setBlock w b (.map es clock)) ∧ NumPart s τ (ChangeMaps.setBlock w b (.map es clock)) b (m + 1) (rows ++ [r]) := by
  obtain ⟨hb, f, hm, h2, h3⟩ := h
  obtain ⟨l, hl⟩ := keyV_key hr hp
  obtain ⟨es, clock, hrun, hm'⟩ := hm.update rowLaw Try.underlying104 hl (.int .i64 (rows.length : Int))
  refine ⟨es, clock, hrun, hb, _, hm', fun i r1 h1 => ?_, fun key v hv => ?_⟩
  · by_cases hlt : i < rows.length
    · rw [List.getElem?_append_left hlt] at h1
      rw [upd_ne _ _ (fun e => hno (keyV_inj (hf r1 (List.mem_of_getElem? h1)) hr e ▸ List.mem_of_getElem? h1))]
      exact h2 i r1 h1
    · have hi' : i < rows.length + 1 := by
        have := (List.getElem?_eq_some_iff.1 h1).1
        simpa using this
      have he : i = rows.length := by omega
      subst he
      rw [List.getElem?_append_right (Nat.le_refl _)] at h1
      simp at h1
      subst h1
      exact upd_same _ _ _
  · unfold upd at hv
    split at hv
    · rename_i hk
      exact ⟨r, by simp, hk⟩
    · obtain ⟨r1, h1, h2⟩ := h3 key v hv
      exact ⟨r1, by simp [h1], h2⟩

/-- L, but n behind the list at the key -/
noncomputable def updL (L : Value → List Int) (key : Value) (n : Int) : Value → List Int := fun k => if k = key then L k ++ [n] else L k

theorem ListsPart.at {s : Nat} {τ : Own} {w : World} {K t : TypeId} {b m : Nat} {role : Role} {tag : Value → Role} {L : Value → List Int} (h : ListsPart s τ w K b m role tag L) (htag : ∀ k k', tag k = tag k' → k = k') (hrole : ∀ k, tag k ≠ role) (Kd : Keyed Try.prog K) (ht : Try.prog.underlying t = some (.map K 22)) (key : Value) (hk : ∃ l, keyOf Try.prog K key = some l) (n : Int) :
    ∃ v0, w.ownsRow 0 3 1 v0 (L key).length ((L key).map (Value.int .i64)) ∧ (∀ g, v0.ownBlock = some g → τ g = some (s, tag key)) ∧
      (∀ W : World, W.heap[b]? = w.heap[b]? → (Instr.lookup t (.map (some b)) key false).run Try.prog W = .ok v0 W) ∧
      ∀ (τ2 : Own) (W : World) (v' : Value), Turn s (fun r => r = tag key) τ τ2 w W → W.ownsRow 0 3 1 v' ((L key).length + 1) ((L key).map (Value.int .i64) ++ [.int .i64 n]) → (∀ g, v'.ownBlock = some g → τ2 g = some (s, tag key)) →
        ∃ es clock, (Instr.mapUpdate t (.map (some b)) key v').run Try.prog W = .ok () (ChangeMaps.setBlock W b (.map es clock)) ∧ ListsPart s τ2 (ChangeMaps.setBlock W b (.map es clock)) K b (m + 1) role tag (updL L key n) := by
  obtain ⟨hb, f, hm, h3, h4⟩ := h
  obtain ⟨l, hl⟩ := hk
  have hv0 : w.ownsRow 0 3 1 ((f key).getD (.slice none 0 0)) (L key).length ((L key).map (Value.int .i64)) ∧ ∀ g, ((f key).getD (.slice none 0 0)).ownBlock = some g → τ g = some (s, tag key) := by
    cases hf : f key with
    | none =>
      rw [h3 key hf ⟨l, hl⟩]
      exact ⟨World.ownsRow_nil _ _ _ _, fun g e => by cases e⟩
    | some v => exact h4 key v hf
  refine ⟨_, hv0.1, hv0.2, fun W hW => (hm.kept hW).look Kd ht (zeroInts W) hl false, fun τ2 W v' hT hown hg => ?_⟩
  have hbk : W.heap[b]? = w.heap[b]? := hT.keep b hm.lt (fun r e er => by rw [hb] at e; cases e; exact hrole key er.symm)
  obtain ⟨es, clock, hrun, hm'⟩ := (hm.kept hbk).update Kd ht hl v'
  have hb2 : τ2 b = some (s, role) := (hT.own b hm.lt).trans hb
  refine ⟨es, clock, hrun, hb2, _, hm', fun k hk hkl => ?_, fun k v hv => ?_⟩
  · unfold upd at hk
    split at hk
    · cases hk
    · rename_i hne
      unfold updL
      rw [if_neg hne]
      exact h3 k hk hkl
  · have hset : ∀ {v : Value} {n : Nat} {xs : List Value}, W.ownsRow 0 3 1 v n xs → (∀ g, v.ownBlock = some g → g ≠ b) → (ChangeMaps.setBlock W b (.map es clock)).ownsRow 0 3 1 v n xs := fun h hne => owns_block h (fun g e => by simp [ChangeMaps.setBlock, Array.getElem?_setIfInBounds_ne (Ne.symm (hne g e))])
    unfold upd at hv
    split at hv
    · rename_i hk
      cases hv
      subst hk
      unfold updL
      rw [if_pos rfl]
      refine ⟨hset (by simpa using hown) (fun g e eb => ?_), hg⟩
      rw [eb] at e
      have := hg b e
      rw [hb2] at this
      simp at this
      exact hrole k this.symm
    · rename_i hne
      unfold updL
      rw [if_neg hne]
      obtain ⟨ho, ht2⟩ := h4 k v hv
      have hne' : ∀ g, v.ownBlock = some g → g ≠ b := fun g e eb => by
        rw [eb] at e
        have := ht2 b e
        rw [hb] at this
        simp at this
        exact hrole k this.symm
      refine ⟨hset (owns_block ho (fun g e => hT.keep g (ho.lt g e).2 (fun r er hr => ?_))) hne', fun g e => (hT.own g (ho.lt g e).2).trans (ht2 g e)⟩
      rw [ht2 g e] at er
      simp at er
      exact hne (htag _ _ (er.trans hr))

theorem ListsPart.entry {s : Nat} {τ : Own} {w : World} {K t : TypeId} {b m : Nat} {role : Role} {tag : Value → Role} {L : Value → List Int} (h : ListsPart s τ w K b m role tag L) (hm2 : m ≤ maxLen) (htag : ∀ k k', tag k = tag k' → k = k') (hrole : ∀ k, tag k ≠ role) (Kd : WideMaps.KeyLaw Try.prog K) (ht : Try.prog.underlying t = some (.map K 22)) (key : Value) (hk : ∃ l, keyOf Try.prog K key = some l) (n : Int) :
    ∃ v0, w.ownsRow 0 3 1 v0 (L key).length ((L key).map (Value.int .i64)) ∧ (∀ g, v0.ownBlock = some g → τ g = some (s, tag key)) ∧ τ b = some (s, role) ∧
      ∀ W : World, W.heap[b]? = w.heap[b]? → ∃ st es1 clock1, (Instr.mapEntry t (.map (some b)) key).run Try.prog W = .ok (.tuple #[v0, goInt (st : Nat)]) (ChangeMaps.setBlock W b (.map es1 clock1)) ∧
        ∀ (τ2 : Own) (W2 : World) (v' : Value), Turn s (fun r => r = tag key ∨ r = role) τ τ2 w W2 → W2.heap[b]? = some (.map es1 clock1) → W2.ownsRow 0 3 1 v' ((L key).length + 1) ((L key).map (Value.int .i64) ++ [.int .i64 n]) → (∀ g, v'.ownBlock = some g → τ2 g = some (s, tag key)) →
          ∃ es clock, (Instr.entryStore t (.map (some b)) (goInt (st : Nat)) v').run Try.prog W2 = .ok () (ChangeMaps.setBlock W2 b (.map es clock)) ∧ ListsPart s τ2 (ChangeMaps.setBlock W2 b (.map es clock)) K b (m + 1) role tag (updL L key n) := by
  obtain ⟨hb, f, hm, h3, h4⟩ := h
  obtain ⟨l, hl⟩ := hk
  have hv0 : w.ownsRow 0 3 1 ((f key).getD (.slice none 0 0)) (L key).length ((L key).map (Value.int .i64)) ∧ ∀ g, ((f key).getD (.slice none 0 0)).ownBlock = some g → τ g = some (s, tag key) := by
    cases hf : f key with
    | none =>
      rw [h3 key hf ⟨l, hl⟩]
      exact ⟨World.ownsRow_nil _ _ _ _, fun g e => by cases e⟩
    | some v => exact h4 key v hf
  refine ⟨_, hv0.1, hv0.2, hb, fun W hW => ?_⟩
  obtain ⟨st, es1, clock1, hrun, hlater⟩ := (hm.kept hW).entry hm2 Kd ht zeroInts hl
  refine ⟨st, es1, clock1, hrun, fun τ2 W2 v' hT hbk hown hg => ?_⟩
  obtain ⟨es, clock, hrun2, hm'⟩ := hlater W2 v' hbk
  have hb2 : τ2 b = some (s, role) := (hT.own b hm.lt).trans hb
  refine ⟨es, clock, hrun2, hb2, _, hm', fun k hk hkl => ?_, fun k v hv => ?_⟩
  · unfold upd at hk
    split at hk
    · cases hk
    · rename_i hne
      unfold updL
      rw [if_neg hne]
      exact h3 k hk hkl
  · have hset : ∀ {v : Value} {n : Nat} {xs : List Value}, W2.ownsRow 0 3 1 v n xs → (∀ g, v.ownBlock = some g → g ≠ b) → (ChangeMaps.setBlock W2 b (.map es clock)).ownsRow 0 3 1 v n xs := fun h hne => owns_block h (fun g e => by simp [ChangeMaps.setBlock, Array.getElem?_setIfInBounds_ne (Ne.symm (hne g e))])
    unfold upd at hv
    split at hv
    · rename_i hk
      cases hv
      subst hk
      unfold updL
      rw [if_pos rfl]
      refine ⟨hset (by simpa using hown) (fun g e eb => ?_), hg⟩
      rw [eb] at e
      have := hg b e
      rw [hb2] at this
      simp at this
      exact hrole k this.symm
    · rename_i hne
      unfold updL
      rw [if_neg hne]
      obtain ⟨ho, ht2⟩ := h4 k v hv
      have hne' : ∀ g, v.ownBlock = some g → g ≠ b := fun g e eb => by
        rw [eb] at e
        have := ht2 b e
        rw [hb] at this
        simp at this
        exact hrole k this.symm
      refine ⟨hset (owns_block ho (fun g e => hT.keep g (ho.lt g e).2 (fun r er hr => ?_))) hne', fun g e => (hT.own g (ho.lt g e).2).trans (ht2 g e)⟩
      rw [ht2 g e] at er
      simp at er
      rcases hr with hr | hr
      · exact hne (htag _ _ (er.trans hr))
      · exact hrole k (er.trans hr)

theorem ofK_snoc (rows : List Row) (r : Row) : ofK (rows ++ [r]) = updL (ofK rows) (.int .i64 r.1) (rows.length : Int) := by
  funext key
  unfold ofK updL
  rw [idxL_snoc]
  split <;> simp_all
/-- the lists by places while the row r is put in: k places are done -/
noncomputable def whMid (rows : List Row) (r : Row) : Nat → Value → List Int
  | 0 => whK rows
  | k + 1 => match r.2[k]? with
    | some x => updL (whMid rows r k) (placeV r.1 k x) (rows.length : Int)
    | none => whMid rows r k
theorem whMid_eq (rows : List Row) (r : Row) (k : Nat) (key : Value) : whMid rows r k key = whK rows key ++ if ∃ (j : Nat) (x : Int), j < k ∧ r.2[j]? = some x ∧ key = placeV r.1 j x then [(rows.length : Int)] else [] := by
  induction k with
  | zero => simp [whMid]
  | succ k ih =>
    unfold whMid
    cases hx : r.2[k]? with
    | none =>
      simp only
      rw [ih]
      congr 2
      apply propext
      constructor
      · rintro ⟨j, x, h1, h2⟩; exact ⟨j, x, by omega, h2⟩
      · rintro ⟨j, x, h1, h2, h3⟩
        refine ⟨j, x, ?_, h2, h3⟩
        rcases Nat.lt_or_ge j k with h | h
        · exact h
        · have : j = k := by omega
          subst this
          rw [hx] at h2; cases h2
    | some x =>
      simp only [updL]
      split
      · rename_i hk
        rw [ih, if_neg, if_pos ⟨k, x, by omega, hx, hk⟩]
        · simp
        · rintro ⟨j, y, h1, h2, h3⟩
          rw [hk] at h3
          simp [placeV] at h3
          omega
      · rename_i hk
        rw [ih]
        congr 2
        apply propext
        constructor
        · rintro ⟨j, x, h1, h2⟩; exact ⟨j, x, by omega, h2⟩
        · rintro ⟨j, y, h1, h2, h3⟩
          refine ⟨j, y, ?_, h2, h3⟩
          rcases Nat.lt_or_ge j k with h | h
          · exact h
          · have : j = k := by omega
            subst this
            rw [hx] at h2; cases h2
            exact absurd h3 hk
theorem whK_snoc (rows : List Row) (r : Row) : whK (rows ++ [r]) = whMid rows r r.2.length := by
  funext key
  rw [whMid_eq]
  unfold whK
  rw [idxL_snoc]
  congr 2
  apply propext
  constructor
  · rintro ⟨j, x, h1, h2⟩; exact ⟨j, x, (List.getElem?_eq_some_iff.1 h1).1, h1, h2⟩
  · rintro ⟨j, x, _, h1, h2⟩; exact ⟨j, x, h1, h2⟩
end Go.Proofs.Ytkejjiohkhlnnaa
