/-
  A store as a world holds it: which block is whose, what the parts say, and that a part stays while other parts turn.
-/
import Derived.Test.YtkejjiohkhlnnaaSShape
import Derived.Test.YtkejjiohkhlnnaaMap
namespace Go.Proofs.Ytkejjiohkhlnnaa
open Go.RowKit
open Go.Maps (Keyed)
open Classical

inductive Role | head | rows | undo | num | of | wh | lows | ofv (key : Value) | whv (key : Value) | still
/-- whose a block is -/
abbrev Own := Nat → Option (Nat × Role)
def Still (s : Nat) (τ : Own) : Nat → Prop := fun j => τ j = some (s, .still)
def Fresh (τ : Own) (w : World) : Prop := ∀ j, w.heap.size ≤ j → τ j = none

/-- of the store s the parts R turn, all else stays; what is new may be its -/
structure Turn (s : Nat) (R : Role → Prop) (τ τ' : Own) (w w' : World) : Prop where
  os : w'.os = w.os
  tape : w'.tape = w.tape
  output : w'.output = w.output
  size : w.heap.size ≤ w'.heap.size
  keep : ∀ j, j < w.heap.size → (∀ r, τ j = some (s, r) → ¬ R r) → w'.heap[j]? = w.heap[j]?
  own : ∀ j, j < w.heap.size → τ' j = τ j
  new : ∀ j, w.heap.size ≤ j → ∀ s' r, τ' j = some (s', r) → s' = s
  fresh : Fresh τ' w'

theorem Turn.refl {s : Nat} {R : Role → Prop} {τ : Own} {w : World} (h : Fresh τ w) : Turn s R τ τ w w :=
  ⟨rfl, rfl, rfl, Nat.le_refl _, fun _ _ _ => rfl, fun _ _ => rfl, fun j hj s' r e => (by rw [h j hj] at e; cases e), h⟩
theorem Turn.trans {s : Nat} {R : Role → Prop} {τ τ1 τ2 : Own} {w w1 w2 : World} (h : Turn s R τ τ1 w w1) (k : Turn s R τ1 τ2 w1 w2) : Turn s R τ τ2 w w2 := by
  refine ⟨k.os.trans h.os, k.tape.trans h.tape, k.output.trans h.output, Nat.le_trans h.size k.size, fun j hj hr => ?_, fun j hj => ?_, fun j hj s' r e => ?_, k.fresh⟩
  · have hj1 := Nat.lt_of_lt_of_le hj h.size
    rw [k.keep j hj1 (fun r e => hr r (by rw [← h.own j hj]; exact e)), h.keep j hj hr]
  · rw [k.own j (Nat.lt_of_lt_of_le hj h.size), h.own j hj]
  · by_cases hj1 : j < w1.heap.size
    · rw [k.own j hj1] at e; exact h.new j hj s' r e
    · exact k.new j (by omega) s' r e
theorem Turn.mono {s : Nat} {R R' : Role → Prop} {τ τ' : Own} {w w' : World} (h : Turn s R τ τ' w w') (hr : ∀ r, R r → R' r) : Turn s R' τ τ' w w' :=
  ⟨h.os, h.tape, h.output, h.size, fun j hj hn => h.keep j hj (fun r e hR => hn r e (hr r hR)), h.own, h.new, h.fresh⟩
theorem Turn.of_below {s : Nat} {R : Role → Prop} {τ : Own} {w w' : World} (h : Below w.heap.size w w') (hf : Fresh τ w) : Turn s R τ τ w w' :=
  ⟨h.os, h.tape, h.output, h.size, fun j hj _ => h.block j hj, fun _ _ => rfl, fun j hj s' r e => (by rw [hf j hj] at e; cases e), fun j hj => hf j (Nat.le_trans h.size hj)⟩

/-- the blocks lo .. hi - 1 become the role r of s -/
def adopted (s : Nat) (r : Role) (lo hi : Nat) (τ : Own) : Own := fun j => if lo ≤ j ∧ j < hi then some (s, r) else τ j
theorem adopted_in {s : Nat} {r : Role} {lo hi : Nat} {τ : Own} {j : Nat} (h1 : lo ≤ j) (h2 : j < hi) : adopted s r lo hi τ j = some (s, r) := by simp [adopted, h1, h2]
theorem adopted_out {s : Nat} {r : Role} {lo hi : Nat} {τ : Own} {j : Nat} (h : ¬ (lo ≤ j ∧ j < hi)) : adopted s r lo hi τ j = τ j := by simp [adopted, h]
/-- what was made meanwhile is adopted -/
theorem Turn.adopt {s : Nat} {R : Role → Prop} {τ τ' : Own} {w w' : World} (h : Turn s R τ τ' w w') (r : Role) {lo : Nat} (hlo : w.heap.size ≤ lo) : Turn s R τ (adopted s r lo w'.heap.size τ') w w' :=
  ⟨h.os, h.tape, h.output, h.size, h.keep, fun j hj => by rw [adopted_out (by omega)]; exact h.own j hj, fun j hj s' r' e => by
    unfold adopted at e
    split at e
    · cases e; rfl
    · exact h.new j hj s' r' e, fun j hj => by rw [adopted_out (by omega)]; exact h.fresh j hj⟩
theorem Turn.cell {s : Nat} {R : Role → Prop} {τ τ' : Own} {w w' : World} (h : Turn s R τ τ' w w') {a : Addr} {v : Value} (hc : w.cell? a = some v) (hn : ∀ r, τ a.block = some (s, r) → ¬ R r) : w'.cell? a = some v :=
  (World.cell?_of_block (w := w) (h.keep a.block (World.block_lt_of_cell? _ _ hc) hn)).trans hc
/-- a grown row of role r -/
theorem Turn.grown {s : Nat} {R : Role → Prop} {τ : Own} {w w' : World} {row : Option Nat} (hg : w.grownBy w' row) (hf : Fresh τ w) (r : Role) (hR : R r) (hrow : ∀ g, row = some g → τ g = some (s, r)) : Turn s R τ (adopted s r w.heap.size w'.heap.size τ) w w' := by
  refine ⟨hg.os, hg.tape, hg.output, hg.size, fun j hj hn => hg.block j hj (fun e => ?_), fun j hj => adopted_out (by omega), fun j hj s' r' e => ?_, fun j hj => ?_⟩
  · exact hn r (hrow j e.symm) hR
  · unfold adopted at e
    split at e
    · cases e; rfl
    · rw [hf j hj] at e; cases e
  · rw [adopted_out (by omega)]
    exact hf j (Nat.le_trans hg.size hj)
theorem Turn.setCell {s : Nat} {R : Role → Prop} {τ : Own} {w : World} (hf : Fresh τ w) {a : Addr} {r : Role} (ha : τ a.block = some (s, r)) (hR : R r) (u : Value) : Turn s R τ τ w (w.setCell a u) := by
  have hs : (w.setCell a u).heap.size = w.heap.size := by simp
  have hb := (Below.refl 0 w).setCell (p := a) (Nat.zero_le _) u
  refine ⟨hb.os, hb.tape, hb.output, by rw [hs]; exact Nat.le_refl _, fun j _ hn => Below.heap_setCell w a u j (fun e => ?_), fun _ _ => rfl, fun j hj s' r' e => (by rw [hf j hj] at e; cases e), fun j hj => hf j (by rw [hs] at hj; exact hj)⟩
  subst e
  exact hn r ha hR
theorem Turn.setMap {s : Nat} {R : Role → Prop} {τ : Own} {w : World} (hf : Fresh τ w) {b : Nat} {r : Role} (ha : τ b = some (s, r)) (hR : R r) (o : Obj) : Turn s R τ τ w (ChangeMaps.setBlock w b o) := by
  refine ⟨rfl, rfl, rfl, by simp [ChangeMaps.setBlock], fun j _ hn => ?_, fun _ _ => rfl, fun j hj s' r' e => (by rw [hf j hj] at e; cases e), fun j hj => hf j (by simpa [ChangeMaps.setBlock] using hj)⟩
  have hne : b ≠ j := by
    rintro rfl
    exact hn r ha hR
  simp [ChangeMaps.setBlock, Array.getElem?_setIfInBounds_ne hne]

theorem still_turn {s : Nat} {R : Role → Prop} {τ τ' : Own} {w w' : World} (ht : Turn s R τ τ' w w') (h : ¬ R .still) {a : Option Addr} {c : Nat} {xs : List Int} (hi : IntsZ (Still s τ) w a c xs) : IntsZ (Still s τ') w' a c xs :=
  hi.keep (fun j hj hz => ht.keep j hj (fun r e => by rw [show τ j = some (s, .still) from hz] at e; cases e; exact h)) (fun j hj hz => (ht.own j hj).trans hz)
/-- what is nobody's of s stays, whatever turns in s -/
theorem free_turn {s : Nat} {R : Role → Prop} {τ τ' : Own} {w w' : World} (ht : Turn s R τ τ' w w') {a : Option Addr} {c : Nat} {xs : List Int} (hi : IntsZ (fun j => τ j = none) w a c xs) : IntsZ (fun j => τ' j = none) w' a c xs :=
  hi.keep (fun j hj hz => ht.keep j hj (fun r e => by rw [hz] at e; cases e)) (fun j hj hz => (ht.own j hj).trans hz)
theorem freeRows_turn {s : Nat} {R : Role → Prop} {τ τ' : Own} {w w' : World} (ht : Turn s R τ τ' w w') {a : Option Addr} {c : Nat} {l : List Row} (hi : RowsZ (fun j => τ j = none) w a c l) : RowsZ (fun j => τ' j = none) w' a c l :=
  hi.keep (fun j hj hz => ht.keep j hj (fun r e => by rw [hz] at e; cases e)) (fun j hj hz => (ht.own j hj).trans hz)

theorem owns_block {w w' : World} {base size n : Nat} {e : TypeId} {v : Value} {xs : List Value} (h : w.ownsRow base e size v n xs) (hk : ∀ g, v.ownBlock = some g → w'.heap[g]? = w.heap[g]?) : w'.ownsRow base e size v n xs := by
  rcases h with ⟨h1, h2 | ⟨g, cap, cur, rfl, h4, h5, h6⟩⟩
  · exact ⟨h1, .inl h2⟩
  · exact ⟨h1, .inr ⟨g, cap, cur, rfl, h4, (hk g rfl).trans h5, h6⟩⟩

/-! ### the parts -/

/-- the nine numbers of a row's key -/
def keyI (r : Row) : List Int := (r.1 :: r.2) ++ List.replicate (8 - r.2.length) 0
def keyV (r : Row) : Value := .agg ((keyI r).map (Value.int .i64)).toArray
def placeV (p i x : Int) : Value := .agg #[.int .i64 p, .int .i64 i, .int .i64 x]
/-- the numbers of the rows that q tells -/
noncomputable def idxL (q : Row → Prop) (rows : List Row) : List Int := rows.zipIdx.filterMap fun x => if q x.1 then some (x.2 : Int) else none
theorem idxL_snoc (q : Row → Prop) (rows : List Row) (r : Row) : idxL q (rows ++ [r]) = idxL q rows ++ if q r then [(rows.length : Int)] else [] := by
  unfold idxL
  rw [List.zipIdx_append, List.filterMap_append]
  simp only [List.zipIdx_cons, List.zipIdx_nil, List.filterMap_cons, List.filterMap_nil, Nat.zero_add]
  split <;> simp_all
theorem idxL_length (q : Row → Prop) (rows : List Row) : (idxL q rows).length ≤ rows.length := by
  unfold idxL
  exact Nat.le_trans (List.length_filterMap_le _ _) (by simp)
noncomputable def ofK (rows : List Row) (key : Value) : List Int := idxL (fun r => key = .int .i64 r.1) rows
noncomputable def whK (rows : List Row) (key : Value) : List Int := idxL (fun r => ∃ (j : Nat) (x : Int), r.2[j]? = some x ∧ key = placeV r.1 j x) rows

def RowsPart (s : Nat) (τ : Own) (w : World) (v : Value) (rows : List Row) (bs : List Int) : Prop :=
  ∃ cs, w.ownsRow 0 123 3 v rows.length cs ∧ (∀ g, v.ownBlock = some g → τ g = some (s, .rows)) ∧
    ∀ i r bt, rows[i]? = some r → bs[i]? = some bt → cs[i * 3]? = some (.int .i64 r.1) ∧ (∃ a c, cs[i * 3 + 1]? = some (.slice a r.2.length c) ∧ IntsZ (Still s τ) w a c r.2) ∧ cs[i * 3 + 2]? = some (.int .i64 bt)
theorem RowsPart.turn {s : Nat} {R : Role → Prop} {τ τ' : Own} {w w' : World} {v : Value} {rows : List Row} {bs : List Int} (h : RowsPart s τ w v rows bs) (ht : Turn s R τ τ' w w') (h1 : ¬ R .rows) (h2 : ¬ R .still) : RowsPart s τ' w' v rows bs := by
  obtain ⟨cs, ho, hg, hc⟩ := h
  refine ⟨cs, owns_block ho (fun g e => ht.keep g (ho.lt g e).2 (fun r er => by rw [hg g e] at er; cases er; exact h1)), fun g e => (ht.own g (ho.lt g e).2).trans (hg g e), fun i r bt hr hb => ?_⟩
  obtain ⟨c1, ⟨a, c, c2, hi⟩, c3⟩ := hc i r bt hr hb
  exact ⟨c1, ⟨a, c, c2, still_turn ht h2 hi⟩, c3⟩

/-- the function that takes row number i out again -/
def UndoAt (s sb : Nat) (τ : Own) (w : World) (u : Value) (i : Nat) (r : Row) : Prop :=
  ∃ b1 b2 b3 b4 a c, u = .func (.func 76) #[] #[.pointer (some ⟨b1, 0, none⟩), .pointer (some ⟨b2, 0, none⟩), .pointer (some ⟨b3, 0, none⟩), .pointer (some ⟨b4, 0, none⟩)] ∧
    (Still s τ b1 ∧ Still s τ b2 ∧ Still s τ b3 ∧ Still s τ b4) ∧ w.cell? ⟨b1, 0, none⟩ = some (.pointer (some ⟨sb, 0, none⟩)) ∧ (∀ j x, (keyI r)[j]? = some x → w.cell? ⟨b2, j, none⟩ = some (.int .i64 x)) ∧
    w.cell? ⟨b3, 0, none⟩ = some (.int .i64 r.1) ∧ w.cell? ⟨b3, 1, none⟩ = some (.slice a r.2.length c) ∧ IntsZ (Still s τ) w a c r.2 ∧ w.cell? ⟨b4, 0, none⟩ = some (.int .i64 i)
theorem UndoAt.turn {s sb : Nat} {R : Role → Prop} {τ τ' : Own} {w w' : World} {u : Value} {i : Nat} {r : Row} (h : UndoAt s sb τ w u i r) (ht : Turn s R τ τ' w w') (h2 : ¬ R .still) : UndoAt s sb τ' w' u i r := by
  obtain ⟨b1, b2, b3, b4, a, c, hu, ⟨t1, t2, t3, t4⟩, c1, c2, c3, c4, hi, c5⟩ := h
  have st : ∀ {b : Nat} {o : Nat} {v : Value}, Still s τ b → w.cell? ⟨b, o, none⟩ = some v → w'.cell? ⟨b, o, none⟩ = some v := fun {b o v} hb hc => ht.cell hc (fun r e => by rw [show τ b = some (s, .still) from hb] at e; cases e; exact h2)
  have so : ∀ {b : Nat} {o : Nat} {v : Value}, Still s τ b → w.cell? ⟨b, o, none⟩ = some v → Still s τ' b := fun {b o v} hb hc => (ht.own b (World.block_lt_of_cell? _ _ hc)).trans hb
  have h0 : (keyI r)[0]? = some r.1 := by simp [keyI]
  exact ⟨b1, b2, b3, b4, a, c, hu, ⟨so t1 c1, so t2 (c2 0 _ h0), so t3 c3, so t4 c5⟩, st t1 c1, fun j x hx => st t2 (c2 j x hx), st t3 c3, st t3 c4, still_turn ht h2 hi, st t4 c5⟩

def UndoPart (s sb : Nat) (τ : Own) (w : World) (v : Value) (rows : List Row) : Prop :=
  ∃ fs, w.ownsRow 0 1 1 v rows.length fs ∧ (∀ g, v.ownBlock = some g → τ g = some (s, .undo)) ∧ ∀ i r, rows[i]? = some r → ∃ u, fs[i]? = some u ∧ UndoAt s sb τ w u i r
theorem UndoPart.turn {s sb : Nat} {R : Role → Prop} {τ τ' : Own} {w w' : World} {v : Value} {rows : List Row} (h : UndoPart s sb τ w v rows) (ht : Turn s R τ τ' w w') (h1 : ¬ R .undo) (h2 : ¬ R .still) : UndoPart s sb τ' w' v rows := by
  obtain ⟨fs, ho, hg, hc⟩ := h
  refine ⟨fs, owns_block ho (fun g e => ht.keep g (ho.lt g e).2 (fun r er => by rw [hg g e] at er; cases er; exact h1)), fun g e => (ht.own g (ho.lt g e).2).trans (hg g e), fun i r hr => ?_⟩
  obtain ⟨u, hu, hU⟩ := hc i r hr
  exact ⟨u, hu, hU.turn ht h2⟩

def NumPart (s : Nat) (τ : Own) (w : World) (b m : Nat) (rows : List Row) : Prop :=
  τ b = some (s, .num) ∧ ∃ f, MapIs Try.prog 111 w b m f ∧ (∀ (i : Nat) r, rows[i]? = some r → f (keyV r) = some (.int .i64 (i : Int))) ∧ ∀ key v, f key = some v → ∃ r ∈ rows, key = keyV r
theorem NumPart.turn {s : Nat} {R : Role → Prop} {τ τ' : Own} {w w' : World} {b m : Nat} {rows : List Row} (h : NumPart s τ w b m rows) (ht : Turn s R τ τ' w w') (h1 : ¬ R .num) : NumPart s τ' w' b m rows := by
  obtain ⟨hb, f, hm, h2⟩ := h
  exact ⟨(ht.own b hm.lt).trans hb, f, hm.kept (ht.keep b hm.lt (fun r e => by rw [hb] at e; cases e; exact h1)), h2⟩

/-- a map from keys to lists of numbers -/
def ListsPart (s : Nat) (τ : Own) (w : World) (K : TypeId) (b m : Nat) (role : Role) (tag : Value → Role) (L : Value → List Int) : Prop :=
  τ b = some (s, role) ∧ ∃ f, MapIs Try.prog K w b m f ∧ (∀ key, f key = none → (∃ l, keyOf Try.prog K key = some l) → L key = []) ∧
    ∀ key v, f key = some v → w.ownsRow 0 3 1 v (L key).length ((L key).map (Value.int .i64)) ∧ ∀ g, v.ownBlock = some g → τ g = some (s, tag key)
theorem ListsPart.turn {s : Nat} {R : Role → Prop} {τ τ' : Own} {w w' : World} {K : TypeId} {b m : Nat} {role : Role} {tag : Value → Role} {L : Value → List Int} (h : ListsPart s τ w K b m role tag L) (ht : Turn s R τ τ' w w') (h1 : ¬ R role) (h2 : ∀ key, ¬ R (tag key)) : ListsPart s τ' w' K b m role tag L := by
  obtain ⟨hb, f, hm, h3, h4⟩ := h
  refine ⟨(ht.own b hm.lt).trans hb, f, hm.kept (ht.keep b hm.lt (fun r e => by rw [hb] at e; cases e; exact h1)), h3, fun key v hv => ?_⟩
  obtain ⟨ho, hg⟩ := h4 key v hv
  exact ⟨owns_block ho (fun g e => ht.keep g (ho.lt g e).2 (fun r er => by rw [hg g e] at er; cases er; exact h2 key)), fun g e => (ht.own g (ho.lt g e).2).trans (hg g e)⟩

/-- the values in a store's cells -/
structure Hd where
  aAr : Option Addr
  cAr : Nat
  vR : Value
  vU : Value
  bN : Nat
  bO : Nat
  bW : Nat
  vL : Value

def HeadIs (sb : Nat) (h : Hd) (na births : Nat) (w : World) : Prop :=
  w.heap[sb]? = some (.cells #[.slice h.aAr na h.cAr, h.vR, h.vU, .map (some h.bN), .map (some h.bO), .map (some h.bW), .int .i64 (births : Int), h.vL] 109 (0, 0))
theorem HeadIs.turn {s sb : Nat} {h : Hd} {na births : Nat} {R : Role → Prop} {τ τ' : Own} {w w' : World} (hh : HeadIs sb h na births w) (hs : τ sb = some (s, .head)) (ht : Turn s R τ τ' w w') (h1 : ¬ R .head) : HeadIs sb h na births w' :=
  (ht.keep sb (Array.getElem?_eq_some_iff.1 hh).1 (fun r e => by rw [hs] at e; cases e; exact h1)).trans hh

/-- the pointers to the numbers that the Trys that run keep: the blocks, and the numbers in them -/
def LowsPart (s : Nat) (τ : Own) (w : World) (v : Value) (ls : List (Nat × Int)) : Prop :=
  w.ownsRow 0 175 1 v ls.length (ls.map fun x => Value.pointer (some ⟨x.1, 0, none⟩)) ∧ (∀ g, v.ownBlock = some g → τ g = some (s, .lows)) ∧
    (∀ x ∈ ls, τ x.1 = some (s, .lows) ∧ w.heap[x.1]? = some (.cells #[.int .i64 x.2] 3 (0, 0)) ∧ v.ownBlock ≠ some x.1) ∧ (ls.map (·.1)).Nodup
theorem LowsPart.nil (s : Nat) (τ : Own) (w : World) : LowsPart s τ w (.slice none 0 0) [] :=
  ⟨World.ownsRow_nil _ _ _ _, fun g e => (by cases e), fun x hx => (by cases hx), List.nodup_nil⟩
theorem LowsPart.keep {s : Nat} {τ τ' : Own} {w w' : World} {v : Value} {ls : List (Nat × Int)} (h : LowsPart s τ w v ls) (hk : ∀ g, g < w.heap.size → τ g = some (s, .lows) → w'.heap[g]? = w.heap[g]? ∧ τ' g = τ g) : LowsPart s τ' w' v ls := by
  obtain ⟨h1, h2, h3, h4⟩ := h
  refine ⟨owns_block h1 (fun g e => (hk g (h1.lt g e).2 (h2 g e)).1), fun g e => (hk g (h1.lt g e).2 (h2 g e)).2.trans (h2 g e), fun x hx => ?_, h4⟩
  obtain ⟨t, c, n⟩ := h3 x hx
  have := hk x.1 (Array.getElem?_eq_some_iff.1 c).1 t
  exact ⟨this.2.trans t, this.1.trans c, n⟩
theorem LowsPart.turn {s : Nat} {R : Role → Prop} {τ τ' : Own} {w w' : World} {v : Value} {ls : List (Nat × Int)} (h : LowsPart s τ w v ls) (ht : Turn s R τ τ' w w') (h1 : ¬ R .lows) : LowsPart s τ' w' v ls :=
  h.keep fun g hg e => ⟨ht.keep g hg (fun r er => by rw [e] at er; cases er; exact h1), ht.own g hg⟩

/-- what a store holds -/
structure St where
  ar : List Int
  rows : List Row
  bs : List Int
  births : Nat
  lows : List (Nat × Int)

/-- may the row be in a store of these arities? -/
def FitsRow (ar : List Int) (r : Row) : Prop := 0 ≤ r.1 ∧ r.1 < ar.length ∧ ar[r.1.toNat]? = some (r.2.length : Int) ∧ r.2.length ≤ 8 ∧ ∀ x ∈ r.2, 0 ≤ x ∧ x ≤ 9223372036854775807

structure Sound (σ : St) : Prop where
  fits : ∀ r ∈ σ.rows, FitsRow σ.ar r
  once : σ.rows.Nodup
  born : σ.bs.length = σ.rows.length
  many : σ.rows.length ≤ σ.births
  arity : ∀ x ∈ σ.ar, 0 ≤ x ∧ x ≤ 8
  preds : σ.ar.length ≤ 128
  rise : σ.bs.Pairwise (· < ·)
  birth : ∀ x ∈ σ.bs, 0 < x ∧ x ≤ (σ.births : Int)

/-- the store s lies at the block sb -/
structure StoreAt (s sb : Nat) (σ : St) (h : Hd) (τ : Own) (w : World) : Prop where
  sound : Sound σ
  fresh : Fresh τ w
  mine : τ sb = some (s, .head)
  head : HeadIs sb h σ.ar.length σ.births w
  ar : IntsZ (Still s τ) w h.aAr h.cAr σ.ar
  rows : RowsPart s τ w h.vR σ.rows σ.bs
  undo : UndoPart s sb τ w h.vU σ.rows
  num : NumPart s τ w h.bN σ.births σ.rows
  of : ListsPart s τ w 3 h.bO σ.births .of .ofv (ofK σ.rows)
  wh : ListsPart s τ w 138 h.bW (σ.births * 8) .wh .whv (whK σ.rows)
  lows : LowsPart s τ w h.vL σ.lows
def IsStore (s sb : Nat) (σ : St) (τ : Own) (w : World) : Prop := ∃ h, StoreAt s sb σ h τ w

/-- a store stays while nothing of it turns -/
theorem StoreAt.kept {s s' sb : Nat} {σ : St} {h : Hd} {τ τ' : Own} {w w' : World} {R : Role → Prop} (hs : StoreAt s sb σ h τ w) (ht : Turn s' R τ τ' w w') (hne : s ≠ s' ∨ ∀ r, ¬ R r) : StoreAt s sb σ h τ' w' := by
  have hk : ∀ j, j < w.heap.size → ∀ r, τ j = some (s, r) → w'.heap[j]? = w.heap[j]? := fun j hj r e => ht.keep j hj (fun r' e' => by
    rw [e] at e'
    rcases hne with h | h
    · cases e'; exact absurd rfl h
    · exact h r')
  have hi : ∀ {a : Option Addr} {c : Nat} {xs : List Int}, IntsZ (Still s τ) w a c xs → IntsZ (Still s τ') w' a c xs := fun h => h.keep (fun j hj hz => hk j hj _ hz) (fun j hj hz => (ht.own j hj).trans hz)
  have hcell : ∀ {b o : Nat} {v : Value} {r : Role}, τ b = some (s, r) → w.cell? ⟨b, o, none⟩ = some v → w'.cell? ⟨b, o, none⟩ = some v := fun {b o v r} hb hc => (World.cell?_of_block (w := w) (hk b (World.block_lt_of_cell? _ _ hc) r hb)).trans hc
  have hown : ∀ {b o : Nat} {v : Value}, w.cell? ⟨b, o, none⟩ = some v → τ' b = τ b := fun {b o v} hc => ht.own b (World.block_lt_of_cell? _ _ hc)
  refine ⟨hs.sound, ht.fresh, (ht.own sb (Array.getElem?_eq_some_iff.1 hs.head).1).trans hs.mine, (hk sb (Array.getElem?_eq_some_iff.1 hs.head).1 _ hs.mine).trans hs.head, hi hs.ar, ?_, ?_, ?_, ?_, ?_, ?_⟩
  · obtain ⟨cs, ho, hg, hc⟩ := hs.rows
    refine ⟨cs, owns_block ho (fun g e => hk g (ho.lt g e).2 _ (hg g e)), fun g e => (ht.own g (ho.lt g e).2).trans (hg g e), fun i r bt hr hb => ?_⟩
    obtain ⟨c1, ⟨a, c, c2, hI⟩, c3⟩ := hc i r bt hr hb
    exact ⟨c1, ⟨a, c, c2, hi hI⟩, c3⟩
  · obtain ⟨fs, ho, hg, hc⟩ := hs.undo
    refine ⟨fs, owns_block ho (fun g e => hk g (ho.lt g e).2 _ (hg g e)), fun g e => (ht.own g (ho.lt g e).2).trans (hg g e), fun i r hr => ?_⟩
    obtain ⟨u, hu, b1, b2, b3, b4, a, c, hU, ⟨t1, t2, t3, t4⟩, c1, c2, c3, c4, hI, c5⟩ := hc i r hr
    have h0 : (keyI r)[0]? = some r.1 := by simp [keyI]
    exact ⟨u, hu, b1, b2, b3, b4, a, c, hU, ⟨(hown c1).trans t1, (hown (c2 0 _ h0)).trans t2, (hown c3).trans t3, (hown c5).trans t4⟩, hcell t1 c1, fun j x hx => hcell t2 (c2 j x hx), hcell t3 c3, hcell t3 c4, hi hI, hcell t4 c5⟩
  · obtain ⟨hb, f, hm, h2⟩ := hs.num
    exact ⟨(ht.own _ hm.lt).trans hb, f, hm.kept (hk _ hm.lt _ hb), h2⟩
  · obtain ⟨hb, f, hm, h3, h4⟩ := hs.of
    refine ⟨(ht.own _ hm.lt).trans hb, f, hm.kept (hk _ hm.lt _ hb), h3, fun key v hv => ?_⟩
    obtain ⟨ho, hg⟩ := h4 key v hv
    exact ⟨owns_block ho (fun g e => hk g (ho.lt g e).2 _ (hg g e)), fun g e => (ht.own g (ho.lt g e).2).trans (hg g e)⟩
  · obtain ⟨hb, f, hm, h3, h4⟩ := hs.wh
    refine ⟨(ht.own _ hm.lt).trans hb, f, hm.kept (hk _ hm.lt _ hb), h3, fun key v hv => ?_⟩
    obtain ⟨ho, hg⟩ := h4 key v hv
    exact ⟨owns_block ho (fun g e => hk g (ho.lt g e).2 _ (hg g e)), fun g e => (ht.own g (ho.lt g e).2).trans (hg g e)⟩
  · exact hs.lows.keep fun g hg e => ⟨hk g hg _ e, ht.own g hg⟩
theorem StoreAt.below {s sb : Nat} {σ : St} {h : Hd} {τ : Own} {w w' : World} (hs : StoreAt s sb σ h τ w) (hb : Below w.heap.size w w') : StoreAt s sb σ h τ w' :=
  hs.kept (s' := s) (R := fun _ => False) (Turn.of_below hb hs.fresh) (.inr fun _ h => h)
theorem IsStore.below {s sb : Nat} {σ : St} {τ : Own} {w w' : World} (hs : IsStore s sb σ τ w) (hb : Below w.heap.size w w') : IsStore s sb σ τ w' := by
  obtain ⟨h, hs⟩ := hs
  exact ⟨h, hs.below hb⟩
theorem IsStore.kept {s s' sb : Nat} {σ : St} {τ τ' : Own} {w w' : World} {R : Role → Prop} (hs : IsStore s sb σ τ w) (ht : Turn s' R τ τ' w w') (hne : s ≠ s') : IsStore s sb σ τ' w' := by
  obtain ⟨h, hs⟩ := hs
  exact ⟨h, hs.kept ht (.inl hne)⟩

/-- a store's cells, each by itself -/
theorem HeadIs.cells {sb : Nat} {h : Hd} {na births : Nat} {w : World} (hh : HeadIs sb h na births w) :
    w.cell? ⟨sb, 0, none⟩ = some (.slice h.aAr na h.cAr) ∧ w.cell? ⟨sb, 1, none⟩ = some h.vR ∧ w.cell? ⟨sb, 2, none⟩ = some h.vU ∧ w.cell? ⟨sb, 3, none⟩ = some (.map (some h.bN)) ∧ w.cell? ⟨sb, 4, none⟩ = some (.map (some h.bO)) ∧ w.cell? ⟨sb, 5, none⟩ = some (.map (some h.bW)) ∧ w.cell? ⟨sb, 6, none⟩ = some (.int .i64 (births : Int)) ∧ w.cell? ⟨sb, 7, none⟩ = some h.vL := by
  unfold HeadIs at hh
  refine ⟨?_, ?_, ?_, ?_, ?_, ?_, ?_, ?_⟩ <;> simp [World.cell?, hh]
theorem HeadIs.frozen {sb : Nat} {h : Hd} {na births : Nat} {w : World} (hh : HeadIs sb h na births w) (j : Nat) : w.frozen? ⟨sb, j, none⟩ = false := by
  unfold HeadIs at hh
  simp [World.frozen?, hh]
end Go.Proofs.Ytkejjiohkhlnnaa
