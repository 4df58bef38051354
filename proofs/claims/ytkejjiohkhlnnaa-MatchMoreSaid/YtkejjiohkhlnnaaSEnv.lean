/-
  Several stores and several lists of rows in one world: what each of the store's calls does to them.
-/
import Derived.Test.YtkejjiohkhlnnaaSHolds
import Derived.Test.YtkejjiohkhlnnaaSBatch
import Derived.Test.YtkejjiohkhlnnaaSUndo
namespace Go.Proofs.Ytkejjiohkhlnnaa
open Go.RowKit

theorem addAll_lows (σ : St) (l : List Row) : (σ.addAll l).lows = σ.lows := by
  induction l generalizing σ with
  | nil => rfl
  | cons r l ih =>
    have h := ih (if r ∈ σ.rows then σ else σ.push r)
    have e : (if r ∈ σ.rows then σ else σ.push r).lows = σ.lows := by split <;> rfl
    rw [e] at h
    exact h
theorem joinedL_take (l m : List Row) : (joinedL l m).take l.length = l := by
  induction m generalizing l with
  | nil => exact List.take_length
  | cons r m ih =>
    have h := ih (if r ∈ l then l else l ++ [r])
    show (joinedL (if r ∈ l then l else l ++ [r]) m).take l.length = l
    split at h
    · rw [if_pos ‹_›]; exact h
    · rw [if_neg ‹_›]
      have h2 := congrArg (List.take l.length) h
      rw [List.take_take, Nat.min_eq_left (by simp)] at h2
      rw [h2]
      simp

/-- a store: whose it is, where it lies, what it holds, how many comings at most -/
structure Ent where
  s : Nat
  sb : Nat
  ar : List Int
  rows : List Row
  lows : List (Nat × Int)
  n : Nat
def HasRows (x : Ent) (τ : Own) (w : World) : Prop := ∃ σ, σ.ar = x.ar ∧ σ.rows = x.rows ∧ σ.lows = x.lows ∧ σ.births ≤ x.n ∧ IsStore x.s x.sb σ τ w
/-- a slice of rows, and the rows -/
abbrev RSl := Option Addr × Nat × List Row

/-- a variable of its own that a closure may have caught: its block, and what lies there -/
abbrev Box := Nat × Obj
def boxS : Nat := 0
/-- the world w that came from w0, with the stores S, the lists of rows L and the variables C -/
structure Env (w0 : World) (τ : Own) (w : World) (S : List Ent) (L : List RSl) (C : List Box) : Prop where
  fresh : Fresh τ w
  old : ∀ j, j < w0.heap.size → τ j = none
  below : Below w0.heap.size w0 w
  st : ∀ x ∈ S, HasRows x τ w
  rows : ∀ x ∈ L, RowsZ (fun j => τ j = none) w x.1 x.2.1 x.2.2
  boxes : ∀ x ∈ C, τ x.1 = some (boxS, .still) ∧ w.heap[x.1]? = some x.2
  keys : (C.map (·.1)).Nodup

theorem HasRows.below {x : Ent} {τ : Own} {w w' : World} (h : HasRows x τ w) (hb : Below w.heap.size w w') : HasRows x τ w' := by
  obtain ⟨σ, h1, h2, h3, h4, h5⟩ := h
  exact ⟨σ, h1, h2, h3, h4, h5.below hb⟩
theorem HasRows.kept {x : Ent} {s : Nat} {R : Role → Prop} {τ τ' : Own} {w w' : World} (h : HasRows x τ w) (ht : Turn s R τ τ' w w') (hne : x.s ≠ s) : HasRows x τ' w' := by
  obtain ⟨σ, h1, h2, h3, h4, h5⟩ := h
  exact ⟨σ, h1, h2, h3, h4, h5.kept ht hne⟩
theorem HasRows.idle {x : Ent} {s : Nat} {R : Role → Prop} {τ τ' : Own} {w w' : World} (h : HasRows x τ w) (ht : Turn s R τ τ' w w') (hR : ∀ r, ¬ R r) : HasRows x τ' w' := by
  obtain ⟨σ, h1, h2, h3, h4, h, h5⟩ := h
  exact ⟨σ, h1, h2, h3, h4, h, h5.kept ht (.inr hR)⟩

section
variable {w0 : World} {τ : Own} {w w' : World} {S : List Ent} {L : List RSl} {C : List Box}
theorem Env.stay (E : Env w0 τ w S L C) (hb : Below w.heap.size w w') : Env w0 τ w' S L C :=
  ⟨fun j hj => E.fresh j (Nat.le_trans hb.size hj), E.old, E.below.trans (hb.mono E.below.size), fun x hx => (E.st x hx).below hb, fun x hx => (E.rows x hx).below hb (Nat.le_refl _),
    fun x hx => ⟨(E.boxes x hx).1, (hb.block _ (Array.getElem?_eq_some_iff.1 (E.boxes x hx).2).1).trans (E.boxes x hx).2⟩, E.keys⟩
theorem Env.put (E : Env w0 τ w S L C) (hb : Below w.heap.size w w') {a : Option Addr} {c : Nat} {l : List Row} {Z : Nat → Prop} (h : RowsZ Z w' a c l) (hz : ∀ j, Z j → τ j = none ∨ w.heap.size ≤ j) : Env w0 τ w' S ((a, c, l) :: L) C := by
  have E' := E.stay hb
  refine ⟨E'.fresh, E'.old, E'.below, E'.st, fun x hx => ?_, E'.boxes, E'.keys⟩
  rcases List.mem_cons.1 hx with rfl | hx
  · exact h.zone fun j hj => by
      rcases hz j hj with h | h
      · exact h
      · exact E.fresh j h
  · exact E'.rows x hx
/-- what turns in the parts R of s leaves all others -/
theorem Env.turned {s : Nat} {R : Role → Prop} {τ' : Own} (E : Env w0 τ w S L C) (ht : Turn s R τ τ' w w') (hs : s ≠ boxS ∨ ¬ R .still) : Fresh τ' w' ∧ (∀ j, j < w0.heap.size → τ' j = none) ∧ Below w0.heap.size w0 w' ∧ (∀ x ∈ L, RowsZ (fun j => τ' j = none) w' x.1 x.2.1 x.2.2) ∧ ∀ x ∈ C, τ' x.1 = some (boxS, .still) ∧ w'.heap[x.1]? = some x.2 := by
  refine ⟨ht.fresh, fun j hj => (ht.own j (Nat.lt_of_lt_of_le hj E.below.size)).trans (E.old j hj), ?_, fun z hz => freeRows_turn ht (E.rows z hz), fun x hx => ?_⟩
  · refine ⟨ht.os.trans E.below.os, ht.tape.trans E.below.tape, ht.output.trans E.below.output, Nat.le_trans E.below.size ht.size, fun j hj => ?_⟩
    rw [ht.keep j (Nat.lt_of_lt_of_le hj E.below.size) (fun r e => by rw [E.old j hj] at e; cases e)]
    exact E.below.block j hj
  · obtain ⟨h1, h2⟩ := E.boxes x hx
    have hlt := (Array.getElem?_eq_some_iff.1 h2).1
    exact ⟨(ht.own _ hlt).trans h1, (ht.keep _ hlt (fun r e => by
      rw [h1] at e
      rcases hs with hs | hs
      · cases e; exact absurd rfl hs
      · cases e; exact hs)).trans h2⟩
theorem Env.turn {x y : Ent} {s : Nat} {R : Role → Prop} {τ' : Own} (E : Env w0 τ w (x :: S) L C) (ht : Turn s R τ τ' w w') (hs : s ≠ boxS) (hy : HasRows y τ' w') (hne : ∀ z ∈ S, z.s ≠ s) : Env w0 τ' w' (y :: S) L C := by
  obtain ⟨h1, h2, h3, h4, h5⟩ := E.turned ht (.inl hs)
  refine ⟨h1, h2, h3, fun z hz => ?_, h4, h5, E.keys⟩
  rcases List.mem_cons.1 hz with rfl | hz
  · exact hy
  · exact (E.st z (List.mem_cons_of_mem _ hz)).kept ht (hne z hz)
theorem Env.more {y : Ent} {s : Nat} {R : Role → Prop} {τ' : Own} (E : Env w0 τ w S L C) (ht : Turn s R τ τ' w w') (hs : s ≠ boxS) (hy : HasRows y τ' w') (hne : ∀ z ∈ S, z.s ≠ s) : Env w0 τ' w' (y :: S) L C := by
  obtain ⟨h1, h2, h3, h4, h5⟩ := E.turned ht (.inl hs)
  refine ⟨h1, h2, h3, fun z hz => ?_, h4, h5, E.keys⟩
  rcases List.mem_cons.1 hz with rfl | hz
  · exact hy
  · exact (E.st z hz).kept ht (hne z hz)
/-- a new variable -/
theorem Env.box (E : Env w0 τ w S L C) (o : Obj) : Env w0 (adopted boxS .still w.heap.size (w.alloc o).heap.size τ) (w.alloc o) S L ((w.heap.size, o) :: C) := by
  have hb : Below w.heap.size w (w.alloc o) := (Below.refl _ _).alloc (Nat.le_refl _) _
  have hz : (w.alloc o).heap.size = w.heap.size + 1 := by simp
  have T : Turn boxS (fun _ => False) τ (adopted boxS .still w.heap.size (w.alloc o).heap.size τ) w (w.alloc o) := (Turn.of_below (R := fun _ => False) (s := boxS) hb E.fresh).adopt .still (Nat.le_refl _)
  obtain ⟨h1, h2, h3, h4, h5⟩ := E.turned T (.inr fun h => h)
  refine ⟨h1, h2, h3, fun z hz => (E.st z hz).idle T (fun _ h => h), h4, fun x hx => ?_, ?_⟩
  · rcases List.mem_cons.1 hx with rfl | hx
    · exact ⟨adopted_in (Nat.le_refl _) (by omega), (MapKept.heap_alloc w o).1⟩
    · exact h5 x hx
  · rw [List.map_cons, List.nodup_cons]
    refine ⟨fun h => ?_, E.keys⟩
    obtain ⟨x, hx, he⟩ := List.mem_map.1 h
    have := (Array.getElem?_eq_some_iff.1 (E.boxes x hx).2).1
    rw [he] at this
    exact Nat.lt_irrefl _ this
/-- a variable is written -/
theorem Env.setBox (E : Env w0 τ w S L C) (hs : ∀ z ∈ S, z.s ≠ boxS) {k b : Nat} {cs : Array Value} {T : TypeId} {fr : Nat × Nat} (hk : C[k]? = some (b, .cells cs T fr)) (j : Nat) (v : Value) : Env w0 τ (w.setCell ⟨b, j, none⟩ v) S L (C.set k (b, .cells (cs.setIfInBounds j v) T fr)) := by
  have hi := (List.getElem?_eq_some_iff.1 hk).1
  obtain ⟨t, c⟩ := E.boxes _ (List.mem_of_getElem? hk)
  have T1 : Turn boxS (fun r => r = .still) τ τ w (w.setCell ⟨b, j, none⟩ v) := Turn.setCell (R := fun r => r = .still) E.fresh (a := ⟨b, j, none⟩) t rfl _
  have hlt : b < w.heap.size := (Array.getElem?_eq_some_iff.1 c).1
  refine ⟨T1.fresh, E.old, ?_, fun z hz => (E.st z hz).kept T1 (hs z hz), fun z hz => freeRows_turn T1 (E.rows z hz), fun x hx => ?_, ?_⟩
  · refine ⟨T1.os.trans E.below.os, T1.tape.trans E.below.tape, T1.output.trans E.below.output, Nat.le_trans E.below.size T1.size, fun i hi => ?_⟩
    rw [T1.keep i (Nat.lt_of_lt_of_le hi E.below.size) (fun r e => by rw [E.old i hi] at e; cases e)]
    exact E.below.block i hi
  · obtain ⟨i, hx⟩ := List.mem_iff_getElem?.1 hx
    rw [List.getElem?_set] at hx
    split at hx
    · rename_i e
      cases hx
      exact ⟨t, heap_setCell c v⟩
    · rename_i e
      obtain ⟨t2, c2⟩ := E.boxes x (List.mem_of_getElem? hx)
      refine ⟨t2, (Below.heap_setCell w _ _ x.1 (fun e' => ?_)).trans c2⟩
      have h1 : (C.map (·.1))[i]? = some x.1 := by rw [List.getElem?_map, hx]; rfl
      have h2 : (C.map (·.1))[k]? = some x.1 := by
        rw [List.getElem?_map, hk, e']
        rfl
      have hik : i < (C.map (·.1)).length := by have := (List.getElem?_eq_some_iff.1 hx).1; simpa using this
      exact e (((List.getElem?_inj hik E.keys).1 (h1.trans h2.symm)).symm)
  · have hkeys : (C.set k (b, .cells (cs.setIfInBounds j v) T fr)).map (·.1) = C.map (·.1) := by
      rw [List.map_set]
      apply List.ext_getElem?
      intro i
      rw [List.getElem?_set]
      split
      · rename_i e
        subst e
        rw [if_pos (by simpa using hi), List.getElem?_map, hk]
        rfl
      · rfl
    rw [hkeys]
    exact E.keys
/-- what lies in a variable -/
theorem Env.cell (E : Env w0 τ w S L C) {k b : Nat} {cs : Array Value} {T : TypeId} (hk : C[k]? = some (b, .cells cs T (0, 0))) {j : Nat} {v : Value} (hj : cs[j]? = some v) : w.cell? ⟨b, j, none⟩ = some v ∧ w.frozen? ⟨b, j, none⟩ = false := by
  have := (E.boxes _ (List.mem_of_getElem? hk)).2
  simp [World.cell?, World.frozen?, this, hj]
theorem Env.swap {x y : Ent} (E : Env w0 τ w (x :: y :: S) L C) : Env w0 τ w (y :: x :: S) L C :=
  ⟨E.fresh, E.old, E.below, fun z hz => E.st z (by simp at hz ⊢; rcases hz with h | h | h <;> simp [h]), E.rows, E.boxes, E.keys⟩
theorem Env.sub {L' : List RSl} (E : Env w0 τ w S L C) (h : ∀ x ∈ L', x ∈ L) : Env w0 τ w S L' C := ⟨E.fresh, E.old, E.below, E.st, fun x hx => E.rows x (h x hx), E.boxes, E.keys⟩

/-- Add, where each row fits -/
theorem env_add {s sb : Nat} {ar : List Int} {rows : List Row} {ls : List (Nat × Int)} {n : Nat} (E : Env w0 τ w (⟨s, sb, ar, rows, ls, n⟩ :: S) L C) (h0 : s ≠ boxS) (hne : ∀ z ∈ S, z.s ≠ s) {a : Option Addr} {c : Nat} {l : List Row} (hl : (a, c, l) ∈ L) (hf : ∀ r ∈ l, FitsRow ar r) (hB : n + l.length ≤ 100000000000) {J : List Row} (hJ : joinedL rows l = J) :
    Calls Try.prog 21 #[.pointer (some ⟨sb, 0, none⟩), .slice a l.length c] w fun e w' => e = .returned (.tuple #[.int .i64 (J.length - rows.length : Int), .int .i64 0]) ∧ ∃ τ', Env w0 τ' w' (⟨s, sb, ar, J, ls, n + l.length⟩ :: S) L C := by
  subst hJ
  obtain ⟨σ, h1, h2, h3, h4, h5⟩ := E.st _ (List.mem_cons_self ..)
  simp only at h1 h2 h3 h4 h5
  subst h1; subst h2; subst h3
  refine (add_any h5 a c l (E.rows _ hl) hf (by omega)).mono ?_
  rintro e w2 ⟨rfl, τ', hs, ht⟩
  rw [addAll_rows]
  refine ⟨rfl, τ', E.turn ht h0 ⟨σ.addAll l, addAll_ar σ l, addAll_rows σ l, addAll_lows σ l, ?_, hs⟩ hne⟩
  have := addAll_births σ l
  simp only
  omega

theorem env_len {s sb : Nat} {ar : List Int} {rows : List Row} {ls : List (Nat × Int)} {n : Nat} (E : Env w0 τ w (⟨s, sb, ar, rows, ls, n⟩ :: S) L C) :
    Calls Try.prog 35 #[.pointer (some ⟨sb, 0, none⟩)] w fun e w' => e = .returned (.int .i64 rows.length) ∧ w' = w := by
  obtain ⟨σ, h1, h2, h3, h4, h, h5⟩ := E.st _ (List.mem_cons_self ..)
  simp only at h1 h2 h3 h4 h5
  subst h2
  exact len_any h5

/-- the slice of the one row without args -/
theorem row0_rows {Z : Nat → Prop} {W : World} {g : Nat} {p : Int} (h0 : W.cell? ⟨g, 0, none⟩ = some (.int .i64 p)) (h1 : W.cell? ⟨g, 1, none⟩ = some (.slice none 0 0)) (hz : Z g) : RowsZ Z W (some ⟨g, 0, none⟩) 1 [(p, [])] :=
  ⟨.inr ⟨g, 0, rfl, hz, fun i hi => by
    have : i = 0 := by simp at hi; omega
    subst this
    exact ⟨by simpa using h0, none, 0, by simpa using h1, .inl rfl, fun _ => ⟨rfl, rfl⟩⟩⟩, fun h => by cases h⟩
end
end Go.Proofs.Ytkejjiohkhlnnaa
