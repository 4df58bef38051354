/-
  Several stores and several lists of rows in one world: what each of the store's calls does to them.
-/
import Derived.Test.YtgodidoibcomcaaSHolds
import Derived.Test.YtgodidoibcomcaaSBatch
import Derived.Test.YtgodidoibcomcaaSUndo
namespace Go.Proofs.Ytgodidoibcomcaa
open Go.RowKit

theorem addAll_lows (σ : St) (l : List Row) : (σ.addAll l).lows = σ.lows := by
  induction l generalizing σ with
  | nil => rfl
  | cons r l ih =>
    have h := ih (if r ∈ σ.rows then σ else σ.push r)
    have e : (if r ∈ σ.rows then σ else σ.push r).lows = σ.lows := by split <;> rfl
    rw [e] at h
    exact h
theorem joinedL_take (l m : List Row) : (joinedL l m).take l.length = l := by
  induction m generalizing l with
  | nil => exact List.take_length
  | cons r m ih =>
    have h := ih (if r ∈ l then l else l ++ [r])
    show (joinedL (if r ∈ l then l else l ++ [r]) m).take l.length = l
    split at h
    · rw [if_pos ‹_›]; exact h
    · rw [if_neg ‹_›]
      have h2 := congrArg (List.take l.length) h
      rw [List.take_take, Nat.min_eq_left (by simp)] at h2
      rw [h2]
      simp

/-- a store: whose it is, where it lies, what it holds, how many comings at most -/
structure Ent where
  s : Nat
  sb : Nat
  ar : List Int
  rows : List Row
  lows : List (Nat × Int)
  n : Nat
def HasRows (x : Ent) (τ : Own) (w : World) : Prop := ∃ σ, σ.ar = x.ar ∧ σ.rows = x.rows ∧ σ.lows = x.lows ∧ σ.births ≤ x.n ∧ IsStore x.s x.sb σ τ w
/-- a slice of rows, and the rows -/
abbrev RSl := Option Addr × Nat × List Row

/-- the world w that came from w0, with the stores S and the lists of rows L -/
structure Env (w0 : World) (τ : Own) (w : World) (S : List Ent) (L : List RSl) : Prop where
  fresh : Fresh τ w
  old : ∀ j, j < w0.heap.size → τ j = none
  below : Below w0.heap.size w0 w
  st : ∀ x ∈ S, HasRows x τ w
  rows : ∀ x ∈ L, RowsZ (fun j => τ j = none) w x.1 x.2.1 x.2.2

theorem HasRows.below {x : Ent} {τ : Own} {w w' : World} (h : HasRows x τ w) (hb : Below w.heap.size w w') : HasRows x τ w' := by
  obtain ⟨σ, h1, h2, h3, h4, h5⟩ := h
  exact ⟨σ, h1, h2, h3, h4, h5.below hb⟩
theorem HasRows.kept {x : Ent} {s : Nat} {R : Role → Prop} {τ τ' : Own} {w w' : World} (h : HasRows x τ w) (ht : Turn s R τ τ' w w') (hne : x.s ≠ s) : HasRows x τ' w' := by
  obtain ⟨σ, h1, h2, h3, h4, h5⟩ := h
  exact ⟨σ, h1, h2, h3, h4, h5.kept ht hne⟩

section
variable {w0 : World} {τ : Own} {w w' : World} {S : List Ent} {L : List RSl}
theorem Env.stay (E : Env w0 τ w S L) (hb : Below w.heap.size w w') : Env w0 τ w' S L :=
  ⟨fun j hj => E.fresh j (Nat.le_trans hb.size hj), E.old, E.below.trans (hb.mono E.below.size), fun x hx => (E.st x hx).below hb, fun x hx => (E.rows x hx).below hb (Nat.le_refl _)⟩
theorem Env.put (E : Env w0 τ w S L) (hb : Below w.heap.size w w') {a : Option Addr} {c : Nat} {l : List Row} {Z : Nat → Prop} (h : RowsZ Z w' a c l) (hz : ∀ j, Z j → τ j = none ∨ w.heap.size ≤ j) : Env w0 τ w' S ((a, c, l) :: L) := by
  have E' := E.stay hb
  refine ⟨E'.fresh, E'.old, E'.below, E'.st, fun x hx => ?_⟩
  rcases List.mem_cons.1 hx with rfl | hx
  · exact h.zone fun j hj => by
      rcases hz j hj with h | h
      · exact h
      · exact E.fresh j h
  · exact E'.rows x hx
theorem Env.turn {x y : Ent} {s : Nat} {R : Role → Prop} {τ' : Own} (E : Env w0 τ w (x :: S) L) (ht : Turn s R τ τ' w w') (hy : HasRows y τ' w') (hne : ∀ z ∈ S, z.s ≠ s) : Env w0 τ' w' (y :: S) L := by
  refine ⟨ht.fresh, fun j hj => (ht.own j (Nat.lt_of_lt_of_le hj E.below.size)).trans (E.old j hj), ?_, fun z hz => ?_, fun z hz => freeRows_turn ht (E.rows z hz)⟩
  · refine ⟨ht.os.trans E.below.os, ht.tape.trans E.below.tape, ht.output.trans E.below.output, Nat.le_trans E.below.size ht.size, fun j hj => ?_⟩
    rw [ht.keep j (Nat.lt_of_lt_of_le hj E.below.size) (fun r e => by rw [E.old j hj] at e; cases e)]
    exact E.below.block j hj
  · rcases List.mem_cons.1 hz with rfl | hz
    · exact hy
    · exact (E.st z (List.mem_cons_of_mem _ hz)).kept ht (hne z hz)
theorem Env.more {y : Ent} {s : Nat} {R : Role → Prop} {τ' : Own} (E : Env w0 τ w S L) (ht : Turn s R τ τ' w w') (hy : HasRows y τ' w') (hne : ∀ z ∈ S, z.s ≠ s) : Env w0 τ' w' (y :: S) L := by
  refine ⟨ht.fresh, fun j hj => (ht.own j (Nat.lt_of_lt_of_le hj E.below.size)).trans (E.old j hj), ?_, fun z hz => ?_, fun z hz => freeRows_turn ht (E.rows z hz)⟩
  · refine ⟨ht.os.trans E.below.os, ht.tape.trans E.below.tape, ht.output.trans E.below.output, Nat.le_trans E.below.size ht.size, fun j hj => ?_⟩
    rw [ht.keep j (Nat.lt_of_lt_of_le hj E.below.size) (fun r e => by rw [E.old j hj] at e; cases e)]
    exact E.below.block j hj
  · rcases List.mem_cons.1 hz with rfl | hz
    · exact hy
    · exact (E.st z hz).kept ht (hne z hz)
theorem Env.swap {x y : Ent} (E : Env w0 τ w (x :: y :: S) L) : Env w0 τ w (y :: x :: S) L :=
  ⟨E.fresh, E.old, E.below, fun z hz => E.st z (by simp at hz ⊢; rcases hz with h | h | h <;> simp [h]), E.rows⟩
theorem Env.sub {L' : List RSl} (E : Env w0 τ w S L) (h : ∀ x ∈ L', x ∈ L) : Env w0 τ w S L' := ⟨E.fresh, E.old, E.below, E.st, fun x hx => E.rows x (h x hx)⟩

/-- Add, where each row fits -/
theorem env_add {s sb : Nat} {ar : List Int} {rows : List Row} {ls : List (Nat × Int)} {n : Nat} (E : Env w0 τ w (⟨s, sb, ar, rows, ls, n⟩ :: S) L) (hne : ∀ z ∈ S, z.s ≠ s) {a : Option Addr} {c : Nat} {l : List Row} (hl : (a, c, l) ∈ L) (hf : ∀ r ∈ l, FitsRow ar r) (hB : n + l.length ≤ 100000000000) {J : List Row} (hJ : joinedL rows l = J) :
    Calls Try.prog 16 #[.pointer (some ⟨sb, 0, none⟩), .slice a l.length c] w fun e w' => e = .returned (.tuple #[.int .i64 (J.length - rows.length : Int), .int .i64 0]) ∧ ∃ τ', Env w0 τ' w' (⟨s, sb, ar, J, ls, n + l.length⟩ :: S) L := by
  subst hJ
  obtain ⟨σ, h1, h2, h3, h4, h5⟩ := E.st _ (List.mem_cons_self ..)
  simp only at h1 h2 h3 h4 h5
  subst h1; subst h2; subst h3
  refine (add_any h5 a c l (E.rows _ hl) hf (by omega)).mono ?_
  rintro e w2 ⟨rfl, τ', hs, ht⟩
  rw [addAll_rows]
  refine ⟨rfl, τ', E.turn ht ⟨σ.addAll l, addAll_ar σ l, addAll_rows σ l, addAll_lows σ l, ?_, hs⟩ hne⟩
  have := addAll_births σ l
  simp only
  omega

/-- holds, of just the rows that are in -/
theorem env_holds {s sb : Nat} {ar : List Int} {rows : List Row} {ls : List (Nat × Int)} {n : Nat} (E : Env w0 τ w (⟨s, sb, ar, rows, ls, n⟩ :: S) L) (preds : Int) {a : Option Addr} {c : Nat} (hl : (a, c, rows) ∈ L) (hp0 : 0 ≤ preds) (hp1 : preds ≤ 1000) (hB : rows.length ≤ 1000000000000) :
    Calls Try.prog 17 #[.pointer (some ⟨sb, 0, none⟩), .int .i64 preds, .slice a rows.length c] w fun e w' => e = .returned (.bool true) ∧ Env w0 τ w' (⟨s, sb, ar, rows, ls, n⟩ :: S) L := by
  obtain ⟨σ, h1, h2, h3, h4, h5⟩ := E.st _ (List.mem_cons_self ..)
  simp only at h1 h2 h3 h4 h5
  subst h1; subst h2; subst h3
  refine (holds_any h5 preds a c (E.rows _ hl) hp0 hp1 hB).mono ?_
  rintro e w2 ⟨rfl, hb⟩
  exact ⟨rfl, E.stay hb⟩
theorem env_holds_nil {s sb : Nat} {ar : List Int} {ls : List (Nat × Int)} {n : Nat} (E : Env w0 τ w (⟨s, sb, ar, [], ls, n⟩ :: S) L) (preds : Int) (hp0 : 0 ≤ preds) (hp1 : preds ≤ 1000) :
    Calls Try.prog 17 #[.pointer (some ⟨sb, 0, none⟩), .int .i64 preds, .slice none 0 0] w fun e w' => e = .returned (.bool true) ∧ Env w0 τ w' (⟨s, sb, ar, [], ls, n⟩ :: S) L := by
  obtain ⟨σ, h1, h2, h3, h4, h5⟩ := E.st _ (List.mem_cons_self ..)
  simp only at h1 h2 h3 h4 h5
  have h0 : σ.rows.length = 0 := by rw [h2]; rfl
  have := holds_any h5 preds none 0 (Z := fun _ => True) (by rw [h2]; exact ⟨.inl rfl, fun _ => ⟨rfl, rfl⟩⟩) hp0 hp1 (by omega)
  rw [h0] at this
  refine this.mono ?_
  rintro e w2 ⟨rfl, hb⟩
  exact ⟨rfl, E.stay hb⟩

/-- Undo, where there are as many rows -/
theorem env_undo {s sb : Nat} {ar : List Int} {rows : List Row} {ls : List (Nat × Int)} {n : Nat} (E : Env w0 τ w (⟨s, sb, ar, rows, ls, n⟩ :: S) L) (hne : ∀ z ∈ S, z.s ≠ s) (k : Nat) (hk : k ≤ rows.length) (hB : n ≤ 100000000000) {J : List Row} (hJ : rows.take k = J) :
    Calls Try.prog 20 #[.pointer (some ⟨sb, 0, none⟩), .int .i64 k] w fun e w' => e = .returned (.int .i64 0) ∧ ∃ τ', Env w0 τ' w' (⟨s, sb, ar, J, lowMix k ls.length ls, n⟩ :: S) L := by
  subst hJ
  obtain ⟨σ, h1, h2, h3, h4, h5⟩ := E.st _ (List.mem_cons_self ..)
  simp only at h1 h2 h3 h4 h5
  subst h1; subst h2; subst h3
  refine (undo_any h5 k hk (by omega)).mono ?_
  rintro e w2 ⟨rfl, τ', hs, ht⟩
  exact ⟨rfl, τ', E.turn ht ⟨σ.cut k, rfl, rfl, rfl, h4, hs⟩ hne⟩
theorem env_undo_bad {s sb : Nat} {ar : List Int} {rows : List Row} {ls : List (Nat × Int)} {n : Nat} (E : Env w0 τ w (⟨s, sb, ar, rows, ls, n⟩ :: S) L) (k : Int) (hk : k < 0 ∨ (rows.length : Int) < k) :
    Calls Try.prog 20 #[.pointer (some ⟨sb, 0, none⟩), .int .i64 k] w fun e w' => e = .returned (.int .i64 2) ∧ w' = w := by
  obtain ⟨σ, h1, h2, h3, h4, h5⟩ := E.st _ (List.mem_cons_self ..)
  simp only at h1 h2 h3 h4 h5
  subst h1; subst h2; subst h3
  exact undo_bad h5 k hk
theorem env_len {s sb : Nat} {ar : List Int} {rows : List Row} {ls : List (Nat × Int)} {n : Nat} (E : Env w0 τ w (⟨s, sb, ar, rows, ls, n⟩ :: S) L) :
    Calls Try.prog 21 #[.pointer (some ⟨sb, 0, none⟩)] w fun e w' => e = .returned (.int .i64 rows.length) ∧ w' = w := by
  obtain ⟨σ, h1, h2, h3, h4, h, h5⟩ := E.st _ (List.mem_cons_self ..)
  simp only at h1 h2 h3 h4 h5
  subst h2
  exact len_any h5

/-- the law's rows of these arities -/
theorem env_shaped {aa ab : Option Addr} {ca cb : Nat} {ar : List Int} {m : List Row} (E : Env w0 τ w S L) (ha : IntsZ (fun _ => True) w0 aa ca ar) (hb : RowsZ (fun _ => True) w0 ab cb m) (hf : fitsL ar = true) (hr : ∀ r ∈ m, RowOk r) (hm : m.length ≤ 1000000000) {M : List Row} (hM : m.map (shape ar) = M) :
    Calls Try.prog 14 #[.slice aa ar.length ca, .slice ab m.length cb] w fun e w' => ∃ a c, e = .returned (.slice a M.length c) ∧ Below w.heap.size w w' ∧ Env w0 τ w' S ((a, c, M) :: L) := by
  subst hM
  refine (shaped_any aa ab ca cb ar m w (ha.below E.below (Nat.le_refl _)).ints hf (hb.below E.below (Nat.le_refl _)) (fun r h => hr r h) (by omega)).mono ?_
  rintro e w2 ⟨v, rfl, hO, hb2⟩
  obtain ⟨a, c, rfl, hR⟩ := hO.rowsZ (fun _ h => h)
  exact ⟨a, c, rfl, hb2, E.put hb2 hR fun j hj => .inr hj⟩
theorem env_joined {aa ab : Option Addr} {ca cb : Nat} {l m : List Row} (E : Env w0 τ w S L) (hl : (aa, ca, l) ∈ L) (hm : (ab, cb, m) ∈ L) (h8 : ∀ r ∈ l ++ m, r.2.length ≤ 8) (hn : l.length + m.length ≤ 2000000000) {J : List Row} (hJ : joinedL l m = J) {nl nm : Nat} (hnl : l.length = nl) (hnm : m.length = nm) :
    Calls Try.prog 15 #[.slice aa nl ca, .slice ab nm cb] w fun e w' => ∃ a c, e = .returned (.slice a J.length c) ∧ Below w.heap.size w w' ∧ Env w0 τ w' S ((a, c, J) :: L) := by
  subst hJ
  subst hnl
  subst hnm
  refine (joined_any aa ab ca cb l m w (E.rows _ hl) (E.rows _ hm) (fun r hr => by have := h8 r (List.mem_append.2 (.inl hr)); omega) (fun r hr => by have := h8 r (List.mem_append.2 (.inr hr)); omega) (by omega)).mono ?_
  rintro e w2 ⟨v, rfl, hO, hb2⟩
  obtain ⟨a, c, rfl, hR⟩ := hO.rowsZ (fun _ h => .inr h)
  exact ⟨a, c, rfl, hb2, E.put hb2 hR fun j hj => hj⟩
/-- the slice of the one row without args -/
theorem row0_rows {Z : Nat → Prop} {W : World} {g : Nat} {p : Int} (h0 : W.cell? ⟨g, 0, none⟩ = some (.int .i64 p)) (h1 : W.cell? ⟨g, 1, none⟩ = some (.slice none 0 0)) (hz : Z g) : RowsZ Z W (some ⟨g, 0, none⟩) 1 [(p, [])] :=
  ⟨.inr ⟨g, 0, rfl, hz, fun i hi => by
    have : i = 0 := by simp at hi; omega
    subst this
    exact ⟨by simpa using h0, none, 0, by simpa using h1, .inl rfl, fun _ => ⟨rfl, rfl⟩⟩⟩, fun h => by cases h⟩
end
end Go.Proofs.Ytgodidoibcomcaa
