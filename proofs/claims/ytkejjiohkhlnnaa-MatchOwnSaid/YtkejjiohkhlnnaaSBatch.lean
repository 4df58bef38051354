/-
  Lists of lists of rows as a world holds them; what is shaped may be in the store; plain facts for the laws about stores.
-/
import Derived.Test.YtkejjiohkhlnnaaSMade
namespace Go.Proofs.Ytkejjiohkhlnnaa
open Go.RowKit
open Go.Maps (Keyed)

/-- the slice a, c of the lists B lies in blocks of the zone Z -/
def BatchesZ (Z : Nat → Prop) (w : World) (a : Option Addr) (B : List (List Row)) : Prop :=
  B = [] ∨ ∃ b off, a = some ⟨b, off, none⟩ ∧ Z b ∧ ∀ i (h : i < B.length), ∃ ai ci, w.cell? ⟨b, off + i, none⟩ = some (.slice ai B[i].length ci) ∧ RowsZ Z w ai ci B[i]
theorem BatchesZ.keep {Z Z' : Nat → Prop} {w w' : World} {a : Option Addr} {B : List (List Row)} (h : BatchesZ Z w a B) (hk : ∀ j, j < w.heap.size → Z j → w'.heap[j]? = w.heap[j]?) (hz : ∀ j, j < w.heap.size → Z j → Z' j) : BatchesZ Z' w' a B := by
  rcases h with h | ⟨b, off, ha, hb, hc⟩
  · exact .inl h
  · rcases Nat.eq_zero_or_pos B.length with h0 | h0
    · exact .inl (List.eq_nil_of_length_eq_zero h0)
    · obtain ⟨_, _, h1, _⟩ := hc 0 h0
      have hlt := World.block_lt_of_cell? _ _ h1
      refine .inr ⟨b, off, ha, hz b hlt hb, fun i hi => ?_⟩
      obtain ⟨ai, ci, h2, h3⟩ := hc i hi
      exact ⟨ai, ci, (World.cell?_of_block (w := w) (hk b hlt hb)).trans h2, h3.keep hk hz⟩
theorem freeBatches_turn {s : Nat} {R : Role → Prop} {τ τ' : Own} {w w' : World} (ht : Turn s R τ τ' w w') {a : Option Addr} {B : List (List Row)} (hi : BatchesZ (fun j => τ j = none) w a B) : BatchesZ (fun j => τ' j = none) w' a B :=
  hi.keep (fun j hj hz => ht.keep j hj (fun r e => by rw [hz] at e; cases e)) (fun j hj hz => (ht.own j hj).trans hz)

/-- a row as it may come in -/
def RowOk (r : Row) : Prop := Rng r.1 ∧ r.2.length ≤ 9223372036854775807 ∧ ∀ x ∈ r.2, Rng x

theorem fixI_rng {x : Int} (h : Rng x) : 0 ≤ fixI x ∧ fixI x ≤ 9223372036854775807 := by
  obtain ⟨h1, h2⟩ := h
  unfold fixI
  split <;> constructor <;> omega
theorem argsOf_rng {xs : List Int} (h : ∀ x ∈ xs, Rng x) (c : Nat) : ∀ x ∈ argsOf xs c, 0 ≤ x ∧ x ≤ 9223372036854775807 := by
  intro x hx
  unfold argsOf at hx
  obtain ⟨j, _, rfl⟩ := List.mem_map.1 hx
  apply fixI_rng
  cases hj : xs[j]? with
  | none => exact ⟨by simp, by simp⟩
  | some y => exact h y (List.mem_of_getElem? hj)
theorem shape_fits {ar : List Int} (hf : fitsL ar = true) {r : Row} (hr : RowOk r) : FitsRow (ar ++ [0]) (shape ar r) := by
  have hP := predOf_le ar.length r.1
  have hlen := argsOf_length r.2 (countOf ar (predOf ar.length r.1))
  have hcount : ((ar ++ [0])[predOf ar.length r.1]? = some ((countOf ar (predOf ar.length r.1) : Nat) : Int)) ∧ countOf ar (predOf ar.length r.1) ≤ 8 := by
    unfold countOf
    by_cases hlt : predOf ar.length r.1 < ar.length
    · have hx := fits_at hf (List.getElem?_eq_getElem hlt)
      rw [List.getElem?_append_left hlt, List.getElem?_eq_getElem hlt]
      simp only [Option.getD_some]
      exact ⟨by congr 1; omega, by omega⟩
    · have he : predOf ar.length r.1 = ar.length := by omega
      rw [he, List.getElem?_eq_none (l := ar) (by omega), List.getElem?_append_right (Nat.le_refl _)]
      simp
  refine ⟨?_, ?_, ?_, ?_, ?_⟩
  · show (0 : Int) ≤ ((predOf ar.length r.1 : Nat) : Int)
    omega
  · show ((predOf ar.length r.1 : Nat) : Int) < ((ar ++ [0]).length : Nat)
    simp
    omega
  · show (ar ++ [0])[((predOf ar.length r.1 : Nat) : Int).toNat]? = some (((argsOf r.2 (countOf ar (predOf ar.length r.1))).length : Nat) : Int)
    rw [hlen, Int.toNat_natCast]
    exact hcount.1
  · show (argsOf r.2 (countOf ar (predOf ar.length r.1))).length ≤ 8
    rw [hlen]; exact hcount.2
  · exact argsOf_rng hr.2.2 _

theorem joinedL_self (l m : List Row) (h : ∀ r ∈ m, r ∈ l) : joinedL l m = l := by
  induction m with
  | nil => rfl
  | cons r m ih =>
    have hr := h r (by simp)
    unfold joinedL at ih ⊢
    rw [List.foldl_cons, if_pos hr]
    exact ih (fun x hx => h x (List.mem_cons_of_mem _ hx))
theorem addAll_self (σ : St) (m : List Row) (h : ∀ r ∈ m, r ∈ σ.rows) : σ.addAll m = σ := by
  induction m with
  | nil => rfl
  | cons r m ih =>
    have hr := h r (by simp)
    unfold St.addAll at ih ⊢
    rw [List.foldl_cons, if_pos hr]
    exact ih (fun x hx => h x (List.mem_cons_of_mem _ hx))
theorem joinedL_ge (l m : List Row) : l.length ≤ (joinedL l m).length := by
  induction m generalizing l with
  | nil => exact Nat.le_refl _
  | cons r m ih =>
    have := ih (if r ∈ l then l else l ++ [r])
    have e : l.length ≤ (if r ∈ l then l else l ++ [r]).length := by split <;> simp
    exact Nat.le_trans e this
def noOwn : Own := fun _ => none
theorem below_of_turn {s : Nat} {R : Role → Prop} {τ' : Own} {w w' : World} (h : Turn s R noOwn τ' w w') : Below w.heap.size w w' :=
  ⟨h.os, h.tape, h.output, h.size, fun j hj => h.keep j hj (fun r e => by cases e)⟩
end Go.Proofs.Ytkejjiohkhlnnaa
