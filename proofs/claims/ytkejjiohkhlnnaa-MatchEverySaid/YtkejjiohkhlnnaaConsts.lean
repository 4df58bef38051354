/-
  What roomyConsts and untouchedConsts do.
-/
import Derived.Test.YtkejjiohkhlnnaaHolds
namespace Go.Proofs.Ytkejjiohkhlnnaa
open Go.RowKit
namespace Mt

theorem elemConst : Elem Try.prog 24 65 (.agg #[.int .i64 0, .int .i64 0, .string ByteArray.empty]) 3 32 := ⟨Try.underlying24, by kernel_rfl, rfl, by decide⟩

def constCells (l : List C3) : List Value := l.flatMap fun c => [.int .i64 c.1, .int .i64 c.2.1, .string c.2.2]
theorem constCells_length (l : List C3) : (constCells l).length = l.length * 3 := by
  induction l with
  | nil => rfl
  | cons x l ih => simp only [constCells, List.flatMap_cons, List.length_append, List.length_cons, List.length_nil] at ih ⊢; omega
theorem constCells_one (l : List C3) : ∀ u ∈ constCells l, u.oneCell' = true := by
  intro u hu
  simp only [constCells, List.mem_flatMap] at hu
  obtain ⟨x, _, hx⟩ := hu
  simp at hx
  rcases hx with rfl | rfl | rfl <;> rfl
theorem constCells_at (l : List C3) (i : Nat) : (constCells l)[i * 3]? = (l[i]?).map (fun c => .int .i64 c.1) ∧ (constCells l)[i * 3 + 1]? = (l[i]?).map (fun c => .int .i64 c.2.1) ∧ (constCells l)[i * 3 + 2]? = (l[i]?).map (fun c => .string c.2.2) := by
  induction l generalizing i with
  | nil => simp [constCells]
  | cons x l ih =>
    cases i with
    | zero => simp [constCells]
    | succ i =>
      have e0 : (i + 1) * 3 = i * 3 + 1 + 1 + 1 := by omega
      have e1 : (i + 1) * 3 + 1 = i * 3 + 1 + 1 + 1 + 1 := by omega
      have e2 : (i + 1) * 3 + 2 = i * 3 + 2 + 1 + 1 + 1 := by omega
      rw [e1, e2, e0]
      simpa [constCells] using ih i
theorem consts_of_cells {w : World} {b o : Nat} {l : List C3} (h : ∀ j u, (constCells l)[j]? = some u → w.cell? ⟨b, o + j, none⟩ = some u) : Consts w (some ⟨b, o, none⟩) l :=
  .inr ⟨b, o, rfl, fun i hi => by
    obtain ⟨h1, h2, h3⟩ := constCells_at l i
    rw [List.getElem?_eq_getElem hi] at h1 h2 h3
    exact ⟨h _ _ h1, by rw [Nat.add_assoc]; exact h _ _ h2, by rw [Nat.add_assoc]; exact h _ _ h3⟩⟩
theorem cells_of_consts {w : World} {b o : Nat} {l : List C3} (h : ∀ i (h : i < l.length), w.cell? ⟨b, o + i * 3, none⟩ = some (.int .i64 l[i].1) ∧ w.cell? ⟨b, o + i * 3 + 1, none⟩ = some (.int .i64 l[i].2.1) ∧ w.cell? ⟨b, o + i * 3 + 2, none⟩ = some (.string l[i].2.2)) :
    ∀ j u, (constCells l)[j]? = some u → w.cell? ⟨b, o + j, none⟩ = some u := by
  intro j u hu
  have hj : j < l.length * 3 := by rw [← constCells_length]; exact (List.getElem?_eq_some_iff.1 hu).1
  obtain ⟨i, hi | hi | hi⟩ : ∃ i, j = i * 3 ∨ j = i * 3 + 1 ∨ j = i * 3 + 2 := ⟨j / 3, by omega⟩
  all_goals
    subst hi
    have hi' : i < l.length := by omega
    obtain ⟨h1, h2, h3⟩ := constCells_at l i
    rw [List.getElem?_eq_getElem hi'] at h1 h2 h3
    obtain ⟨g1, g2, g3⟩ := h i hi'
    first
    | (rw [h1] at hu; rw [g1]; exact hu)
    | (rw [h2] at hu; rw [← Nat.add_assoc, g2]; exact hu)
    | (rw [h3] at hu; rw [← Nat.add_assoc, g3]; exact hu)

/-- the slice a, l, c of constants; nil only where it has no room -/
def ConstSlice (w : World) (a : Option Addr) (c : Nat) (l : List C3) : Prop := Consts w a l ∧ (a = none → l = [] ∧ c = 0)
theorem ConstSlice.below {w w' : World} {B : Nat} {a : Option Addr} {c : Nat} {l : List C3} (h : ConstSlice w a c l) (hb : Below B w w') (hB : w.heap.size ≤ B) : ConstSlice w' a c l := ⟨h.1.below hb hB, h.2⟩
theorem source_consts {w : World} {a : Option Addr} {c : Nat} {l : List C3} (h : ConstSlice w a c l) : Source w a l.length c (constCells l) := by
  cases a with
  | none =>
    obtain ⟨h1, h2⟩ := h.2 rfl
    exact .inl ⟨rfl, by rw [h1]; rfl, h2, by rw [h1]; rfl⟩
  | some ad =>
    refine .inr ⟨ad, rfl, fun j u hu => ?_⟩
    rcases h.1 with rfl | ⟨b, o, he, hc⟩
    · simp [constCells] at hu
    · cases he
      have e : (⟨b, o, none⟩ : Addr).add j = ⟨b, o + j, none⟩ := by unfold Addr.add; split <;> simp_all
      rw [e]
      exact cells_of_consts hc j u hu

/-- a copy with room for one more constant, whose kind is -99 -/
def RoomyC (w : World) (g c : Nat) (l : List C3) : Prop := l.length + 1 ≤ c ∧ Consts w (some ⟨g, 0, none⟩) l ∧ w.cell? ⟨g, l.length * 3, none⟩ = some (.int .i64 (-99)) ∧ g < w.heap.size
theorem RoomyC.below {w w' : World} {g c : Nat} {l : List C3} (h : RoomyC w g c l) (hb : Below w.heap.size w w') : RoomyC w' g c l :=
  ⟨h.1, h.2.1.below hb (Nat.le_refl _), (hb.cell (p := ⟨g, l.length * 3, none⟩) h.2.2.2).trans h.2.2.1, Nat.lt_of_lt_of_le h.2.2.2 hb.size⟩
theorem roomyC_of_row {w : World} {base : Nat} {v : Value} {l : List C3} (h : w.ownsRow base 65 3 v (l.length + 1) (constCells l ++ [.int .i64 (-99), .int .i64 0, .string ByteArray.empty])) :
    ∃ g c, v = .slice (some ⟨g, 0, none⟩) (l.length + 1) c ∧ RoomyC w g c l ∧ base ≤ g ∧ c ≤ maxLen := by
  rcases owns_form h with ⟨_, h0, _⟩ | ⟨g, cap, rfl, hb, hlt, hn, hm, _, hc, _⟩
  · omega
  · refine ⟨g, cap, rfl, ⟨hn, consts_of_cells fun j u hu => ?_, hc _ _ ?_, hlt⟩, hb, hm⟩
    · rw [Nat.zero_add]
      refine hc j u ?_
      rw [List.getElem?_append_left (List.getElem?_eq_some_iff.1 hu).1]; exact hu
    · rw [List.getElem?_append_right (by rw [constCells_length]; omega)]; simp [constCells_length]

end Mt
end Go.Proofs.Ytkejjiohkhlnnaa
