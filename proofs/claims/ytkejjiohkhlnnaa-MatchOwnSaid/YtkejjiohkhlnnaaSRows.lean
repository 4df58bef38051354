/-
  Lists of rows (a number and a list of numbers) as a world holds them; what equal, rows, known and joined do with them.
-/
import Derived.Test.YtkejjiohkhlnnaaSInts
import Derived.Deep.RegionHeld3
namespace Go.Proofs.Ytkejjiohkhlnnaa
open Go.RowKit

abbrev Row := Int × List Int

/-- the slice a, c of the rows l lies in blocks of the zone Z -/
def RowsZ (Z : Nat → Prop) (w : World) (a : Option Addr) (c : Nat) (l : List Row) : Prop :=
  (l = [] ∨ ∃ b off, a = some ⟨b, off, none⟩ ∧ Z b ∧ ∀ i (h : i < l.length), w.cell? ⟨b, off + i * 2, none⟩ = some (.int .i64 l[i].1) ∧ ∃ ai ci, w.cell? ⟨b, off + i * 2 + 1, none⟩ = some (.slice ai l[i].2.length ci) ∧ IntsZ Z w ai ci l[i].2) ∧ (a = none → l = [] ∧ c = 0)
theorem RowsZ.keep {Z Z' : Nat → Prop} {w w' : World} {a : Option Addr} {c : Nat} {l : List Row} (h : RowsZ Z w a c l) (hk : ∀ j, j < w.heap.size → Z j → w'.heap[j]? = w.heap[j]?) (hz : ∀ j, j < w.heap.size → Z j → Z' j) : RowsZ Z' w' a c l := by
  refine ⟨?_, h.2⟩
  rcases h.1 with h | ⟨b, off, ha, hb, hc⟩
  · exact .inl h
  · rcases Nat.eq_zero_or_pos l.length with h0 | h0
    · exact .inl (List.eq_nil_of_length_eq_zero h0)
    · have hlt := World.block_lt_of_cell? _ _ (hc 0 h0).1
      refine .inr ⟨b, off, ha, hz b hlt hb, fun i hi => ?_⟩
      obtain ⟨h1, ai, ci, h2, h3⟩ := hc i hi
      exact ⟨(World.cell?_of_block (w := w) (hk b hlt hb)).trans h1, ai, ci, (World.cell?_of_block (w := w) (hk b hlt hb)).trans h2, h3.keep hk hz⟩
theorem RowsZ.below {Z : Nat → Prop} {w w' : World} {a : Option Addr} {c : Nat} {l : List Row} (h : RowsZ Z w a c l) {B : Nat} (hb : Below B w w') (hB : w.heap.size ≤ B) : RowsZ Z w' a c l :=
  h.keep (fun j hj _ => hb.block j (Nat.lt_of_lt_of_le hj hB)) (fun _ _ h => h)
theorem RowsZ.zone {Z Z' : Nat → Prop} {w : World} {a : Option Addr} {c : Nat} {l : List Row} (h : RowsZ Z w a c l) (hz : ∀ j, Z j → Z' j) : RowsZ Z' w a c l :=
  h.keep (fun _ _ _ => rfl) (fun j _ => hz j)
theorem rows_at {Z : Nat → Prop} {w : World} {b o : Nat} {l : List Row} (h : ∀ i (h : i < l.length), w.cell? ⟨b, o + i * 2, none⟩ = some (.int .i64 l[i].1) ∧ ∃ ai ci, w.cell? ⟨b, o + i * 2 + 1, none⟩ = some (.slice ai l[i].2.length ci) ∧ IntsZ Z w ai ci l[i].2) {k : Nat} (hk : k < l.length) :
    ∃ p ai ci xs, w.cell? ⟨b, o + k * 2, none⟩ = some (.int .i64 p) ∧ w.cell? ⟨b, o + k * 2 + 1, none⟩ = some (.slice ai xs.length ci) ∧ Hid (IntsZ Z w ai ci xs) ∧ Hid (l[k]? = some (p, xs)) := by
  obtain ⟨h1, ai, ci, h2, h3⟩ := h k hk
  exact ⟨l[k].1, ai, ci, l[k].2, h1, h2, Lib.hid h3, Lib.hid (List.getElem?_eq_getElem hk)⟩

theorem infoRow : (Try.prog.info? 50).map (fun i => (i.zero, i.size, i.bytes)) = some (some (.agg #[.int .i64 0, .slice none 0 0]), 2, 32) := by kernel_rfl
theorem elemRow : Elem Try.prog 23 50 (.agg #[.int .i64 0, .slice none 0 0]) 2 32 := ⟨Try.underlying23, infoRow, rfl, by decide⟩

/-- cs are the cells of the rows l -/
def RowCells (Z : Nat → Prop) (w : World) (cs : List Value) (l : List Row) : Prop :=
  cs.length = l.length * 2 ∧ ∀ i (h : i < l.length), cs[i * 2]? = some (.int .i64 l[i].1) ∧ ∃ ai ci, cs[i * 2 + 1]? = some (.slice ai l[i].2.length ci) ∧ IntsZ Z w ai ci l[i].2
theorem RowCells.nil (Z : Nat → Prop) (w : World) : RowCells Z w [] [] := ⟨rfl, fun i h => by simp at h⟩
theorem RowCells.keep {Z Z' : Nat → Prop} {w w' : World} {cs : List Value} {l : List Row} (h : RowCells Z w cs l) (hk : ∀ j, j < w.heap.size → Z j → w'.heap[j]? = w.heap[j]?) (hz : ∀ j, j < w.heap.size → Z j → Z' j) : RowCells Z' w' cs l :=
  ⟨h.1, fun i hi => by
    obtain ⟨h1, ai, ci, h2, h3⟩ := h.2 i hi
    exact ⟨h1, ai, ci, h2, h3.keep hk hz⟩⟩
theorem RowCells.below {Z : Nat → Prop} {w w' : World} {cs : List Value} {l : List Row} (h : RowCells Z w cs l) {B : Nat} (hb : Below B w w') (hB : w.heap.size ≤ B) : RowCells Z w' cs l :=
  h.keep (fun j hj _ => hb.block j (Nat.lt_of_lt_of_le hj hB)) (fun _ _ h => h)
theorem RowCells.snoc {Z : Nat → Prop} {w : World} {cs : List Value} {l : List Row} (h : RowCells Z w cs l) {p : Int} {a : Option Addr} {c : Nat} {xs : List Int} (hi : IntsZ Z w a c xs) : RowCells Z w (cs ++ [.int .i64 p, .slice a xs.length c]) (l ++ [(p, xs)]) := by
  refine ⟨by simp [h.1]; omega, fun i hi' => ?_⟩
  have hl := h.1
  by_cases hlt : i < l.length
  · obtain ⟨h1, ai, ci, h2, h3⟩ := h.2 i hlt
    refine ⟨by rw [List.getElem?_append_left (by omega)]; simpa [List.getElem_append_left hlt] using h1, ai, ci, ?_, ?_⟩
    · rw [List.getElem?_append_left (by omega)]; simpa [List.getElem_append_left hlt] using h2
    · simpa [List.getElem_append_left hlt] using h3
  · have he : i = l.length := by simp at hi'; omega
    subst he
    refine ⟨by rw [List.getElem?_append_right (by omega)]; simp [hl], a, c, ?_, ?_⟩
    · rw [List.getElem?_append_right (by omega)]
      have : l.length * 2 + 1 - cs.length = 1 := by omega
      rw [this]; simp
    · simpa using hi
theorem rowsZ_of_row {Z : Nat → Prop} {w : World} {base : Nat} {v : Value} {cs : List Value} {l : List Row} (h : w.ownsRow base 50 2 v l.length cs) (hc : RowCells Z w cs l) (hz : ∀ j, base ≤ j → Z j) : ∃ a c, v = .slice a l.length c ∧ RowsZ Z w a c l := by
  rcases owns_form h with ⟨rfl, h0, _⟩ | ⟨g, cap, rfl, hb, _, _, _, _, hcell, _⟩
  · have : l = [] := List.eq_nil_of_length_eq_zero h0
    subst this
    exact ⟨none, 0, rfl, .inl rfl, fun _ => ⟨rfl, rfl⟩⟩
  · refine ⟨_, _, rfl, .inr ⟨g, 0, rfl, hz g hb, fun i hi => ?_⟩, fun h => by cases h⟩
    obtain ⟨h1, ai, ci, h2, h3⟩ := hc.2 i hi
    exact ⟨by rw [Nat.zero_add]; exact hcell _ _ h1, ai, ci, by rw [Nat.zero_add]; exact hcell _ _ h2, h3⟩

theorem on_cell {w w' : World} {a : Addr} {v : Value} (hb : Below w.heap.size w w') (h : w.cell? a = some v) : w'.cell? a = some v := (hb.cell (World.block_lt_of_cell? _ _ h)).trans h

/-- an own slice of the rows l, its block at B or behind it, its lists in Z and in other blocks -/
def OwnRows (Z : Nat → Prop) (B : Nat) (w : World) (v : Value) (l : List Row) : Prop := ∃ cs, w.ownsRow B 50 2 v l.length cs ∧ RowCells (fun j => Z j ∧ v.ownBlock ≠ some j) w cs l
theorem OwnRows.nil (Z : Nat → Prop) (B : Nat) (w : World) : OwnRows Z B w (.slice none 0 0) [] := ⟨[], World.ownsRow_nil _ _ _ _, RowCells.nil _ _⟩
theorem OwnRows.below {Z : Nat → Prop} {B : Nat} {w w' : World} {v : Value} {l : List Row} (h : OwnRows Z B w v l) {C : Nat} (hb : Below C w w') (hC : w.heap.size ≤ C) : OwnRows Z B w' v l := by
  obtain ⟨cs, h1, h2⟩ := h
  exact ⟨cs, owns_below h1 hb hC, h2.below hb hC⟩
theorem OwnRows.zone {Z Z' : Nat → Prop} {B : Nat} {w : World} {v : Value} {l : List Row} (h : OwnRows Z B w v l) (hz : ∀ j, Z j → Z' j) : OwnRows Z' B w v l := by
  obtain ⟨cs, h1, h2⟩ := h
  exact ⟨cs, h1, h2.keep (fun _ _ _ => rfl) (fun j _ hj => ⟨hz j hj.1, hj.2⟩)⟩
theorem OwnRows.rowsZ {Z : Nat → Prop} {B : Nat} {w : World} {v : Value} {l : List Row} (h : OwnRows Z B w v l) (hz : ∀ j, B ≤ j → Z j) : ∃ a c, v = .slice a l.length c ∧ RowsZ Z w a c l := by
  obtain ⟨cs, h1, h2⟩ := h
  exact rowsZ_of_row h1 (h2.keep (fun _ _ _ => rfl) (fun j _ hj => hj.1)) hz
theorem OwnRows.push {Z : Nat → Prop} {B : Nat} {wA w2 : World} {v v' : Value} {cs : List Value} {l : List Row} {p : Int} {a : Option Addr} {c : Nat} {xs : List Int} (hc : RowCells (fun j => Z j ∧ v.ownBlock ≠ some j) wA cs l) (hi : IntsZ (fun j => Z j ∧ v.ownBlock ≠ some j) wA a c xs)
    (hown : w2.ownsRow B 50 2 v' (l.length + 1) (cs ++ [.int .i64 p, .slice a xs.length c])) (hg : wA.grownBy w2 v.ownBlock) (hb : v'.ownBlock = v.ownBlock ∨ v'.ownBlock = some wA.heap.size) : OwnRows Z B w2 v' (l ++ [(p, xs)]) := by
  have hk : ∀ j, j < wA.heap.size → Z j ∧ v.ownBlock ≠ some j → w2.heap[j]? = wA.heap[j]? := fun j hj hz => hg.block j hj (fun e => hz.2 e.symm)
  have hz : ∀ j, j < wA.heap.size → Z j ∧ v.ownBlock ≠ some j → Z j ∧ v'.ownBlock ≠ some j := fun j hj hz => ⟨hz.1, by
    rcases hb with h | h
    · rw [h]; exact hz.2
    · rw [h]; intro e; cases e; omega⟩
  exact ⟨_, by simpa using hown, (hc.keep hk hz).snoc (hi.keep hk hz)⟩

end Go.Proofs.Ytkejjiohkhlnnaa
