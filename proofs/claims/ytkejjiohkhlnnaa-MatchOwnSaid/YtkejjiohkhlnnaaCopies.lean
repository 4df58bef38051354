/-
  What copyPattern, roomy and untouched do.
-/
import Derived.Test.YtkejjiohkhlnnaaGround
namespace Go.Proofs.Ytkejjiohkhlnnaa
open Go.RowKit
namespace Mt

theorem elemInt : Elem Try.prog 22 3 (.int .i64 0) 1 8 := ⟨Try.underlying22, info3, rfl, by decide⟩
theorem elemSlot : Elem Try.prog 25 58 (.agg #[.bool false, .int .i64 0]) 2 16 := ⟨Try.underlying25, by kernel_rfl, rfl, by decide⟩

def slotCells (l : List (Bool × Int)) : List Value := l.flatMap fun s => [.bool s.1, .int .i64 s.2]
theorem slotCells_length (l : List (Bool × Int)) : (slotCells l).length = l.length * 2 := by
  induction l with
  | nil => rfl
  | cons x l ih => simp only [slotCells, List.flatMap_cons, List.length_append, List.length_cons, List.length_nil] at ih ⊢; omega
theorem slotCells_one (l : List (Bool × Int)) : ∀ u ∈ slotCells l, u.oneCell' = true := by
  intro u hu
  simp only [slotCells, List.mem_flatMap] at hu
  obtain ⟨x, _, hx⟩ := hu
  simp at hx
  rcases hx with rfl | rfl <;> rfl
theorem slotCells_even (l : List (Bool × Int)) (i : Nat) : (slotCells l)[i * 2]? = (l[i]?).map fun s => .bool s.1 := by
  induction l generalizing i with
  | nil => simp [slotCells]
  | cons x l ih =>
    cases i with
    | zero => simp [slotCells]
    | succ i =>
      have : (i + 1) * 2 = i * 2 + 1 + 1 := by omega
      rw [this]
      simpa [slotCells] using ih i
theorem slotCells_odd (l : List (Bool × Int)) (i : Nat) : (slotCells l)[i * 2 + 1]? = (l[i]?).map fun s => .int .i64 s.2 := by
  induction l generalizing i with
  | nil => simp [slotCells]
  | cons x l ih =>
    cases i with
    | zero => simp [slotCells]
    | succ i =>
      have : (i + 1) * 2 + 1 = i * 2 + 1 + 1 + 1 := by omega
      rw [this]
      simpa [slotCells] using ih i
theorem slots_of_cells {w : World} {b o : Nat} {l : List (Bool × Int)} (h : ∀ j u, (slotCells l)[j]? = some u → w.cell? ⟨b, o + j, none⟩ = some u) : Slots w (some ⟨b, o, none⟩) l :=
  .inr ⟨b, o, rfl, fun i hi => ⟨h (i * 2) _ (by rw [slotCells_even, List.getElem?_eq_getElem hi]; rfl), by
    rw [Nat.add_assoc]; exact h (i * 2 + 1) _ (by rw [slotCells_odd, List.getElem?_eq_getElem hi]; rfl)⟩⟩
theorem cells_of_slots {w : World} {b o : Nat} {l : List (Bool × Int)} (h : ∀ i (h : i < l.length), w.cell? ⟨b, o + i * 2, none⟩ = some (.bool l[i].1) ∧ w.cell? ⟨b, o + i * 2 + 1, none⟩ = some (.int .i64 l[i].2)) :
    ∀ j u, (slotCells l)[j]? = some u → w.cell? ⟨b, o + j, none⟩ = some u := by
  intro j u hu
  have hj : j < l.length * 2 := by rw [← slotCells_length]; exact (List.getElem?_eq_some_iff.1 hu).1
  obtain ⟨i, hi | hi⟩ : ∃ i, j = i * 2 ∨ j = i * 2 + 1 := ⟨j / 2, by omega⟩
  · subst hi
    have hi' : i < l.length := by omega
    rw [slotCells_even, List.getElem?_eq_getElem hi'] at hu
    rw [(h i hi').1]; exact hu
  · subst hi
    have hi' : i < l.length := by omega
    rw [slotCells_odd, List.getElem?_eq_getElem hi'] at hu
    rw [← Nat.add_assoc, (h i hi').2]; exact hu

theorem source_slots {w : World} {a : Option Addr} {c : Nat} {l : List (Bool × Int)} (h : Slots w a l) (hn : a = none → l = [] ∧ c = 0) : Source w a l.length c (slotCells l) := by
  cases a with
  | none =>
    obtain ⟨h1, h2⟩ := hn rfl
    exact .inl ⟨rfl, by rw [h1]; rfl, h2, by rw [h1]; rfl⟩
  | some ad =>
    refine .inr ⟨ad, rfl, fun j u hu => ?_⟩
    rcases h with rfl | ⟨b, o, he, hc⟩
    · simp [slotCells] at hu
    · cases he
      have e : (⟨b, o, none⟩ : Addr).add j = ⟨b, o + j, none⟩ := by unfold Addr.add; split <;> simp_all
      rw [e]
      exact cells_of_slots hc j u hu

/-- the slice a, l, c holds the slots l, and is nil only where it has no room -/
def SlotSlice (w : World) (a : Option Addr) (c : Nat) (l : List (Bool × Int)) : Prop := Slots w a l ∧ (a = none → l = [] ∧ c = 0)
theorem SlotSlice.below {w w' : World} {B : Nat} {a : Option Addr} {c : Nat} {l : List (Bool × Int)} (h : SlotSlice w a c l) (hb : Below B w w') (hB : w.heap.size ≤ B) : SlotSlice w' a c l := ⟨h.1.below hb hB, h.2⟩
theorem slots_of_row {w : World} {base : Nat} {v : Value} {l : List (Bool × Int)} (h : w.ownsRow base 58 2 v l.length (slotCells l)) : ∃ a c, v = .slice a l.length c ∧ SlotSlice w a c l ∧ ∀ ad, a = some ad → base ≤ ad.block := by
  rcases owns_form h with ⟨rfl, h0, h1⟩ | ⟨g, cap, rfl, hb, _, _, _, _, hc, _⟩
  · have hl : l = [] := List.eq_nil_of_length_eq_zero h0
    subst hl
    exact ⟨none, 0, rfl, ⟨.inl rfl, fun _ => ⟨rfl, rfl⟩⟩, fun _ h => by cases h⟩
  · exact ⟨_, _, rfl, ⟨slots_of_cells (by simpa using hc), fun h => by cases h⟩, fun _ h => by cases h; exact hb⟩

theorem SlotSlice.setCell {w : World} {a : Option Addr} {c : Nat} {l : List (Bool × Int)} (h : SlotSlice w a c l) {p : Addr} (hne : ∀ ad, a = some ad → ad.block ≠ p.block) (u : Value) : SlotSlice (w.setCell p u) a c l := by
  refine ⟨?_, h.2⟩
  rcases h.1 with h | ⟨b, o, rfl, hc⟩
  · exact .inl h
  · have hb : b ≠ p.block := hne _ rfl
    refine .inr ⟨b, o, rfl, fun i hi => ?_⟩
    rw [World.cell?_setCell_other _ _ _ _ (by rintro rfl; exact hb rfl), World.cell?_setCell_other _ _ _ _ (by rintro rfl; exact hb rfl)]
    exact hc i hi
/-- what a call of copyPattern leaves -/
def CopyEnd (pred : Int) (l : List (Bool × Int)) (w : World) (e : Ending) (w' : World) : Prop :=
  ∃ a c, e = .returned (.agg #[.int .i64 pred, .slice a l.length c]) ∧ SlotSlice w' a c l ∧ Below w.heap.size w w'

set_option maxHeartbeats 2000000 in
theorem copyPattern_any (pred : Int) (ap : Option Addr) (cp : Nat) (l : List (Bool × Int)) (w : World) (hp : SlotSlice w ap cp l) (hl : l.length * 16 ≤ 140737488351232) :
    Calls Try.prog 64 #[.agg #[.int .i64 pred, .slice ap l.length cp]] w (CopyEnd pred l w) := by
  have HP := Lib.hid hp
  clear hp
  go_enter Try.func64, Try.ntmps64
  go_wp2_with (at_builtin; refine wpList_append_any elemSlot _ rfl _ _ rfl (w.heap.size + 3) (.slice none 0 0) 0 [] rfl (World.ownsRow_nil _ _ _ _) ap l.length cp (slotCells l) rfl (source_slots (HP.out.below ((((Below.refl _ _).alloc (Nat.le_refl _) _).alloc (by simp) _).alloc (by simp; omega) _) (Nat.le_refl _)).1 HP.out.2) (slotCells_length l) (slotCells_one l) (by unfold maxLen; omega) (by omega) (by simp) ?_; intro v' w1 hown hgrow hblk; obtain ⟨a', c', rfl, hS, hA⟩ := slots_of_row (by simpa using hown); have hb1 := grown_below hgrow (fun k hk => by cases hk) (Nat.le_refl _); have q0 := hb1.cell (p := ⟨w.heap.size + 1, 0, none⟩) (by simp); have q1 := hb1.cell (p := ⟨w.heap.size + 1, 1, none⟩) (by simp); have r0 := hb1.cell (p := ⟨w.heap.size + 2, 0, none⟩) (by simp); have r1 := hb1.cell (p := ⟨w.heap.size + 2, 1, none⟩) (by simp); have f1 : ∀ j, w1.frozen? ⟨w.heap.size + 1, j, none⟩ = false := fun j => (hb1.frozen (p := ⟨w.heap.size + 1, j, none⟩) (by simp)).trans (by go_simp); have f2 : ∀ j, w1.frozen? ⟨w.heap.size + 2, j, none⟩ = false := fun j => (hb1.frozen (p := ⟨w.heap.size + 2, j, none⟩) (by simp)).trans (by go_simp); have sz := hb1.size; clear hown hgrow hblk; simp at q0 q1 r0 r1 sz)
  refine bodyPost_ret (v := .agg #[.int .i64 pred, .slice a' l.length c']) ?_ rfl ⟨a', c', rfl, ?_, ?_⟩
  · simp [results, Try.results64, go_sem, q0, q1]
  · exact ((hS.setCell (fun ad h => by have := hA ad h; simp; omega) _).setCell (fun ad h => by have := hA ad h; simp; omega) _).setCell (fun ad h => by have := hA ad h; simp; omega) _
  · exact ((((((Below.refl _ _).alloc (Nat.le_refl _) _).alloc (by simp) _).alloc (by simp; omega) _).trans (hb1.mono (by simp; omega))).setCell (by simp; omega) _).setCell (by simp) _ |>.setCell (by simp) _

/-- the slice a, xs, c of integers; it is nil only where it has no room -/
def IntSlice (w : World) (a : Option Addr) (c : Nat) (xs : List Int) : Prop := Ints w a xs ∧ (a = none → xs = [] ∧ c = 0)
theorem IntSlice.below {w w' : World} {a : Option Addr} {c : Nat} {l : List Int} (h : IntSlice w a c l) (hb : Below w.heap.size w w') : IntSlice w' a c l := ⟨h.1.below hb, h.2⟩
theorem source_ints {w : World} {a : Option Addr} {c : Nat} {xs : List Int} (h : IntSlice w a c xs) : Source w a xs.length c (xs.map (Value.int .i64)) := by
  cases a with
  | none =>
    obtain ⟨h1, h2⟩ := h.2 rfl
    exact .inl ⟨rfl, by rw [h1]; rfl, h2, by rw [h1]; rfl⟩
  | some ad =>
    refine .inr ⟨ad, rfl, fun j u hu => ?_⟩
    rcases h.1 with rfl | ⟨b, o, he, hc⟩
    · simp at hu
    · cases he
      have e : (⟨b, o, none⟩ : Addr).add j = ⟨b, o + j, none⟩ := by unfold Addr.add; split <;> simp_all
      rw [e]
      rw [List.getElem?_map] at hu
      obtain ⟨x, hx, rfl⟩ := Option.map_eq_some_iff.1 hu
      obtain ⟨hj, rfl⟩ := List.getElem?_eq_some_iff.1 hx
      exact hc j hj
theorem ints_one (xs : List Int) : ∀ u ∈ xs.map (Value.int .i64), u.oneCell' = true := by
  intro u hu
  obtain ⟨x, _, rfl⟩ := List.mem_map.1 hu
  rfl

/-- a copy with room for one more element, which is -99 -/
def Roomy (w : World) (g c : Nat) (xs : List Int) : Prop := xs.length + 1 ≤ c ∧ (∀ j (h : j < xs.length), w.cell? ⟨g, j, none⟩ = some (.int .i64 xs[j])) ∧ w.cell? ⟨g, xs.length, none⟩ = some (.int .i64 (-99)) ∧ g < w.heap.size
theorem Roomy.below {w w' : World} {g c : Nat} {xs : List Int} (h : Roomy w g c xs) (hb : Below w.heap.size w w') : Roomy w' g c xs :=
  ⟨h.1, fun j hj => (hb.cell (p := ⟨g, j, none⟩) h.2.2.2).trans (h.2.1 j hj), (hb.cell (p := ⟨g, xs.length, none⟩) h.2.2.2).trans h.2.2.1, Nat.lt_of_lt_of_le h.2.2.2 hb.size⟩
theorem Roomy.ints {w : World} {g c : Nat} {xs : List Int} (h : Roomy w g c xs) : IntSlice w (some ⟨g, 0, none⟩) c xs :=
  ⟨.inr ⟨g, 0, rfl, fun j hj => by rw [Nat.zero_add]; exact h.2.1 j hj⟩, fun h => by cases h⟩

theorem roomy_of_row {w : World} {base : Nat} {v : Value} {xs : List Int} (h : w.ownsRow base 3 1 v (xs.length + 1) (xs.map (Value.int .i64) ++ [.int .i64 (-99)])) :
    ∃ g c, v = .slice (some ⟨g, 0, none⟩) (xs.length + 1) c ∧ Roomy w g c xs ∧ base ≤ g ∧ c ≤ maxLen := by
  rcases owns_form h with ⟨_, h0, _⟩ | ⟨g, cap, rfl, hb, hlt, hn, hm, _, hc, _⟩
  · omega
  · refine ⟨g, cap, rfl, ⟨hn, fun j hj => hc j _ ?_, hc _ _ ?_, hlt⟩, hb, hm⟩
    · rw [List.getElem?_append_left (by simpa using hj)]; simp [hj]
    · rw [List.getElem?_append_right (by simp)]; simp

set_option maxHeartbeats 2000000 in
theorem samePattern_any (pred : Int) (a b : Option Addr) (ca cb : Nat) (l : List (Bool × Int)) (w : World) (ha : Slots w a l) (hb : Slots w b l) (hl : l.length * 16 ≤ 140737488351232) :
    Calls Try.prog 66 #[.agg #[.int .i64 pred, .slice a l.length ca], .agg #[.int .i64 pred, .slice b l.length cb]] w fun e w' => e = .returned (.bool true) ∧ Below w.heap.size w w' := by
  have HA := Lib.hid ha
  have HB := Lib.hid hb
  have hpp : (pred != pred) = false := by simp
  clear ha hb
  go_enter Try.func66, Try.ntmps66
  go_wp2
  go_loopw [23] (fun i wr => ∃ k n : Nat, k ≤ l.length ∧ i = .int .i64 k ∧ wr = ((w.alloc (.cells #[.int .i64 pred, .slice a l.length ca] 27)).alloc (.cells #[.int .i64 pred, .slice b l.length cb] 27)).drewN n) (fun i _ => l.length - (intOf i).toNat)
  case atStart => exact ⟨0, 0, Nat.zero_le _, rfl, rfl⟩
  case round =>
    obtain ⟨k, n, hk, rfl, rfl⟩ := hrel
    by_cases hlt : k < l.length
    · rcases HA.out with h | ⟨ba, oa, rfl, hca⟩
      · rw [h] at hlt; simp at hlt
      · rcases HB.out with h | ⟨bb, ob, rfl, hcb⟩
        · rw [h] at hlt; simp at hlt
        · have a0 := (hca k hlt).1
          have a1 := (hca k hlt).2
          have b0 := (hcb k hlt).1
          have b1 := (hcb k hlt).2
          clear hca hcb
          generalize l[k].1 = v0 at *
          generalize l[k].2 = n0 at *
          have hba := World.block_lt_of_cell? _ _ a0
          have hbb := World.block_lt_of_cell? _ _ b0
          simp only at hba hbb
          go_wp2
          go_quiet (fail)
          go_wp2
          go_roundw
          case rel => exact ⟨k + 1, n + nq, by omega, by go_num, rfl⟩
          case measure => simp [intOf]; omega
    · go_wp2
      go_ret
      exact ⟨rfl, below_drewN (((Below.refl _ _).alloc (Nat.le_refl _) _).alloc (by simp) _) _⟩
end Mt
end Go.Proofs.Ytkejjiohkhlnnaa
