/-
  What roomyConsts and untouchedConsts do.
-/
import Derived.Test.YtglnbcjffhfaaaaHolds
namespace Go.Proofs.Ytglnbcjffhfaaaa
open Go.RowKit
namespace Mt

theorem elemConst : Elem Try.prog 41 36 (.agg #[.int .i64 0, .int .i64 0, .string ByteArray.empty]) 3 32 := ⟨Try.underlying41, by kernel_rfl, rfl, by decide⟩

def constCells (l : List C3) : List Value := l.flatMap fun c => [.int .i64 c.1, .int .i64 c.2.1, .string c.2.2]
theorem constCells_length (l : List C3) : (constCells l).length = l.length * 3 := by
  induction l with
  | nil => rfl
  | cons x l ih => simp only [constCells, List.flatMap_cons, List.length_append, List.length_cons, List.length_nil] at ih ⊢; omega
theorem constCells_one (l : List C3) : ∀ u ∈ constCells l, u.oneCell' = true := by
  intro u hu
  simp only [constCells, List.mem_flatMap] at hu
  obtain ⟨x, _, hx⟩ := hu
  simp at hx
  rcases hx with rfl | rfl | rfl <;> rfl
theorem constCells_at (l : List C3) (i : Nat) : (constCells l)[i * 3]? = (l[i]?).map (fun c => .int .i64 c.1) ∧ (constCells l)[i * 3 + 1]? = (l[i]?).map (fun c => .int .i64 c.2.1) ∧ (constCells l)[i * 3 + 2]? = (l[i]?).map (fun c => .string c.2.2) := by
  induction l generalizing i with
  | nil => simp [constCells]
  | cons x l ih =>
    cases i with
    | zero => simp [constCells]
    | succ i =>
      have e0 : (i + 1) * 3 = i * 3 + 1 + 1 + 1 := by omega
      have e1 : (i + 1) * 3 + 1 = i * 3 + 1 + 1 + 1 + 1 := by omega
      have e2 : (i + 1) * 3 + 2 = i * 3 + 2 + 1 + 1 + 1 := by omega
      rw [e1, e2, e0]
      simpa [constCells] using ih i
theorem consts_of_cells {w : World} {b o : Nat} {l : List C3} (h : ∀ j u, (constCells l)[j]? = some u → w.cell? ⟨b, o + j, none⟩ = some u) : Consts w (some ⟨b, o, none⟩) l :=
  .inr ⟨b, o, rfl, fun i hi => by
    obtain ⟨h1, h2, h3⟩ := constCells_at l i
    rw [List.getElem?_eq_getElem hi] at h1 h2 h3
    exact ⟨h _ _ h1, by rw [Nat.add_assoc]; exact h _ _ h2, by rw [Nat.add_assoc]; exact h _ _ h3⟩⟩
theorem cells_of_consts {w : World} {b o : Nat} {l : List C3} (h : ∀ i (h : i < l.length), w.cell? ⟨b, o + i * 3, none⟩ = some (.int .i64 l[i].1) ∧ w.cell? ⟨b, o + i * 3 + 1, none⟩ = some (.int .i64 l[i].2.1) ∧ w.cell? ⟨b, o + i * 3 + 2, none⟩ = some (.string l[i].2.2)) :
    ∀ j u, (constCells l)[j]? = some u → w.cell? ⟨b, o + j, none⟩ = some u := by
  intro j u hu
  have hj : j < l.length * 3 := by rw [← constCells_length]; exact (List.getElem?_eq_some_iff.1 hu).1
  obtain ⟨i, hi | hi | hi⟩ : ∃ i, j = i * 3 ∨ j = i * 3 + 1 ∨ j = i * 3 + 2 := ⟨j / 3, by omega⟩
  all_goals
    subst hi
    have hi' : i < l.length := by omega
    obtain ⟨h1, h2, h3⟩ := constCells_at l i
    rw [List.getElem?_eq_getElem hi'] at h1 h2 h3
    obtain ⟨g1, g2, g3⟩ := h i hi'
    first
    | (rw [h1] at hu; rw [g1]; exact hu)
    | (rw [h2] at hu; rw [← Nat.add_assoc, g2]; exact hu)
    | (rw [h3] at hu; rw [← Nat.add_assoc, g3]; exact hu)

/-- the slice a, l, c of constants; nil only where it has no room -/
def ConstSlice (w : World) (a : Option Addr) (c : Nat) (l : List C3) : Prop := Consts w a l ∧ (a = none → l = [] ∧ c = 0)
theorem ConstSlice.below {w w' : World} {B : Nat} {a : Option Addr} {c : Nat} {l : List C3} (h : ConstSlice w a c l) (hb : Below B w w') (hB : w.heap.size ≤ B) : ConstSlice w' a c l := ⟨h.1.below hb hB, h.2⟩
theorem source_consts {w : World} {a : Option Addr} {c : Nat} {l : List C3} (h : ConstSlice w a c l) : Source w a l.length c (constCells l) := by
  cases a with
  | none =>
    obtain ⟨h1, h2⟩ := h.2 rfl
    exact .inl ⟨rfl, by rw [h1]; rfl, h2, by rw [h1]; rfl⟩
  | some ad =>
    refine .inr ⟨ad, rfl, fun j u hu => ?_⟩
    rcases h.1 with rfl | ⟨b, o, he, hc⟩
    · simp [constCells] at hu
    · cases he
      have e : (⟨b, o, none⟩ : Addr).add j = ⟨b, o + j, none⟩ := by unfold Addr.add; split <;> simp_all
      rw [e]
      exact cells_of_consts hc j u hu

/-- a copy with room for one more constant, whose kind is -99 -/
def RoomyC (w : World) (g c : Nat) (l : List C3) : Prop := l.length + 1 ≤ c ∧ Consts w (some ⟨g, 0, none⟩) l ∧ w.cell? ⟨g, l.length * 3, none⟩ = some (.int .i64 (-99)) ∧ g < w.heap.size
theorem RoomyC.below {w w' : World} {g c : Nat} {l : List C3} (h : RoomyC w g c l) (hb : Below w.heap.size w w') : RoomyC w' g c l :=
  ⟨h.1, h.2.1.below hb (Nat.le_refl _), (hb.cell (p := ⟨g, l.length * 3, none⟩) h.2.2.2).trans h.2.2.1, Nat.lt_of_lt_of_le h.2.2.2 hb.size⟩
theorem roomyC_of_row {w : World} {base : Nat} {v : Value} {l : List C3} (h : w.ownsRow base 36 3 v (l.length + 1) (constCells l ++ [.int .i64 (-99), .int .i64 0, .string ByteArray.empty])) :
    ∃ g c, v = .slice (some ⟨g, 0, none⟩) (l.length + 1) c ∧ RoomyC w g c l ∧ base ≤ g ∧ c ≤ maxLen := by
  rcases owns_form h with ⟨_, h0, _⟩ | ⟨g, cap, rfl, hb, hlt, hn, hm, _, hc, _⟩
  · omega
  · refine ⟨g, cap, rfl, ⟨hn, consts_of_cells fun j u hu => ?_, hc _ _ ?_, hlt⟩, hb, hm⟩
    · rw [Nat.zero_add]
      refine hc j u ?_
      rw [List.getElem?_append_left (List.getElem?_eq_some_iff.1 hu).1]; exact hu
    · rw [List.getElem?_append_right (by rw [constCells_length]; omega)]; simp [constCells_length]

set_option maxHeartbeats 2000000 in
theorem roomyConsts_any (aa : Option Addr) (ca : Nat) (l : List C3) (w : World) (ha : ConstSlice w aa ca l) (hl : l.length * 32 ≤ 140737488351232) :
    Calls Try.prog 19 #[.slice aa l.length ca] w fun e w' => ∃ g c, e = .returned (.slice (some ⟨g, 0, none⟩) l.length c) ∧ RoomyC w' g c l ∧ w.heap.size ≤ g ∧ Below w.heap.size w w' := by
  have HA := Lib.hid ha
  clear ha
  go_enter Try.func19, Try.ntmps19
  go_wp2_with (first
    | (at_builtin; refine wpList_append_any elemConst _ rfl (.tmp 4) (.tmp 5) rfl w.heap.size (.slice none 0 0) 0 [] rfl (World.ownsRow_nil _ _ _ _) aa l.length ca (constCells l) rfl (source_consts HA.out) (constCells_length l) (constCells_one l) (by unfold maxLen; omega) (by omega) (Nat.le_refl _) ?_; intro v1 w1 hown1 hgrow1 hblk1; simp only [Nat.zero_add, List.nil_append] at hown1; have hb1 := grown_below hgrow1 (fun k hk => by cases hk) (Nat.le_refl _); have sz1 := hb1.size)
    | (at_builtin; refine wpList_append_any elemConst _ rfl (.tmp 7) (.tmp 9) rfl w.heap.size _ l.length (constCells l) rfl (hown1.alloc _) (some ⟨w1.heap.size, 0, none⟩) 1 1 [.int .i64 (-99), .int .i64 0, .string ByteArray.empty] rfl (source_new _ _ _) rfl (by simp [Value.oneCell']) (by unfold maxLen; omega) (by omega) (by simp; omega) ?_; intro v2 w2 hown2 hgrow2 hblk2; obtain ⟨g, c, rfl, hR, hg, hcm⟩ := roomyC_of_row hown2; have hc1 := hR.1; unfold maxLen at hcm))
  go_ret
  exact ⟨g, c, rfl, hR, hg, (hb1.alloc sz1 _).grown (row := v1.ownBlock) hgrow2 (by simp; omega) (fun k hk => (hown1.lt k hk).1)⟩

set_option maxHeartbeats 2000000 in
theorem untouchedConsts_any (g c cx : Nat) (ao : Option Addr) (l : List C3) (w : World) (hr : RoomyC w g c l) (ha : Consts w ao l) (hl : l.length * 32 ≤ 140737488351232) :
    Calls Try.prog 21 #[.slice (some ⟨g, 0, none⟩) l.length c, .slice ao l.length cx] w fun e w' => e = .returned (.bool true) ∧ ∃ n, w.drewN n = w' := by
  have HR := Lib.hid hr.2.1
  have HA := Lib.hid ha
  have hl1 := hr.1
  have hcell := hr.2.2.1
  clear hr ha
  go_enter Try.func21, Try.ntmps21
  go_wp2
  go_loopw [8] (fun i wr => ∃ k n : Nat, k ≤ l.length ∧ i = .int .i64 k ∧ wr = w.drewN n) (fun i _ => l.length - (intOf i).toNat)
  case atStart => exact ⟨0, 0, Nat.zero_le _, rfl, rfl⟩
  case round =>
    obtain ⟨k, n, hk, rfl, rfl⟩ := hrel
    by_cases hlt : k < l.length
    · rcases HR.out with h | ⟨ba, oa, hba, hca⟩
      · rw [h] at hlt; simp at hlt
      · cases hba
        rcases HA.out with h | ⟨bb, ob, rfl, hcb⟩
        · rw [h] at hlt; simp at hlt
        · have a0 := (hca k hlt).1
          have a1 := (hca k hlt).2.1
          have a2 := (hca k hlt).2.2
          have b0 := (hcb k hlt).1
          have b1 := (hcb k hlt).2.1
          have b2 := (hcb k hlt).2.2
          clear hca hcb
          rw [Nat.zero_add] at a0 a1 a2
          generalize l[k].1 = v0 at *
          generalize l[k].2.1 = n0 at *
          generalize l[k].2.2 = s0 at *
          have hba := World.block_lt_of_cell? _ _ a0
          have hbb := World.block_lt_of_cell? _ _ b0
          simp only at hba hbb
          go_wp2
          go_quiet (fail)
          go_wp2
          go_roundw
          case rel => exact ⟨k + 1, n + nq, by omega, by go_num, rfl⟩
          case measure => simp [intOf]; omega
    · go_wp2
      go_ret
      exact ⟨rfl, n, rfl⟩
end Mt
end Go.Proofs.Ytglnbcjffhfaaaa
