/-
  Arguments opened: a slice of integers, of rows, of lists of rows, that can be read as data: how it lies, and that its datum's bulk is no less.
-/
import Derived.Test.YtgodidoibcomcaaSBatch
import Derived.ProofKit
import Derived.OpenShut
import Derived.ChangeOld
import Derived.SizedLaws
import Derived.Lib.SmallJoins
import Derived.Deep.Slices
namespace Go.Proofs.Ytgodidoibcomcaa
open Go.RowKit Go.ChangeShapes Go.WideShapes
namespace Op

theorem one_le {H : Type} (d : DataW H) : 1 ≤ Rows.uptoBulk d := by
  cases d with
  | lit l => cases l <;> simp [Rows.uptoBulk]
  | nil => simp [Rows.uptoBulk]
  | ptr d => simp [Rows.uptoBulk]
  | slice elems spare => simp [Rows.uptoBulk]
  | agg parts => simp [Rows.uptoBulk]
  | iface t d => simp [Rows.uptoBulk]
  | map entries => simp [Rows.uptoBulk]
  | held h => simp [Rows.uptoBulk]
theorem length_le {H : Type} (l : List (DataW H)) : l.length ≤ Rows.uptoBulkAll l := by
  induction l with
  | nil => simp [Rows.uptoBulkAll]
  | cons x r ih => have := one_le x; simp only [Rows.uptoBulkAll, List.length_cons]; omega
theorem sum_le {H : Type} (n : Nat) (f : Nat → Nat) (D : Nat → DataW H) (h : ∀ i, i < n → f i ≤ Rows.uptoBulk (D i)) : ((List.range n).map f).sum ≤ Rows.uptoBulkAll ((List.range n).map D) := by
  have key : ∀ l : List Nat, (∀ i ∈ l, i < n) → (l.map f).sum ≤ Rows.uptoBulkAll (l.map D) := by
    intro l
    induction l with
    | nil => simp [Rows.uptoBulkAll]
    | cons x r ih =>
      intro hl
      have h1 := h x (hl x (by simp))
      have h2 := ih (fun i hi => hl i (List.mem_cons_of_mem _ hi))
      simp only [List.map_cons, List.sum_cons, Rows.uptoBulkAll]
      omega
  exact key _ (fun i hi => List.mem_range.1 hi)

theorem cellsInt : Try.prog.cellsOf 3 = 1 := by kernel_rfl
theorem cellsInts : Try.prog.cellsOf 22 = 1 := by kernel_rfl
theorem cellsRow : Try.prog.cellsOf 28 = 2 := by kernel_rfl
theorem cellsRows : Try.prog.cellsOf 29 = 1 := by kernel_rfl

theorem addr_add (b o j : Nat) : (⟨b, o, none⟩ : Addr).add j = ⟨b, o + j, none⟩ := by unfold Addr.add; split <;> simp_all
theorem rng_wf {y : Int} (h : (Lit.int .i64 y).wf = true) : Rng y := by
  simp [Lit.wf, IntKind.min, IntKind.max, IntKind.signed, IntKind.bits] at h
  exact ⟨by omega, by omega⟩

section
variable {H : Type} {enc : TypeId × Value → H} {W : World} {held : Bool}

theorem open_ints {fuel : Nat} {v : Value} {x : DataW H × List MemPlace} (h : DataW.trod enc Try.prog W 0 (fun _ => true) held fuel 22 [v] = some x) :
    ∃ a c xs, v = .slice a xs.length c ∧ IntsZ (fun _ => True) W a c xs ∧ (∀ y ∈ xs, Rng y) ∧ xs.length ≤ maxLen ∧ xs.length ≤ Rows.uptoBulk x.1 := by
  rcases Deep.open_slice1 Try.underlying22 cellsInt h with ⟨h1, rfl⟩ | ⟨a, len, cap, m, n, V, D, Pl, h1, _, hl, hm, hmm, rfl, hx⟩
  · simp at h1
    subst h1
    exact ⟨none, 0, [], rfl, ⟨.inl rfl, fun _ => ⟨rfl, rfl⟩⟩, by simp, by simp, by simp⟩
  · simp at h1 hmm
    subst h1; subst hmm
    have hi : ∀ i, i < len → ∃ y, W.cell? (a.add i) = some (.int .i64 y) ∧ (Lit.int .i64 y).wf = true := by
      intro i hi
      obtain ⟨c1, c2⟩ := hx i (by omega)
      obtain ⟨y, e1, e2, e3⟩ := DataW.trod_int Try.underlying3 c2
      simp at e1
      rw [e1] at c1
      exact ⟨y, c1, e3⟩
    obtain ⟨f, hf⟩ := Deep.choose_lt (α := Int) hi
    refine ⟨some a, m, (List.range len).map f, by simp, ⟨?_, fun h => by cases h⟩, ?_, by simp; omega, ?_⟩
    · rcases Nat.eq_zero_or_pos len with h0 | h0
      · exact .inl (by simp [h0])
      · obtain ⟨b, o, sp⟩ := a
        have hs : sp = none := by
          have := World.cell?_spot (hf 0 h0).1
          simpa [Addr.add] using this
        subst hs
        refine .inr ⟨b, o, rfl, trivial, fun i hi => ?_⟩
        have hi' : i < len := by simpa using hi
        have := (hf i hi').1
        rw [addr_add] at this
        simpa using this
    · intro y hy
      obtain ⟨i, hi, rfl⟩ := List.mem_map.1 hy
      exact rng_wf (hf i (by simpa using hi)).2
    · have := length_le ((List.range len).map D)
      simp only [Rows.uptoBulk, List.length_map, List.length_range] at this ⊢
      omega

theorem open_rows {fuel : Nat} {v : Value} {x : DataW H × List MemPlace} (h : DataW.trod enc Try.prog W 0 (fun _ => true) held fuel 29 [v] = some x) :
    ∃ a c l, v = .slice a l.length c ∧ RowsZ (fun _ => True) W a c l ∧ (∀ r ∈ l, RowOk r) ∧ l.length ≤ maxLen ∧ l.length ≤ Rows.uptoBulk x.1 := by
  rcases Deep.open_slice Try.underlying29 h with ⟨h1, rfl⟩ | ⟨a, len, cap, m, n, D, Pl, h1, _, hl, hm, hmm, rfl, hx⟩
  · simp at h1
    subst h1
    exact ⟨none, 0, [], rfl, ⟨.inl rfl, fun _ => ⟨rfl, rfl⟩⟩, by simp, by simp, by simp⟩
  · simp at h1 hmm
    subst h1; subst hmm
    rw [cellsRow] at hx
    have hi : ∀ i, i < len → ∃ s : Int × Option Addr × Nat × List Int, W.cell? (a.add (i * 2)) = some (.int .i64 s.1) ∧ W.cell? (a.add (i * 2 + 1)) = some (.slice s.2.1 s.2.2.2.length s.2.2.1) ∧ IntsZ (fun _ => True) W s.2.1 s.2.2.1 s.2.2.2 ∧ RowOk (s.1, s.2.2.2) := by
      intro i hi
      obtain ⟨cs, c1, c2⟩ := hx i (by omega)
      obtain ⟨_, hlen, hc⟩ := World.cells?_some c1
      match cs, hlen with
      | [u0, u1], _ =>
        obtain ⟨y0, y1, k, _, _, t0, t1⟩ := trod_struct2 Try.underlying28 c2
        have t0' : DataW.trod enc Try.prog W 0 (fun _ => true) held k 3 [u0] = some y0 := by simpa [cellsInt] using t0
        have t1' : DataW.trod enc Try.prog W 0 (fun _ => true) held k 22 [u1] = some y1 := by simpa [cellsInts] using t1
        obtain ⟨nv, e2, _, e3⟩ := DataW.trod_int Try.underlying3 t0'
        obtain ⟨ai, ci, xs, e4, hI, hR, hml, _⟩ := open_ints t1'
        simp at e2
        subst e2; subst e4
        have g0 := hc 0 (by omega)
        have g1 := hc 1 (by omega)
        refine ⟨(nv, ai, ci, xs), ?_, ?_, hI, rng_wf e3, by unfold maxLen at hml; simpa using hml, hR⟩
        · simpa [Addr.add] using g0
        · rw [Deep.add_add] at g1
          simpa using g1
    obtain ⟨f, hf⟩ := Deep.choose_lt (α := Int × Option Addr × Nat × List Int) hi
    refine ⟨some a, m, (List.range len).map (fun i => ((f i).1, (f i).2.2.2)), by simp, ⟨?_, fun h => by cases h⟩, ?_, by simp; omega, ?_⟩
    · rcases Nat.eq_zero_or_pos len with h0 | h0
      · exact .inl (by simp [h0])
      · obtain ⟨b, o, sp⟩ := a
        have hs : sp = none := by
          have := World.cell?_spot (hf 0 h0).1
          simpa [Addr.add] using this
        subst hs
        refine .inr ⟨b, o, rfl, trivial, fun i hi => ?_⟩
        have hi' : i < len := by simpa using hi
        obtain ⟨g0, g1, g2, _⟩ := hf i hi'
        rw [addr_add] at g0 g1
        rw [← Nat.add_assoc] at g1
        refine ⟨by simpa using g0, (f i).2.1, (f i).2.2.1, by simpa using g1, by simpa using g2⟩
    · intro y hy
      obtain ⟨i, hi, rfl⟩ := List.mem_map.1 hy
      exact (hf i (by simpa using hi)).2.2.2
    · have := length_le ((List.range len).map D)
      simp only [Rows.uptoBulk, List.length_map, List.length_range] at this ⊢
      omega

theorem open_batches {fuel : Nat} {v : Value} {x : DataW H × List MemPlace} (h : DataW.trod enc Try.prog W 0 (fun _ => true) held fuel 23 [v] = some x) :
    ∃ a c B, v = .slice a B.length c ∧ BatchesZ (fun _ => True) W a B ∧ (∀ m ∈ B, ∀ r ∈ m, RowOk r) ∧ B.length ≤ maxLen ∧ (B.map List.length).sum ≤ Rows.uptoBulk x.1 := by
  rcases Deep.open_slice1 Try.underlying23 cellsRows h with ⟨h1, rfl⟩ | ⟨a, len, cap, m, n, V, D, Pl, h1, _, hl, hm, hmm, rfl, hx⟩
  · simp at h1
    subst h1
    exact ⟨none, 0, [], rfl, .inl rfl, by simp, by simp, by simp⟩
  · simp at h1 hmm
    subst h1; subst hmm
    have hi : ∀ i, i < len → ∃ s : Option Addr × Nat × List Row, W.cell? (a.add i) = some (.slice s.1 s.2.2.length s.2.1) ∧ RowsZ (fun _ => True) W s.1 s.2.1 s.2.2 ∧ (∀ r ∈ s.2.2, RowOk r) ∧ s.2.2.length ≤ Rows.uptoBulk (D i) := by
      intro i hi
      obtain ⟨c1, c2⟩ := hx i (by omega)
      obtain ⟨ai, ci, l, e1, hR, hO, _, hb⟩ := open_rows c2
      rw [e1] at c1
      exact ⟨(ai, ci, l), c1, hR, hO, hb⟩
    obtain ⟨f, hf⟩ := Deep.choose_lt (α := Option Addr × Nat × List Row) hi
    refine ⟨some a, m, (List.range len).map (fun i => (f i).2.2), by simp, ?_, ?_, by simp; omega, ?_⟩
    · rcases Nat.eq_zero_or_pos len with h0 | h0
      · exact .inl (by simp [h0])
      · obtain ⟨b, o, sp⟩ := a
        have hs : sp = none := by
          have := World.cell?_spot (hf 0 h0).1
          simpa [Addr.add] using this
        subst hs
        refine .inr ⟨b, o, rfl, trivial, fun i hi => ?_⟩
        have hi' : i < len := by simpa using hi
        obtain ⟨g0, g1, _, _⟩ := hf i hi'
        rw [addr_add] at g0
        exact ⟨(f i).1, (f i).2.1, by simpa using g0, by simpa using g1⟩
    · intro y hy
      obtain ⟨i, hi, rfl⟩ := List.mem_map.1 hy
      exact (hf i (by simpa using hi)).2.2.1
    · have := sum_le len (fun i => (f i).2.2.length) D (fun i hi => (hf i hi).2.2.2)
      rw [List.map_map]
      simp only [Rows.uptoBulk]
      exact Nat.le_trans this (by omega)
end
end Op
end Go.Proofs.Ytgodidoibcomcaa
