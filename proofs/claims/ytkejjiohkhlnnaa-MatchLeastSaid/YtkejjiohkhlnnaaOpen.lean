/-
  Arguments opened: what a slice of integers, a slice of slots, a pattern that can be read as data lies like.
-/
import Derived.Test.YtkejjiohkhlnnaaCopies
import Derived.ProofKit
import Derived.OpenShut
import Derived.ShutString
import Derived.ChangeOld
import Derived.SizedLaws
import Derived.Lib.SmallJoins
import Derived.Deep.Slices
namespace Go.Proofs.Ytkejjiohkhlnnaa
open Go.RowKit Go.ChangeShapes Go.WideShapes
namespace Mt

theorem cellsInt : Try.prog.cellsOf 3 = 1 := by kernel_rfl
theorem cellsBool : Try.prog.cellsOf 4 = 1 := by kernel_rfl
theorem cellsSlot : Try.prog.cellsOf 58 = 2 := by kernel_rfl
theorem bytesInt : Try.prog.bytesOf 3 = 8 := by kernel_rfl
theorem bytesSlot : Try.prog.bytesOf 58 = 16 := by kernel_rfl

theorem addr_add (b o j : Nat) : (⟨b, o, none⟩ : Addr).add j = ⟨b, o + j, none⟩ := by unfold Addr.add; split <;> simp_all

section
variable {H : Type} {enc : TypeId × Value → H} {W : World} {held : Bool}

/-- a slice of integers, opened: the integers in it, that they fit, and how long its datum is -/
theorem open_intSlice {fuel : Nat} {v : Value} {x : DataW H × List MemPlace} (h : DataW.trod enc Try.prog W 0 (fun _ => true) held fuel 22 [v] = some x) :
    ∃ a c xs, v = .slice a xs.length c ∧ IntSlice W a c xs ∧ (∀ y ∈ xs, (Lit.int .i64 y).wf = true) ∧
      ((x.1 = .nil ∧ xs = []) ∨ ∃ els sp, x.1 = .slice els sp ∧ els.length = xs.length ∧ els.length + sp.length = c ∧ els = xs.map (fun y => .lit (.int .i64 y))) := by
  rcases Deep.open_slice1 Try.underlying22 cellsInt h with ⟨h1, rfl⟩ | ⟨a, len, cap, m, n, V, D, Pl, h1, _, hl, hm, hmm, rfl, hx⟩
  · simp at h1
    subst h1
    exact ⟨none, 0, [], rfl, ⟨.inl rfl, fun _ => ⟨rfl, rfl⟩⟩, by simp, .inl ⟨rfl, rfl⟩⟩
  · simp at h1 hmm
    subst h1; subst hmm
    have hi : ∀ i, i < len → ∃ y, W.cell? (a.add i) = some (.int .i64 y) ∧ D i = .lit (.int .i64 y) ∧ (Lit.int .i64 y).wf = true := by
      intro i hi
      obtain ⟨c1, c2⟩ := hx i (by omega)
      obtain ⟨y, e1, e2, e3⟩ := DataW.trod_int Try.underlying3 c2
      simp at e1
      rw [e1] at c1
      simp only [Prod.mk.injEq] at e2
      exact ⟨y, c1, e2.1, e3⟩
    obtain ⟨f, hf⟩ := Deep.choose_lt (α := Int) hi
    refine ⟨some a, m, (List.range len).map f, by simp, ⟨?_, fun h => by cases h⟩, ?_, .inr ⟨_, _, rfl, by simp, by simp; omega, ?_⟩⟩
    · rcases Nat.eq_zero_or_pos len with h0 | h0
      · exact .inl (by simp [h0])
      · obtain ⟨b, o, sp⟩ := a
        have hs : sp = none := by
          have := World.cell?_spot (hf 0 h0).1
          simpa [Addr.add] using this
        subst hs
        refine .inr ⟨b, o, rfl, fun i hi => ?_⟩
        have hi' : i < len := by simpa using hi
        have := (hf i hi').1
        rw [addr_add] at this
        simpa using this
    · intro y hy
      obtain ⟨i, hi, rfl⟩ := List.mem_map.1 hy
      exact (hf i (by simpa using hi)).2.2
    · rw [List.map_map]
      exact List.map_congr_left fun i hi => (hf i (by simpa using hi)).2.1

/-- a slice of slots, opened -/
theorem open_slotSlice {fuel : Nat} {v : Value} {x : DataW H × List MemPlace} (h : DataW.trod enc Try.prog W 0 (fun _ => true) held fuel 25 [v] = some x) :
    ∃ a c l, v = .slice a l.length c ∧ SlotSlice W a c l ∧ (∀ y ∈ l, (Lit.int .i64 y.2).wf = true) ∧
      ((x.1 = .nil ∧ l = []) ∨ ∃ els sp, x.1 = .slice els sp ∧ els.length = l.length ∧ els.length + sp.length = c) := by
  rcases Deep.open_slice Try.underlying25 h with ⟨h1, rfl⟩ | ⟨a, len, cap, m, n, D, Pl, h1, _, hl, hm, hmm, rfl, hx⟩
  · simp at h1
    subst h1
    exact ⟨none, 0, [], rfl, ⟨.inl rfl, fun _ => ⟨rfl, rfl⟩⟩, by simp, .inl ⟨rfl, rfl⟩⟩
  · simp at h1 hmm
    subst h1; subst hmm
    rw [cellsSlot] at hx
    have hi : ∀ i, i < len → ∃ s : Bool × Int, W.cell? (a.add (i * 2)) = some (.bool s.1) ∧ W.cell? (a.add (i * 2 + 1)) = some (.int .i64 s.2) ∧ (Lit.int .i64 s.2).wf = true := by
      intro i hi
      obtain ⟨cs, c1, c2⟩ := hx i (by omega)
      obtain ⟨_, hlen, hc⟩ := World.cells?_some c1
      match cs, hlen with
      | [u0, u1], _ =>
        obtain ⟨y0, y1, k, _, _, t0, t1⟩ := trod_struct2 Try.underlying58 c2
        have t0' : DataW.trod enc Try.prog W 0 (fun _ => true) held k 4 [u0] = some y0 := by simpa [cellsBool] using t0
        have t1' : DataW.trod enc Try.prog W 0 (fun _ => true) held k 3 [u1] = some y1 := by simpa [cellsInt] using t1
        obtain ⟨bv, e1, _⟩ := DataW.trod_bool Try.underlying4 t0'
        obtain ⟨nv, e2, _, e3⟩ := DataW.trod_int Try.underlying3 t1'
        simp at e1 e2
        subst e1; subst e2
        have g0 := hc 0 (by omega)
        have g1 := hc 1 (by omega)
        refine ⟨(bv, nv), ?_, ?_, e3⟩
        · simpa [Addr.add] using g0
        · rw [Deep.add_add] at g1
          simpa using g1
    obtain ⟨f, hf⟩ := Deep.choose_lt (α := Bool × Int) hi
    refine ⟨some a, m, (List.range len).map f, by simp, ⟨?_, fun h => by cases h⟩, ?_, .inr ⟨_, _, rfl, by simp, by simp; omega⟩⟩
    · rcases Nat.eq_zero_or_pos len with h0 | h0
      · exact .inl (by simp [h0])
      · obtain ⟨b, o, sp⟩ := a
        have hs : sp = none := by
          have := World.cell?_spot (hf 0 h0).1
          simpa [Addr.add] using this
        subst hs
        refine .inr ⟨b, o, rfl, fun i hi => ?_⟩
        have hi' : i < len := by simpa using hi
        obtain ⟨g0, g1, _⟩ := hf i hi'
        rw [addr_add] at g0 g1
        rw [← Nat.add_assoc] at g1
        simpa using And.intro g0 g1
    · intro y hy
      obtain ⟨i, hi, rfl⟩ := List.mem_map.1 hy
      exact (hf i (by simpa using hi)).2.2

end

theorem sized_pattern {H : Type} {ts : List TypeId} {ds : List (DataW H)} {j : Nat} {d0 : DataW H} {els sp : List (DataW H)} (hsz : (DataW.weightsEach Try.prog ts ds).all (· ≤ reachBytes) = true)
    (ht : ts[j]? = some 27) (hd : ds[j]? = some (.agg [d0, .slice els sp])) : (els.length + sp.length) * 16 ≤ 140737488351232 := by
  have := List.all_eq_true.1 hsz _ (DataW.weights_mem_each ht hd ((els.length + sp.length) * Try.prog.bytesOf 58) (by simp [DataW.weights, DataW.weightsEach, Try.underlying27, Try.underlying25]))
  rw [bytesSlot] at this
  exact of_decide_eq_true this
end Mt
end Go.Proofs.Ytkejjiohkhlnnaa
