/-
  Arguments opened: a slice of constants, a test.
-/
import Derived.Test.YtglnbcjffhfaaaaConsts
import Derived.Test.YtglnbcjffhfaaaaOpen
import Derived.Deep.Strs
namespace Go.Proofs.Ytglnbcjffhfaaaa
open Go.RowKit Go.ChangeShapes Go.WideShapes
namespace Mt

theorem cellsInt64 : Try.prog.cellsOf 2 = 1 := by kernel_rfl
theorem cellsString : Try.prog.cellsOf 9 = 1 := by kernel_rfl
theorem cellsConst : Try.prog.cellsOf 36 = 3 := by kernel_rfl
theorem cellsTest : Try.prog.cellsOf 45 = 5 := by kernel_rfl
theorem bytesConst : Try.prog.bytesOf 36 = 32 := by kernel_rfl

section
variable {H : Type} {enc : TypeId × Value → H} {W : World} {held : Bool}

/-- one slot's two cells, read -/
theorem read_slot {fuel : Nat} {cs : List Value} {x : DataW H × List MemPlace} (h : DataW.trod enc Try.prog W 0 (fun _ => true) held fuel 43 cs = some x) : ∃ (b : Bool) (n : Int), cs = [.bool b, .int .i64 n] := by
  obtain ⟨y0, y1, k, _, hl, t0, t1⟩ := trod_struct2 Try.underlying43 h
  rw [cellsSlot] at hl
  match cs, hl with
  | [u0, u1], _ =>
    have t0' : DataW.trod enc Try.prog W 0 (fun _ => true) held k 4 [u0] = some y0 := by simpa [cellsBool] using t0
    have t1' : DataW.trod enc Try.prog W 0 (fun _ => true) held k 3 [u1] = some y1 := by simpa [cellsInt] using t1
    obtain ⟨bv, e1, _⟩ := DataW.trod_bool Try.underlying4 t0'
    obtain ⟨nv, e2, _, e3⟩ := DataW.trod_int Try.underlying3 t1'
    simp at e1 e2
    subst e1; subst e2
    exact ⟨bv, nv, rfl⟩

/-- a test, opened -/
theorem open_test {r : Reach} {b0 : Nat} {v : Value} {d : DataW H} {p : List MemPlace} (hv : Value.okWide Try.prog W r b0 45 v) (h : DataW.Trod enc Try.prog W 0 (fun _ => true) held 45 v d p) :
    ∃ (op : Int) (lv : Bool) (ln : Int) (rv : Bool) (rn : Int), v = .agg #[.int .i64 op, .bool lv, .int .i64 ln, .bool rv, .int .i64 rn] := by
  obtain ⟨cs, rfl, hsz⟩ := okWide_struct Try.underlying45 hv
  rw [cellsTest] at hsz
  obtain ⟨cs⟩ := cs
  match cs, hsz with
  | [u0, u1, u2, u3, u4], _ =>
    obtain ⟨fuel, hf⟩ := h
    obtain ⟨y0, y1, y2, n, _, _, t0, t1, t2⟩ := Deep.trod_struct3 Try.underlying45 hf
    have t0' : DataW.trod enc Try.prog W 0 (fun _ => true) held n 3 [u0] = some y0 := by simpa [cellsInt, Value.cells] using t0
    have t1' : DataW.trod enc Try.prog W 0 (fun _ => true) held n 43 [u1, u2] = some y1 := by simpa [cellsSlot, Value.cells] using t1
    have t2' : DataW.trod enc Try.prog W 0 (fun _ => true) held n 43 [u3, u4] = some y2 := by simpa [cellsSlot, Value.cells] using t2
    obtain ⟨op, e0, _, _⟩ := DataW.trod_int Try.underlying3 t0'
    obtain ⟨lv, ln, e1⟩ := read_slot t1'
    obtain ⟨rv, rn, e2⟩ := read_slot t2'
    simp at e0 e1 e2
    obtain ⟨rfl, rfl⟩ := e1
    obtain ⟨rfl, rfl⟩ := e2
    subst e0
    exact ⟨_, _, _, _, _, rfl⟩

/-- a slice of constants, opened -/
theorem open_constSlice {fuel : Nat} {v : Value} {x : DataW H × List MemPlace} (h : DataW.trod enc Try.prog W 0 (fun _ => true) held fuel 41 [v] = some x) :
    ∃ a c l, v = .slice a l.length c ∧ ConstSlice W a c l ∧ (∀ y ∈ l, y.2.2.size ≤ 9223372036854775807) ∧
      ((x.1 = .nil ∧ l = []) ∨ ∃ els sp, x.1 = .slice els sp ∧ els.length = l.length ∧ els.length + sp.length = c) := by
  rcases Deep.open_slice Try.underlying41 h with ⟨h1, rfl⟩ | ⟨a, len, cap, m, n, D, Pl, h1, _, hl, hm, hmm, rfl, hx⟩
  · simp at h1
    subst h1
    exact ⟨none, 0, [], rfl, ⟨.inl rfl, fun _ => ⟨rfl, rfl⟩⟩, by simp, .inl ⟨rfl, rfl⟩⟩
  · simp at h1 hmm
    subst h1; subst hmm
    rw [cellsConst] at hx
    have hi : ∀ i, i < len → ∃ s : C3, W.cell? (a.add (i * 3)) = some (.int .i64 s.1) ∧ W.cell? (a.add (i * 3 + 1)) = some (.int .i64 s.2.1) ∧ W.cell? (a.add (i * 3 + 2)) = some (.string s.2.2) ∧ s.2.2.size ≤ 9223372036854775807 := by
      intro i hi
      obtain ⟨cs, c1, c2⟩ := hx i (by omega)
      obtain ⟨_, hlen, hc⟩ := World.cells?_some c1
      match cs, hlen with
      | [u0, u1, u2], _ =>
        obtain ⟨y0, y1, y2, k, _, _, t0, t1, t2⟩ := Deep.trod_struct3 Try.underlying36 c2
        have t0' : DataW.trod enc Try.prog W 0 (fun _ => true) held k 3 [u0] = some y0 := by simpa [cellsInt] using t0
        have t1' : DataW.trod enc Try.prog W 0 (fun _ => true) held k 2 [u1] = some y1 := by simpa [cellsInt64] using t1
        have t2' : DataW.trod enc Try.prog W 0 (fun _ => true) held k 9 [u2] = some y2 := by simpa [cellsString] using t2
        obtain ⟨kv, e0, _, _⟩ := DataW.trod_int Try.underlying3 t0'
        obtain ⟨nv, e1, _, _⟩ := DataW.trod_int Try.underlying2 t1'
        obtain ⟨sv, e2, _, e3⟩ := DataW.trod_string Try.underlying9 t2'
        simp at e0 e1 e2
        subst e0; subst e1; subst e2
        have g0 := hc 0 (by omega)
        have g1 := hc 1 (by omega)
        have g2 := hc 2 (by omega)
        refine ⟨(kv, nv, sv), ?_, ?_, ?_, e3⟩
        · simpa [Addr.add] using g0
        · rw [Deep.add_add] at g1
          simpa using g1
        · rw [Deep.add_add] at g2
          simpa using g2
    obtain ⟨f, hf⟩ := Deep.choose_lt (α := C3) hi
    refine ⟨some a, m, (List.range len).map f, by simp, ⟨?_, fun h => by cases h⟩, ?_, .inr ⟨_, _, rfl, by simp, by simp; omega⟩⟩
    · rcases Nat.eq_zero_or_pos len with h0 | h0
      · exact .inl (by simp [h0])
      · obtain ⟨b, o, sp⟩ := a
        have hs : sp = none := by
          have := World.cell?_spot (hf 0 h0).1
          simpa [Addr.add] using this
        subst hs
        refine .inr ⟨b, o, rfl, fun i hi => ?_⟩
        have hi' : i < len := by simpa using hi
        obtain ⟨g0, g1, g2, _⟩ := hf i hi'
        rw [addr_add] at g0 g1 g2
        rw [← Nat.add_assoc] at g1 g2
        simpa using And.intro g0 (And.intro g1 g2)
    · intro y hy
      obtain ⟨i, hi, rfl⟩ := List.mem_map.1 hy
      exact (hf i (by simpa using hi)).2.2.2
end
end Mt
end Go.Proofs.Ytglnbcjffhfaaaa
