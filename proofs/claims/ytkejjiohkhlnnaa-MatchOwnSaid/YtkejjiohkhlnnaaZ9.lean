/-
  Match: several of its texts in one.
-/
import Derived.Test.YtkejjiohkhlnnaaZ7
import Derived.Test.YtkejjiohkhlnnaaCopies
import Derived.ProofKit
import Derived.OpenShut
import Derived.ShutString
import Derived.ChangeOld
import Derived.SizedLaws
import Derived.Lib.SmallJoins
import Derived.Deep.Slices
import Derived.Test.YtkejjiohkhlnnaaSBatch
import Derived.Deep.CutBlock
import Derived.Deep.RegionHeld3
namespace Go.Proofs.Ytkejjiohkhlnnaa
open Go.RowKit
namespace Mt

/-- a world as a law is handed it -/
structure WorldIn (w : World) (T : WorldV) : Prop where
  ars : Ints w T.aa T.ar
  rows : RowsZ (fun _ => True) w T.ra T.rc T.rows
  con : Consts w T.ca T.cs
  conOk : ∀ c ∈ T.cs, C3Ok c
  rule : RuleIn w T.R
  many : T.cs.length ≤ maxLen
theorem WorldIn.below {w V : World} {T : WorldV} (h : WorldIn w T) (hb : Below w.heap.size w V) : WorldIn V T :=
  ⟨h.ars.below hb, h.rows.keep (fun j hj _ => hb.block j hj) (fun _ _ h => h), h.con.below hb (Nat.le_refl _), h.conOk, h.rule.below hb (Nat.le_refl _), h.many⟩
theorem WorldIn.tamed {w : World} {T : WorldV} (h : WorldIn w T) : Calls Try.prog 11 #[.agg T.cells] w (TamedEnd T w) := tamed_any T w h.ars h.rows h.con h.conOk h.rule h.many
/-- a world's cells in a block -/
theorem world_cells {w : World} {b : Nat} {T : WorldV} {ty : TypeId} (h : w.heap[b]? = some (.cells T.cells ty (0, 0))) : (w.cell? ⟨b, 0, none⟩ = some (.slice T.aa T.ar.length T.ac) ∧ w.cell? ⟨b, 1, none⟩ = some (.slice T.ra T.rows.length T.rc) ∧ w.cell? ⟨b, 2, none⟩ = some (.slice T.ca T.cs.length T.cc)) ∧ (w.cell? ⟨b, 3, none⟩ = some (.int .i64 T.R.hp) ∧ w.cell? ⟨b, 4, none⟩ = some (.slice T.R.ha T.R.hn T.R.hc) ∧ w.cell? ⟨b, 5, none⟩ = some (.slice T.R.pa T.R.pos.length T.R.pc) ∧ w.cell? ⟨b, 6, none⟩ = some (.slice T.R.ta T.R.tests.length T.R.tc) ∧ w.cell? ⟨b, 7, none⟩ = some (.slice T.R.na T.R.neg.length T.R.nc) ∧ w.cell? ⟨b, 8, none⟩ = some (.slice T.R.va T.R.nv T.R.vc) ∧ w.cell? ⟨b, 9, none⟩ = some (.int .i64 T.R.cl)) ∧ w.cell? ⟨b, 10, none⟩ = some (.int .i64 T.K) := by
  refine ⟨⟨?_, ?_, ?_⟩, ⟨?_, ?_, ?_, ?_, ?_, ?_, ?_⟩, ?_⟩ <;> simp [World.cell?, h, WorldV.cells]
theorem below_chain {w V V2 : World} (h : Below w.heap.size w V) (k : Below V.heap.size V V2) : Below w.heap.size w V2 := h.trans (k.mono h.size)
/-- an answer of Prefix is small -/
theorem pre_small {rows : List Row} {cs : List C3} {R : RuleV} (hr : ∀ r ∈ rows, IdsIn cs.length r.2) (ok : RuleOk R cs.length) (h1 : rows.length ≤ 30) (h2 : R.pos.length ≤ 4) (k : Nat) : (pre rows cs R k).length ≤ 1000000 ∧ ∀ x ∈ pre rows cs R k, x.length ≤ 1000000 := by
  refine ⟨?_, fun x hx => ?_⟩
  · unfold pre
    rw [(srtL_perm _ _ _).length_eq]
    have := res_few (cs := cs) h1 h2 k
    omega
  · have h1 := ((pre_iff hr ok _ x).1 hx).1
    have h2 := (wid_is ok k).2
    have h3 := ok.vars
    omega
end Mt
end Go.Proofs.Ytkejjiohkhlnnaa

namespace Go.Proofs.Ytkejjiohkhlnnaa
open Go.RowKit Go.ChangeShapes Go.WideShapes
namespace Mt

theorem addr_add (b o j : Nat) : (⟨b, o, none⟩ : Addr).add j = ⟨b, o + j, none⟩ := by unfold Addr.add; split <;> simp_all

section
variable {H : Type} {enc : TypeId × Value → H} {W : World} {held : Bool}

end

end Mt
end Go.Proofs.Ytkejjiohkhlnnaa

namespace Go.Proofs.Ytkejjiohkhlnnaa
open Go.RowKit Go.ChangeShapes Go.WideShapes
namespace Op

theorem one_le {H : Type} (d : DataW H) : 1 ≤ Rows.uptoBulk d := by
  cases d with
  | lit l => cases l <;> simp [Rows.uptoBulk]
  | nil => simp [Rows.uptoBulk]
  | ptr d => simp [Rows.uptoBulk]
  | slice elems spare => simp [Rows.uptoBulk]
  | agg parts => simp [Rows.uptoBulk]
  | iface t d => simp [Rows.uptoBulk]
  | map entries => simp [Rows.uptoBulk]
  | held h => simp [Rows.uptoBulk]
theorem length_le {H : Type} (l : List (DataW H)) : l.length ≤ Rows.uptoBulkAll l := by
  induction l with
  | nil => simp [Rows.uptoBulkAll]
  | cons x r ih => have := one_le x; simp only [Rows.uptoBulkAll, List.length_cons]; omega
theorem sum_le {H : Type} (n : Nat) (f : Nat → Nat) (D : Nat → DataW H) (h : ∀ i, i < n → f i ≤ Rows.uptoBulk (D i)) : ((List.range n).map f).sum ≤ Rows.uptoBulkAll ((List.range n).map D) := by
  have key : ∀ l : List Nat, (∀ i ∈ l, i < n) → (l.map f).sum ≤ Rows.uptoBulkAll (l.map D) := by
    intro l
    induction l with
    | nil => simp [Rows.uptoBulkAll]
    | cons x r ih =>
      intro hl
      have h1 := h x (hl x (by simp))
      have h2 := ih (fun i hi => hl i (List.mem_cons_of_mem _ hi))
      simp only [List.map_cons, List.sum_cons, Rows.uptoBulkAll]
      omega
  exact key _ (fun i hi => List.mem_range.1 hi)

theorem cellsInt : Try.prog.cellsOf 3 = 1 := by kernel_rfl
theorem cellsInts : Try.prog.cellsOf 22 = 1 := by kernel_rfl
theorem cellsRow : Try.prog.cellsOf 50 = 2 := by kernel_rfl
theorem cellsRows : Try.prog.cellsOf 23 = 1 := by kernel_rfl

theorem addr_add (b o j : Nat) : (⟨b, o, none⟩ : Addr).add j = ⟨b, o + j, none⟩ := by unfold Addr.add; split <;> simp_all
theorem rng_wf {y : Int} (h : (Lit.int .i64 y).wf = true) : Rng y := by
  simp [Lit.wf, IntKind.min, IntKind.max, IntKind.signed, IntKind.bits] at h
  exact ⟨by omega, by omega⟩

section
variable {H : Type} {enc : TypeId × Value → H} {W : World} {held : Bool}

theorem open_ints {fuel : Nat} {v : Value} {x : DataW H × List MemPlace} (h : DataW.trod enc Try.prog W 0 (fun _ => true) held fuel 22 [v] = some x) :
    ∃ a c xs, v = .slice a xs.length c ∧ IntsZ (fun _ => True) W a c xs ∧ (∀ y ∈ xs, Rng y) ∧ xs.length ≤ maxLen ∧ xs.length ≤ Rows.uptoBulk x.1 := by
  rcases Deep.open_slice1 Try.underlying22 cellsInt h with ⟨h1, rfl⟩ | ⟨a, len, cap, m, n, V, D, Pl, h1, _, hl, hm, hmm, rfl, hx⟩
  · simp at h1
    subst h1
    exact ⟨none, 0, [], rfl, ⟨.inl rfl, fun _ => ⟨rfl, rfl⟩⟩, by simp, by simp, by simp⟩
  · simp at h1 hmm
    subst h1; subst hmm
    have hi : ∀ i, i < len → ∃ y, W.cell? (a.add i) = some (.int .i64 y) ∧ (Lit.int .i64 y).wf = true := by
      intro i hi
      obtain ⟨c1, c2⟩ := hx i (by omega)
      obtain ⟨y, e1, e2, e3⟩ := DataW.trod_int Try.underlying3 c2
      simp at e1
      rw [e1] at c1
      exact ⟨y, c1, e3⟩
    obtain ⟨f, hf⟩ := Deep.choose_lt (α := Int) hi
    refine ⟨some a, m, (List.range len).map f, by simp, ⟨?_, fun h => by cases h⟩, ?_, by simp; omega, ?_⟩
    · rcases Nat.eq_zero_or_pos len with h0 | h0
      · exact .inl (by simp [h0])
      · obtain ⟨b, o, sp⟩ := a
        have hs : sp = none := by
          have := World.cell?_spot (hf 0 h0).1
          simpa [Addr.add] using this
        subst hs
        refine .inr ⟨b, o, rfl, trivial, fun i hi => ?_⟩
        have hi' : i < len := by simpa using hi
        have := (hf i hi').1
        rw [addr_add] at this
        simpa using this
    · intro y hy
      obtain ⟨i, hi, rfl⟩ := List.mem_map.1 hy
      exact rng_wf (hf i (by simpa using hi)).2
    · have := length_le ((List.range len).map D)
      simp only [Rows.uptoBulk, List.length_map, List.length_range] at this ⊢
      omega

theorem open_rows {fuel : Nat} {v : Value} {x : DataW H × List MemPlace} (h : DataW.trod enc Try.prog W 0 (fun _ => true) held fuel 23 [v] = some x) :
    ∃ a c l, v = .slice a l.length c ∧ RowsZ (fun _ => True) W a c l ∧ (∀ r ∈ l, RowOk r) ∧ l.length ≤ maxLen ∧ l.length ≤ Rows.uptoBulk x.1 := by
  rcases Deep.open_slice Try.underlying23 h with ⟨h1, rfl⟩ | ⟨a, len, cap, m, n, D, Pl, h1, _, hl, hm, hmm, rfl, hx⟩
  · simp at h1
    subst h1
    exact ⟨none, 0, [], rfl, ⟨.inl rfl, fun _ => ⟨rfl, rfl⟩⟩, by simp, by simp, by simp⟩
  · simp at h1 hmm
    subst h1; subst hmm
    rw [cellsRow] at hx
    have hi : ∀ i, i < len → ∃ s : Int × Option Addr × Nat × List Int, W.cell? (a.add (i * 2)) = some (.int .i64 s.1) ∧ W.cell? (a.add (i * 2 + 1)) = some (.slice s.2.1 s.2.2.2.length s.2.2.1) ∧ IntsZ (fun _ => True) W s.2.1 s.2.2.1 s.2.2.2 ∧ RowOk (s.1, s.2.2.2) := by
      intro i hi
      obtain ⟨cs, c1, c2⟩ := hx i (by omega)
      obtain ⟨_, hlen, hc⟩ := World.cells?_some c1
      match cs, hlen with
      | [u0, u1], _ =>
        obtain ⟨y0, y1, k, _, _, t0, t1⟩ := trod_struct2 Try.underlying50 c2
        have t0' : DataW.trod enc Try.prog W 0 (fun _ => true) held k 3 [u0] = some y0 := by simpa [cellsInt] using t0
        have t1' : DataW.trod enc Try.prog W 0 (fun _ => true) held k 22 [u1] = some y1 := by simpa [cellsInts] using t1
        obtain ⟨nv, e2, _, e3⟩ := DataW.trod_int Try.underlying3 t0'
        obtain ⟨ai, ci, xs, e4, hI, hR, hml, _⟩ := open_ints t1'
        simp at e2
        subst e2; subst e4
        have g0 := hc 0 (by omega)
        have g1 := hc 1 (by omega)
        refine ⟨(nv, ai, ci, xs), ?_, ?_, hI, rng_wf e3, by unfold maxLen at hml; simpa using hml, hR⟩
        · simpa [Addr.add] using g0
        · rw [Deep.add_add] at g1
          simpa using g1
    obtain ⟨f, hf⟩ := Deep.choose_lt (α := Int × Option Addr × Nat × List Int) hi
    refine ⟨some a, m, (List.range len).map (fun i => ((f i).1, (f i).2.2.2)), by simp, ⟨?_, fun h => by cases h⟩, ?_, by simp; omega, ?_⟩
    · rcases Nat.eq_zero_or_pos len with h0 | h0
      · exact .inl (by simp [h0])
      · obtain ⟨b, o, sp⟩ := a
        have hs : sp = none := by
          have := World.cell?_spot (hf 0 h0).1
          simpa [Addr.add] using this
        subst hs
        refine .inr ⟨b, o, rfl, trivial, fun i hi => ?_⟩
        have hi' : i < len := by simpa using hi
        obtain ⟨g0, g1, g2, _⟩ := hf i hi'
        rw [addr_add] at g0 g1
        rw [← Nat.add_assoc] at g1
        refine ⟨by simpa using g0, (f i).2.1, (f i).2.2.1, by simpa using g1, by simpa using g2⟩
    · intro y hy
      obtain ⟨i, hi, rfl⟩ := List.mem_map.1 hy
      exact (hf i (by simpa using hi)).2.2.2
    · have := length_le ((List.range len).map D)
      simp only [Rows.uptoBulk, List.length_map, List.length_range] at this ⊢
      omega

end
end Op
end Go.Proofs.Ytkejjiohkhlnnaa

namespace Go.Proofs.Ytkejjiohkhlnnaa
open Go.RowKit Go.ChangeShapes Go.WideShapes
namespace Ow
open Mt

theorem cellsInt64 : Try.prog.cellsOf 2 = 1 := by kernel_rfl
theorem cellsString : Try.prog.cellsOf 9 = 1 := by kernel_rfl
theorem cellsBool : Try.prog.cellsOf 4 = 1 := by kernel_rfl
theorem cellsInt : Try.prog.cellsOf 3 = 1 := by kernel_rfl
theorem cellsSlot : Try.prog.cellsOf 58 = 2 := by kernel_rfl
theorem cellsConst : Try.prog.cellsOf 65 = 3 := by kernel_rfl
theorem cellsTest : Try.prog.cellsOf 60 = 5 := by kernel_rfl
theorem cellsPat : Try.prog.cellsOf 27 = 2 := by kernel_rfl
theorem cellsRule : Try.prog.cellsOf 32 = 7 := by kernel_rfl
theorem cellsWorld : Try.prog.cellsOf 34 = 11 := by kernel_rfl
theorem cellsSlots : Try.prog.cellsOf 25 = 1 := by kernel_rfl
theorem cellsPats : Try.prog.cellsOf 28 = 1 := by kernel_rfl
theorem cellsTests : Try.prog.cellsOf 29 = 1 := by kernel_rfl
theorem cellsStrs : Try.prog.cellsOf 30 = 1 := by kernel_rfl
theorem cellsInts : Try.prog.cellsOf 22 = 1 := by kernel_rfl
theorem cellsRows : Try.prog.cellsOf 23 = 1 := by kernel_rfl
theorem cellsConsts : Try.prog.cellsOf 24 = 1 := by kernel_rfl
section
variable {H : Type} {enc : TypeId × Value → H} {W : World} {held : Bool}
/-- a slice's elements, cell by cell: a list of what each is -/
theorem open_list {α : Type} [Inhabited α] {t e : TypeId} {size : Nat} {fuel : Nat} {v : Value} {x : DataW H × List MemPlace} (ht : Try.prog.underlying t = some (.slice e)) (hs : Try.prog.cellsOf e = size) (hs1 : 1 ≤ size) (P : α → List Value → Prop) (hP : ∀ k cs y, cs.length = size → DataW.trod enc Try.prog W 0 (fun _ => true) held k e cs = some y → ∃ z, P z cs)
    (h : DataW.trod enc Try.prog W 0 (fun _ => true) held fuel t [v] = some x) :
    ∃ a c, ∃ l : List α, v = .slice a l.length c ∧ l.length ≤ maxLen ∧ (l = [] ∨ ∃ b off, a = some ⟨b, off, none⟩ ∧ ∀ (i : Nat) z, l[i]? = some z → ∃ cs, cs.length = size ∧ P z cs ∧ ∀ j u, cs[j]? = some u → W.cell? ⟨b, off + i * size + j, none⟩ = some u) := by
  rcases Deep.open_slice ht h with ⟨h1, rfl⟩ | ⟨a, len, cap, m, n, D, Pl, h1, _, hl, hm, hmm, rfl, hx⟩
  · simp at h1
    subst h1
    exact ⟨none, 0, [], rfl, Nat.zero_le _, .inl rfl⟩
  · simp at h1 hmm
    subst h1; subst hmm
    rw [hs] at hx
    have hi : ∀ i, i < len → ∃ z : α × List Value, z.2.length = size ∧ P z.1 z.2 ∧ ∀ j u, z.2[j]? = some u → W.cell? (a.add (i * size + j)) = some u := by
      intro i hi
      obtain ⟨cs, c1, c2⟩ := hx i (by omega)
      obtain ⟨_, hlen, hc⟩ := World.cells?_some c1
      obtain ⟨z, hz⟩ := hP _ _ _ hlen c2
      refine ⟨(z, cs), hlen, hz, fun j u hu => ?_⟩
      have hu : cs[j]? = some u := hu
      have hj : j < size := by have := (List.getElem?_eq_some_iff.1 hu).1; omega
      have g := hc j hj
      rw [Deep.add_add] at g
      rw [g]
      exact hu
    obtain ⟨f, hf⟩ := Deep.choose_lt (α := α × List Value) hi
    refine ⟨some a, m, (List.range len).map (fun i => (f i).1), by simp, by simp; omega, ?_⟩
    rcases Nat.eq_zero_or_pos len with h0 | h0
    · exact .inl (by simp [h0])
    · obtain ⟨b, o, sp⟩ := a
      have hsp : sp = none := by
        obtain ⟨q1, q2, q3⟩ := hf 0 h0
        have hl0 : 0 < (f 0).2.length := by omega
        have := World.cell?_spot (q3 0 _ (List.getElem?_eq_getElem hl0))
        simpa [Addr.add] using this
      subst hsp
      refine .inr ⟨b, o, rfl, fun i z hz => ?_⟩
      have hil : i < len := by simpa using (List.getElem?_eq_some_iff.1 hz).1
      obtain ⟨q1, q2, q3⟩ := hf i hil
      rw [List.getElem?_map, List.getElem?_range hil] at hz
      simp at hz
      subst hz
      refine ⟨(f i).2, q1, q2, fun j u hu => ?_⟩
      have := q3 j u hu
      rw [addr_add, ← Nat.add_assoc] at this
      exact this
set_option maxRecDepth 100000 in
theorem read_slot {k : Nat} {cs : List Value} {y : DataW H × List MemPlace} (hl : cs.length = 2) (h : DataW.trod enc Try.prog W 0 (fun _ => true) held k 58 cs = some y) : ∃ s : Sl, cs = [.bool s.1, .int .i64 s.2] := by
  match cs, hl with
  | [u0, u1], _ =>
    obtain ⟨y0, y1, n, _, _, t0, t1⟩ := trod_struct2 Try.underlying58 h
    have t0' : DataW.trod enc Try.prog W 0 (fun _ => true) held n 4 [u0] = some y0 := by simpa [cellsBool] using t0
    have t1' : DataW.trod enc Try.prog W 0 (fun _ => true) held n 3 [u1] = some y1 := by simpa [cellsInt] using t1
    obtain ⟨bv, e1, _⟩ := DataW.trod_bool Try.underlying4 t0'
    obtain ⟨nv, e2, _, e3⟩ := DataW.trod_int Try.underlying3 t1'
    simp at e1 e2
    subst e1; subst e2
    exact ⟨(bv, nv), rfl⟩
theorem open_slots {fuel : Nat} {v : Value} {x : DataW H × List MemPlace} (h : DataW.trod enc Try.prog W 0 (fun _ => true) held fuel 25 [v] = some x) : ∃ a c l, v = .slice a l.length c ∧ Slots W a l ∧ l.length ≤ maxLen := by
  obtain ⟨a, c, l, h1, h2, h3⟩ := open_list (α := Sl) Try.underlying25 cellsSlot (by omega) (fun s cs => cs = [.bool s.1, .int .i64 s.2]) (fun k cs y hl hy => read_slot hl hy) h
  refine ⟨a, c, l, h1, ?_, h2⟩
  rcases h3 with h3 | ⟨b, off, e, hc⟩
  · exact .inl h3
  · refine .inr ⟨b, off, e, fun i hi => ?_⟩
    obtain ⟨cs, _, rfl, q⟩ := hc i _ (List.getElem?_eq_getElem hi)
    exact ⟨q 0 _ rfl, q 1 _ rfl⟩
set_option maxRecDepth 100000 in
theorem read_const {k : Nat} {cs : List Value} {y : DataW H × List MemPlace} (hl : cs.length = 3) (h : DataW.trod enc Try.prog W 0 (fun _ => true) held k 65 cs = some y) : ∃ c : C3, cs = [.int .i64 c.1, .int .i64 c.2.1, .string c.2.2] ∧ C3Ok c := by
  match cs, hl with
  | [u0, u1, u2], _ =>
    obtain ⟨y0, y1, y2, n, _, _, t0, t1, t2⟩ := Deep.trod_struct3 Try.underlying65 h
    have t0' : DataW.trod enc Try.prog W 0 (fun _ => true) held n 3 [u0] = some y0 := by simpa [cellsInt] using t0
    have t1' : DataW.trod enc Try.prog W 0 (fun _ => true) held n 2 [u1] = some y1 := by simpa [cellsInt64] using t1
    have t2' : DataW.trod enc Try.prog W 0 (fun _ => true) held n 9 [u2] = some y2 := by simpa [cellsString] using t2
    obtain ⟨kv, e0, _, w0⟩ := DataW.trod_int Try.underlying3 t0'
    obtain ⟨nv, e1, _, w1⟩ := DataW.trod_int Try.underlying2 t1'
    obtain ⟨sv, e2, _, w2⟩ := DataW.trod_string Try.underlying9 t2'
    simp at e0 e1 e2
    subst e0; subst e1; subst e2
    exact ⟨(kv, nv, sv), rfl, Op.rng_wf w0, Op.rng_wf w1, by unfold maxLen; exact w2⟩
theorem open_consts {fuel : Nat} {v : Value} {x : DataW H × List MemPlace} (h : DataW.trod enc Try.prog W 0 (fun _ => true) held fuel 24 [v] = some x) : ∃ a c l, v = .slice a l.length c ∧ Consts W a l ∧ (∀ z ∈ l, C3Ok z) ∧ l.length ≤ maxLen := by
  obtain ⟨a, c, l, h1, h2, h3⟩ := open_list (α := C3) Try.underlying24 cellsConst (by omega) (fun s cs => cs = [.int .i64 s.1, .int .i64 s.2.1, .string s.2.2] ∧ C3Ok s) (fun k cs y hl hy => read_const hl hy) h
  refine ⟨a, c, l, h1, ?_, ?_, h2⟩
  · rcases h3 with h3 | ⟨b, off, e, hc⟩
    · exact .inl h3
    · refine .inr ⟨b, off, e, fun i hi => ?_⟩
      obtain ⟨cs, _, ⟨rfl, _⟩, q⟩ := hc i _ (List.getElem?_eq_getElem hi)
      exact ⟨q 0 _ rfl, q 1 _ rfl, q 2 _ rfl⟩
  · intro z hz
    rcases h3 with h3 | ⟨b, off, e, hc⟩
    · rw [h3] at hz; cases hz
    · obtain ⟨i, hi⟩ := List.mem_iff_getElem?.1 hz
      obtain ⟨cs, _, ⟨_, q⟩, _⟩ := hc i z hi
      exact q
set_option maxRecDepth 100000 in
theorem read_pat {k : Nat} {cs : List Value} {y : DataW H × List MemPlace} (hl : cs.length = 2) (h : DataW.trod enc Try.prog W 0 (fun _ => true) held k 27 cs = some y) : ∃ p : Pat, ∃ a c, cs = [.int .i64 p.1, .slice a p.2.length c] ∧ Slots W a p.2 ∧ p.2.length ≤ maxLen := by
  match cs, hl with
  | [u0, u1], _ =>
    obtain ⟨y0, y1, n, _, _, t0, t1⟩ := trod_struct2 Try.underlying27 h
    have t0' : DataW.trod enc Try.prog W 0 (fun _ => true) held n 3 [u0] = some y0 := by simpa [cellsInt] using t0
    have t1' : DataW.trod enc Try.prog W 0 (fun _ => true) held n 25 [u1] = some y1 := by simpa [cellsSlots] using t1
    obtain ⟨nv, e0, _, _⟩ := DataW.trod_int Try.underlying3 t0'
    obtain ⟨a, c, l, rfl, q1, q2⟩ := open_slots t1'
    simp at e0
    subst e0
    exact ⟨(nv, l), a, c, rfl, q1, q2⟩
theorem open_pats {fuel : Nat} {v : Value} {x : DataW H × List MemPlace} (h : DataW.trod enc Try.prog W 0 (fun _ => true) held fuel 28 [v] = some x) : ∃ a c l, v = .slice a l.length c ∧ Pats W a l := by
  obtain ⟨a, c, l, h1, h2, h3⟩ := open_list (α := Pat) Try.underlying28 cellsPat (by omega) (fun p cs => ∃ a c, cs = [.int .i64 p.1, .slice a p.2.length c] ∧ Slots W a p.2 ∧ p.2.length ≤ maxLen) (fun k cs y hl hy => read_pat hl hy) h
  refine ⟨a, c, l, h1, ?_⟩
  rcases h3 with h3 | ⟨b, off, e, hc⟩
  · exact .inl h3
  · refine .inr ⟨b, off, e, fun i p hp => ?_⟩
    obtain ⟨cs, _, ⟨sa, sc, rfl, hs, _⟩, q⟩ := hc i p hp
    exact ⟨q 0 _ rfl, sa, sc, q 1 _ rfl, hs⟩
set_option maxRecDepth 100000 in
theorem read_test {k : Nat} {cs : List Value} {y : DataW H × List MemPlace} (hl : cs.length = 5) (h : DataW.trod enc Try.prog W 0 (fun _ => true) held k 60 cs = some y) : ∃ t : Tst, cs = [.int .i64 t.1, .bool t.2.1.1, .int .i64 t.2.1.2, .bool t.2.2.1, .int .i64 t.2.2.2] := by
  match cs, hl with
  | [u0, u1, u2, u3, u4], _ =>
    obtain ⟨y0, y1, y2, n, _, _, t0, t1, t2⟩ := Deep.trod_struct3 Try.underlying60 h
    have t0' : DataW.trod enc Try.prog W 0 (fun _ => true) held n 3 [u0] = some y0 := by simpa [cellsInt] using t0
    have t1' : DataW.trod enc Try.prog W 0 (fun _ => true) held n 58 [u1, u2] = some y1 := by simpa [cellsInt, cellsSlot] using t1
    have t2' : DataW.trod enc Try.prog W 0 (fun _ => true) held n 58 [u3, u4] = some y2 := by simpa [cellsInt, cellsSlot] using t2
    obtain ⟨op, e0, _, _⟩ := DataW.trod_int Try.underlying3 t0'
    obtain ⟨s1, e1⟩ := read_slot (by rfl) t1'
    obtain ⟨s2, e2⟩ := read_slot (by rfl) t2'
    simp at e0 e1 e2
    obtain ⟨rfl, rfl⟩ := e1
    obtain ⟨rfl, rfl⟩ := e2
    subst e0
    exact ⟨(op, s1, s2), rfl⟩
theorem open_tests {fuel : Nat} {v : Value} {x : DataW H × List MemPlace} (h : DataW.trod enc Try.prog W 0 (fun _ => true) held fuel 29 [v] = some x) : ∃ a c l, v = .slice a l.length c ∧ Tsts W a l := by
  obtain ⟨a, c, l, h1, h2, h3⟩ := open_list (α := Tst) Try.underlying29 cellsTest (by omega) (fun t cs => cs = [.int .i64 t.1, .bool t.2.1.1, .int .i64 t.2.1.2, .bool t.2.2.1, .int .i64 t.2.2.2]) (fun k cs y hl hy => read_test hl hy) h
  refine ⟨a, c, l, h1, ?_⟩
  rcases h3 with h3 | ⟨b, off, e, hc⟩
  · exact .inl h3
  · refine .inr ⟨b, off, e, fun i p hp => ?_⟩
    obtain ⟨cs, _, rfl, q⟩ := hc i p hp
    exact ⟨q 0 _ rfl, q 1 _ rfl, q 2 _ rfl, q 3 _ rfl, q 4 _ rfl⟩
theorem open_strs {fuel : Nat} {v : Value} {x : DataW H × List MemPlace} (h : DataW.trod enc Try.prog W 0 (fun _ => true) held fuel 30 [v] = some x) : ∃ a n c, v = .slice a n c := by
  rcases Deep.open_slice Try.underlying30 h with ⟨h1, rfl⟩ | ⟨a, len, cap, m, n, D, Pl, h1, _⟩
  · simp at h1; exact ⟨none, 0, 0, h1⟩
  · simp at h1; exact ⟨_, _, _, h1⟩
set_option maxRecDepth 100000 in
/-- a rule's cells, read; its head's slots too -/
theorem read_rule {k : Nat} {cs : List Value} {y : DataW H × List MemPlace} (hl : cs.length = 7) (h : DataW.trod enc Try.prog W 0 (fun _ => true) held k 32 cs = some y) : ∃ (R : RuleV) (hs : List Sl), cs = R.cells.toList ∧ RuleIn W R ∧ R.hn = hs.length ∧ Slots W R.ha hs ∧ hs.length ≤ maxLen := by
  match cs, hl with
  | [u0, u1, u2, u3, u4, u5, u6], _ =>
    obtain ⟨xs, n, _, hD, hl7, hlx, hf⟩ := DataW.trod_struct Try.underlying32 h
    match xs, hlx with
    | [y0, y1, y2, y3, y4, y5], _ =>
      have t0 := hf 0 _ rfl
      have t1 := hf 1 _ rfl
      have t2 := hf 2 _ rfl
      have t3 := hf 3 _ rfl
      have t4 := hf 4 _ rfl
      have t5 := hf 5 _ rfl
      simp [cellsPat, cellsPats, cellsTests, cellsStrs, cellsInt] at t0 t1 t2 t3 t4 t5
      obtain ⟨hd, ha, hc, e0, hS, hm⟩ := read_pat (by rfl) t0
      obtain ⟨pa, pc, pos, rfl, hP⟩ := open_pats t1
      obtain ⟨ta, tc, ts, rfl, hT⟩ := open_tests t2
      obtain ⟨na, nc, ns, rfl, hN⟩ := open_pats t3
      obtain ⟨va, nv, vc, rfl⟩ := open_strs t4
      obtain ⟨cl, e5, _, _⟩ := DataW.trod_int Try.underlying3 t5
      simp at e0 e5
      obtain ⟨rfl, rfl⟩ := e0
      subst e5
      exact ⟨⟨hd.1, ha, hd.2.length, hc, pa, pc, pos, ta, tc, ts, na, nc, ns, va, nv, vc, cl⟩, hd.2, rfl, ⟨hP, hT, hN⟩, rfl, hS, hm⟩
set_option maxRecDepth 100000 in
/-- a world that is handed in -/
theorem open_world {r : Reach} {b0 : Nat} {v : Value} {d : DataW H} {p : List MemPlace} (hv : Value.okWide Try.prog W r b0 34 v) (h : DataW.Trod enc Try.prog W 0 (fun _ => true) held 34 v d p) :
    ∃ (T : WorldV) (hs : List Sl), v = .agg T.cells ∧ WorldIn W T ∧ T.R.hn = hs.length ∧ Slots W T.R.ha hs ∧ hs.length ≤ maxLen ∧ (∀ x ∈ T.ar, Rng x) := by
  obtain ⟨cs, rfl, hsz⟩ := okWide_struct Try.underlying34 hv
  rw [cellsWorld] at hsz
  obtain ⟨cs⟩ := cs
  match cs, hsz with
  | [u0, u1, u2, u3, u4, u5, u6, u7, u8, u9, u10], _ =>
    obtain ⟨fuel, hf⟩ := h
    obtain ⟨xs, n, _, hD, hl5, hlx, hf⟩ := DataW.trod_struct Try.underlying34 hf
    match xs, hlx with
    | [y0, y1, y2, y3, y4], _ =>
      have t0 := hf 0 _ rfl
      have t1 := hf 1 _ rfl
      have t2 := hf 2 _ rfl
      have t3 := hf 3 _ rfl
      have t4 := hf 4 _ rfl
      simp [Value.cells, cellsInts, cellsRows, cellsConsts, cellsRule, cellsInt] at t0 t1 t2 t3 t4
      obtain ⟨aa, ac, ar, rfl, hA, hAr, _, _⟩ := Op.open_ints t0
      obtain ⟨ra, rc, rows, rfl, hR, _, _, _⟩ := Op.open_rows t1
      obtain ⟨ca, cc, cs, rfl, hC, hCo, hCm⟩ := open_consts t2
      obtain ⟨R, hs, e3, hRu, hh, hSl, hm⟩ := read_rule (by rfl) t3
      obtain ⟨K, e4, _, _⟩ := DataW.trod_int Try.underlying3 t4
      simp at e4
      subst e4
      simp [RuleV.cells] at e3
      obtain ⟨rfl, rfl, rfl, rfl, rfl, rfl, rfl⟩ := e3
      exact ⟨⟨aa, ac, ar, ra, rc, rows, ca, cc, cs, R, K⟩, hs, rfl, ⟨hA.ints, hR, hC, hCo, hRu, hCm⟩, hh, hSl, hm, hAr⟩
end
end Ow
end Go.Proofs.Ytkejjiohkhlnnaa

namespace Go.Proofs.Ytkejjiohkhlnnaa
open Go.RowKit Go.ChangeShapes Go.WideShapes
namespace Ow
open Mt

section
variable {H : Type} {enc : TypeId × Value → H} {W : World} {held : Bool}
end
end Ow
end Go.Proofs.Ytkejjiohkhlnnaa

namespace Go.Proofs.Ytkejjiohkhlnnaa
open Go.RowKit Go.ChangeShapes Go.WideShapes
namespace Ow
open Mt

theorem bytesSlot : Try.prog.bytesOf 58 = 16 := by kernel_rfl
section
variable {H : Type} {enc : TypeId × Value → H} {W : World} {held : Bool}
theorem slots_datum {fuel : Nat} {a : Option Addr} {n c : Nat} {x : DataW H × List MemPlace} (h : DataW.trod enc Try.prog W 0 (fun _ => true) held fuel 25 [.slice a n c] = some x) : n = 0 ∨ ∃ els sp, x.1 = .slice els sp ∧ els.length = n := by
  rcases Deep.open_slice Try.underlying25 h with ⟨h1, rfl⟩ | ⟨a, len, cap, m, k, D, Pl, h1, _, hl, hm, hmm, rfl, hx⟩
  · simp at h1; exact .inl h1.2.1
  · simp at h1
    exact .inr ⟨_, _, rfl, by simp [h1.2.1]⟩
theorem sized_head {ts : List TypeId} {ds : List (DataW H)} {j : Nat} {d0 d1 d2 d4 h0 r1 r2 r3 r4 r5 : DataW H} {els sp : List (DataW H)} (hsz : (DataW.weightsEach Try.prog ts ds).all (· ≤ reachBytes) = true)
    (ht : ts[j]? = some 34) (hd : ds[j]? = some (.agg [d0, d1, d2, .agg [.agg [h0, .slice els sp], r1, r2, r3, r4, r5], d4])) : (els.length + sp.length) * 16 ≤ 140737488351232 := by
  have := List.all_eq_true.1 hsz _ (DataW.weights_mem_each ht hd ((els.length + sp.length) * Try.prog.bytesOf 58) (by simp [DataW.weights, DataW.weightsEach, Try.underlying34, Try.underlying32, Try.underlying27, Try.underlying25]))
  rw [bytesSlot] at this
  exact of_decide_eq_true this
set_option maxRecDepth 100000 in
theorem world_head {ts : List TypeId} {ds : List (DataW H)} {j : Nat} {T : WorldV} {d : DataW H} {p : List MemPlace} (hsz : (DataW.weightsEach Try.prog ts ds).all (· ≤ reachBytes) = true) (ht : ts[j]? = some 34) (hd : ds[j]? = some d)
    (h : DataW.Trod enc Try.prog W 0 (fun _ => true) held 34 (.agg T.cells) d p) : T.R.hn * 16 ≤ 140737488351232 := by
  obtain ⟨fuel, hf⟩ := h
  obtain ⟨xs, n, _, hD, hl5, hlx, hf⟩ := DataW.trod_struct Try.underlying34 hf
  match xs, hlx with
  | [y0, y1, y2, y3, y4], _ =>
    have t3 := hf 3 _ rfl
    simp [Value.cells, WorldV.cells, cellsRule] at t3
    obtain ⟨zs, n2, _, hD2, hl7, hlz, hf2⟩ := DataW.trod_struct Try.underlying32 t3
    match zs, hlz with
    | [z0, z1, z2, z3, z4, z5], _ =>
      have s0 := hf2 0 _ rfl
      simp [cellsPat] at s0
      obtain ⟨q0, q1, n3, hDq, _, u0, u1⟩ := trod_struct2 Try.underlying27 s0
      have u1' : DataW.trod enc Try.prog W 0 (fun _ => true) held n3 25 [.slice T.R.ha T.R.hn T.R.hc] = some q1 := by simpa [cellsSlots] using u1
      rcases slots_datum u1' with h0 | ⟨els, sp, e1, e2⟩
      · rw [h0]; omega
      · have hD' : d = .agg [y0.1, y1.1, y2.1, y3.1, y4.1] := congrArg Prod.fst hD
        have hD2' : y3.1 = .agg [z0.1, z1.1, z2.1, z3.1, z4.1, z5.1] := congrArg Prod.fst hD2
        have hDq' : z0.1 = .agg [q0.1, q1.1] := congrArg Prod.fst hDq
        rw [hD2', hDq', e1] at hD'
        have := sized_head hsz ht (hd.trans (congrArg some hD'))
        omega
end
end Ow
end Go.Proofs.Ytkejjiohkhlnnaa

namespace Go.Proofs.Ytkejjiohkhlnnaa
open Go.RowKit
namespace Mt

section
variable {P : Program} {t e : TypeId} {z : Value} {size bytes : Nat}
theorem run_append_none (w : World) (base : Nat) (t ty e : TypeId) (i : TypeInfo) (size : Nat) (ht : P.underlying t = some (.slice e)) (hi : P.info? e = some i) (v : Value) (n : Nat) (xs : List Value) (hown : w.ownsRow base e size v n xs) (c : Nat) :
    (Builtin.append_ #[t, t] ty #[v, .slice none 0 c]).run P w = .ok v w := by
  rcases hown.2 with ⟨rfl, rfl⟩ | ⟨g, cap, cur, rfl, _, _, hnc, _⟩
  · simp [Builtin.append_, run_underlying ht, sizeOf, typeInfo, hi, Builtin.lenOf, Builtin.firstCells]
  · simp [Builtin.append_, run_underlying ht, sizeOf, typeInfo, hi, Builtin.lenOf, Builtin.firstCells, hnc, storeCells]
/-- the source of an append, whatever room it has -/
def SourceW (w : World) (ao : Option Addr) (m : Nat) (news : List Value) : Prop :=
  (ao = none ∧ m = 0 ∧ news = []) ∨ ∃ ad, ao = some ad ∧ ∀ j u, news[j]? = some u → w.cell? (ad.add j) = some u
theorem run_append_w (E : Elem P t e z size bytes) (w : World) (base : Nat) (ty : TypeId) (v : Value) (n : Nat) (xs : List Value) (hown : w.ownsRow base e size v n xs)
    (ao : Option Addr) (m c : Nat) (news : List Value) (hs : SourceW w ao m news) (hl : news.length = m * size) (h1 : ∀ u ∈ news, u.oneCell' = true)
    (h63 : n + m ≤ maxLen) (hbytes : (n + m) * bytes ≤ 140737488355328) (hbase : base ≤ w.heap.size) :
    ∃ v' w', (Builtin.append_ #[t, t] ty #[v, .slice ao m c]).run P w = .ok v' w' ∧ w'.ownsRow base e size v' (n + m) (xs ++ news) ∧ w.grownBy w' v.ownBlock ∧ (v'.ownBlock = v.ownBlock ∨ v'.ownBlock = some w.heap.size) := by
  rcases hs with ⟨rfl, rfl, rfl⟩ | ⟨ad, rfl, hc⟩
  · obtain ⟨i, hi, hz0, hz1, hz2⟩ := info_parts E.info
    exact ⟨v, w, run_append_none (P := P) w base t ty e i size E.ht hi v n xs hown c, by simpa using hown, ⟨rfl, rfl, rfl, Nat.le_refl _, fun _ _ _ => rfl⟩, .inl rfl⟩
  · exact run_append_any E w base ty v n xs hown (some ad) m c news (.inr ⟨ad, rfl, hc⟩) hl h1 h63 hbytes hbase
theorem wpList_append_w (E : Elem P t e z size bytes) (w : World) {ops : Array Oper} {rest : List Oper} {o : Oper} {a : Act} {Q : Exit → Act → World → Prop} (hgd : o.guard = none) (s x : Operand)
    (ho : o.op = .call { callee := .builtin .append, args := #[s, x], argTypes := #[t, t] })
    (base : Nat) (v : Value) (n : Nat) (xs : List Value) (hv : a.eval s = v) (hown : w.ownsRow base e size v n xs)
    (ao : Option Addr) (m c : Nat) (news : List Value) (hx : a.eval x = .slice ao m c) (hs : SourceW w ao m news) (hl : news.length = m * size) (h1 : ∀ u ∈ news, u.oneCell' = true)
    (h63 : n + m ≤ maxLen) (hbytes : (n + m) * bytes ≤ 140737488355328) (hbase : base ≤ w.heap.size)
    (h : ∀ v' w', w'.ownsRow base e size v' (n + m) (xs ++ news) → w.grownBy w' v.ownBlock → (v'.ownBlock = v.ownBlock ∨ v'.ownBlock = some w.heap.size) → wpList P ops Q rest (a.put o.dst v') w') : wpList P ops Q (o :: rest) a w :=
  wpList_plain hgd fun _ hK => by
    obtain ⟨v', w', hr, h2, h3, h4⟩ := run_append_w E w base o.type v n xs hown ao m c news hs hl h1 h63 hbytes hbase
    unfold Oper.wp execOp
    simp only [ho, resolve, invoke, builtin, Sem.run_bind, Sem.run_pure, Result.andThen_ok, List.map_toArray, List.map_cons, List.map_nil, hv, hx, hr]
    exact hK _ _ (h v' w' h2 h3 h4)
end
theorem slots_source {w : World} {a : Option Addr} {l : List Sl} (h : Slots w a l) : SourceW w a l.length (slotCells l) := by
  cases a with
  | none =>
    rcases h with rfl | ⟨b, o, h, _⟩
    · exact .inl ⟨rfl, rfl, rfl⟩
    · cases h
  | some ad => 
    rcases source_slots (c := 0) h (fun e => by cases e) with ⟨e, _⟩ | ⟨ad', e, h⟩
    · cases e
    · exact .inr ⟨ad', e, h⟩
theorem tsts_source {w : World} {a : Option Addr} {l : List Tst} (h : Tsts w a l) : SourceW w a l.length (tstCells l) := by
  rcases h with rfl | ⟨b, off, rfl, h⟩
  · cases a with
    | none => exact .inl ⟨rfl, rfl, rfl⟩
    | some ad => exact .inr ⟨ad, rfl, fun j u hu => by simp [tstCells] at hu⟩
  · refine .inr ⟨_, rfl, fun j u hu => ?_⟩
    have e : (⟨b, off, none⟩ : Addr).add j = ⟨b, off + j, none⟩ := by unfold Addr.add; split <;> simp_all
    rw [e]
    have hj := (List.getElem?_eq_some_iff.1 hu).1
    rw [tstCells_length] at hj
    have hi : j / 5 < l.length := by omega
    obtain ⟨h0, h1, h2, h3, h4⟩ := h (j / 5) _ (List.getElem?_eq_getElem hi)
    have hs : l = l.take (j / 5) ++ l[j / 5] :: l.drop (j / 5 + 1) := by rw [← List.drop_eq_getElem_cons hi, List.take_append_drop]
    have e1 : tstCells l = tstCells (l.take (j / 5)) ++ ([Value.int .i64 l[j / 5].1, .bool l[j / 5].2.1.1, .int .i64 l[j / 5].2.1.2, .bool l[j / 5].2.2.1, .int .i64 l[j / 5].2.2.2] ++ tstCells (l.drop (j / 5 + 1))) := by
      conv => lhs; rw [hs, tstCells_app]
      rfl
    have hl : (tstCells (l.take (j / 5))).length = j / 5 * 5 := by rw [tstCells_length, List.length_take]; omega
    have hm : j % 5 < 5 := by omega
    have hjj : j = j / 5 * 5 + j % 5 := by omega
    rw [e1, List.getElem?_append_right (by omega), hl, List.getElem?_append_left (by simp; omega), show j - j / 5 * 5 = j % 5 by omega] at hu
    generalize hq : j / 5 = q at *
    generalize hr : j % 5 = r at *
    have hr5 : r = 0 ∨ r = 1 ∨ r = 2 ∨ r = 3 ∨ r = 4 := by omega
    rcases hr5 with rfl | rfl | rfl | rfl | rfl <;> (simp at hu; subst hu; rw [hjj]) <;> simp only [← Nat.add_assoc, Nat.add_zero] <;> assumption
/-- what a call of copyPattern leaves: the slots in a block of its own -/
def CopyEndW (pred : Int) (l : List Sl) (w : World) (e : Ending) (w' : World) : Prop :=
  ∃ a c, e = .returned (.agg #[.int .i64 pred, .slice a l.length c]) ∧ w'.ownsRow w.heap.size 58 2 (.slice a l.length c) l.length (slotCells l) ∧ Below w.heap.size w w'
set_option maxHeartbeats 2000000 in
theorem copyPattern_w (pred : Int) (ap : Option Addr) (cp : Nat) (l : List Sl) (w : World) (hp : Slots w ap l) (hl : l.length * 16 ≤ 140737488351232) :
    Calls Try.prog 64 #[.agg #[.int .i64 pred, .slice ap l.length cp]] w (CopyEndW pred l w) := by
  have HP := Lib.hid hp
  clear hp
  go_enter Try.func64, Try.ntmps64
  go_wp2_with (at_builtin; refine wpList_append_w elemSlot _ rfl _ _ rfl (w.heap.size + 3) (.slice none 0 0) 0 [] rfl (World.ownsRow_nil _ _ _ _) ap l.length cp (slotCells l) rfl (slots_source (HP.out.below ((((Below.refl _ _).alloc (Nat.le_refl _) _).alloc (by simp) _).alloc (by simp; omega) _) (Nat.le_refl _))) (slotCells_length l) (slotCells_one l) (by unfold maxLen; omega) (by omega) (by simp) ?_; intro v' w1 hown hgrow hblk; obtain ⟨a', c', rfl⟩ := owns_shape' hown; have Hown := Lib.hid (show w1.ownsRow (w.heap.size + 3) 58 2 (.slice a' (0 + l.length) c') (0 + l.length) (slotCells l) from by simpa using hown); rw [Nat.zero_add] at Hown; rw [Nat.zero_add]; have hb1 := grown_below hgrow (fun k hk => by cases hk) (Nat.le_refl _); have q0 := hb1.cell (p := ⟨w.heap.size + 1, 0, none⟩) (by simp); have q1 := hb1.cell (p := ⟨w.heap.size + 1, 1, none⟩) (by simp); have r0 := hb1.cell (p := ⟨w.heap.size + 2, 0, none⟩) (by simp); have r1 := hb1.cell (p := ⟨w.heap.size + 2, 1, none⟩) (by simp); have f1 : ∀ j, w1.frozen? ⟨w.heap.size + 1, j, none⟩ = false := fun j => (hb1.frozen (p := ⟨w.heap.size + 1, j, none⟩) (by simp)).trans (by go_simp); have f2 : ∀ j, w1.frozen? ⟨w.heap.size + 2, j, none⟩ = false := fun j => (hb1.frozen (p := ⟨w.heap.size + 2, j, none⟩) (by simp)).trans (by go_simp); have sz := hb1.size; clear hown hgrow hblk; simp at q0 q1 r0 r1 sz)
  refine bodyPost_ret (v := .agg #[.int .i64 pred, .slice a' l.length c']) ?_ rfl ⟨a', c', rfl, ?_, ?_⟩
  · simp [results, Try.results64, go_sem, q0, q1]
  · refine owns_base (owns_block Hown.out (fun g hg => ?_)) (Nat.le_add_right _ 3)
    have := (Hown.out.lt g hg).1
    rw [Below.heap_setCell _ _ _ _ (by simp; omega), Below.heap_setCell _ _ _ _ (by simp; omega), Below.heap_setCell _ _ _ _ (by simp; omega)]
  · exact ((((((Below.refl _ _).alloc (Nat.le_refl _) _).alloc (by simp) _).alloc (by simp; omega) _).trans (hb1.mono (by simp; omega))).setCell (by simp; omega) _).setCell (by simp) _ |>.setCell (by simp) _
end Mt
end Go.Proofs.Ytkejjiohkhlnnaa

namespace Go.Proofs.Ytkejjiohkhlnnaa
open Go.RowKit
namespace Mt

/-- the state of copyRule -/
structure KSt (ws : World) (H : Nat) (rs : List (Nat × Array Value)) (tb : Nat) (hp cl : Int) (ha : Value) (hs : List Sl) (pv tv gv vv : Value) (ps : List Pat) (ts : List Tst) (ns : List Pat) (nv : Nat) (w : World) : Prop where
  old : Below ws.heap.size ws w
  r : ∀ x ∈ rs, w.heap[x.1]? = some (.cells x.2 32 (0, 0))
  t : w.heap[tb]? = some (.cells #[.int .i64 hp, ha, pv, tv, gv, vv, .int .i64 cl] 32 (0, 0))
  pos : PatRow ws.heap.size H w pv ps
  tst : w.ownsRow ws.heap.size 60 5 tv ts.length (tstCells ts)
  neg : PatRow ws.heap.size H w gv ns
  vars : w.ownsRow ws.heap.size 9 1 vv nv (List.replicate nv vV)
  apart : ∀ g, pv.ownBlock = some g → gv.ownBlock ≠ some g
  ne : ∀ x ∈ rs, x.1 ≠ tb
  lo : ws.heap.size ≤ tb
  hi : H ≤ w.heap.size
  hd : w.ownsRow ws.heap.size 58 2 ha hs.length (slotCells hs)
section
variable {ws : World} {H tb : Nat} {rs : List (Nat × Array Value)} {hp cl : Int} {ha : Value} {hs : List Sl} {pv tv gv vv : Value} {ps : List Pat} {ts : List Tst} {ns : List Pat} {nv : Nat} {w V : World}
theorem KSt.below (h : KSt ws H rs tb hp cl ha hs pv tv gv vv ps ts ns nv w) (hb : Below w.heap.size w V) : KSt ws H rs tb hp cl ha hs pv tv gv vv ps ts ns nv V := by
  have k : ∀ {b : Nat} {o : Obj}, w.heap[b]? = some o → V.heap[b]? = some o := fun {b o} hb' => (hb.block b (Array.getElem?_eq_some_iff.1 hb').1).trans hb'
  exact ⟨h.old.trans (hb.mono h.old.size), fun x hx => k (h.r x hx), k h.t, h.pos.below hb, owns_below h.tst hb (Nat.le_refl _), h.neg.below hb, owns_below h.vars hb (Nat.le_refl _), h.apart, h.ne, h.lo, Nat.le_trans h.hi hb.size, owns_below h.hd hb (Nat.le_refl _)⟩
theorem KSt.cells (h : KSt ws H rs tb hp cl ha hs pv tv gv vv ps ts ns nv w) : (w.cell? ⟨tb, 0, none⟩ = some (.int .i64 hp) ∧ w.cell? ⟨tb, 1, none⟩ = some ha ∧ w.cell? ⟨tb, 2, none⟩ = some pv ∧ w.cell? ⟨tb, 3, none⟩ = some tv ∧ w.cell? ⟨tb, 4, none⟩ = some gv ∧ w.cell? ⟨tb, 5, none⟩ = some vv ∧ w.cell? ⟨tb, 6, none⟩ = some (.int .i64 cl)) ∧ ∀ o, w.frozen? ⟨tb, o, none⟩ = false := by
  have := h.t
  simp [World.cell?, World.frozen?, this]
theorem KSt.rcell (h : KSt ws H rs tb hp cl ha hs pv tv gv vv ps ts ns nv w) {b : Nat} {cs : Array Value} (hm : (b, cs) ∈ rs) {k : Nat} {x : Value} (hk : cs[k]? = some x) : w.cell? ⟨b, k, none⟩ = some x := by
  have := h.r _ hm
  simp only at this
  simp [World.cell?, this, hk]
/-- one pattern more (pos) -/
theorem KSt.pushPos (h : KSt ws H rs tb hp cl ha hs pv tv gv vv ps ts ns nv w) {V0 V1 : World} {v' u : Value} {p : Pat} (hb : Below w.heap.size w V0) (hg : V0.grownBy V1 pv.ownBlock) (hv' : ∀ cells, w.ownsRow ws.heap.size 27 2 pv ps.length cells → V1.ownsRow ws.heap.size 27 2 v' (ps.length + 1) (cells ++ [.int .i64 p.1, u])) (ho : v'.ownBlock = pv.ownBlock ∨ v'.ownBlock = some V0.heap.size)
    (hu : w.ownsRow ws.heap.size 58 2 u p.2.length (slotCells p.2)) : KSt ws w.heap.size rs tb hp cl ha hs v' tv gv vv (ps ++ [p]) ts ns nv (V1.setCell ⟨tb, 2, none⟩ v') ∧ V1.cell? ⟨tb, 2, none⟩ = some pv ∧ V1.frozen? ⟨tb, 2, none⟩ = false := by
  have c : Chg tb pv.ownBlock w (V1.setCell ⟨tb, 2, none⟩ v') := chg_push hb hg
  have ht := h.t
  have htl := (Array.getElem?_eq_some_iff.1 ht).1
  have hz := hb.size
  have vt : ∀ {g : Nat} {cur : Array Value} {T : TypeId}, w.heap[g]? = some (.cells cur T (0, 0)) → T ≠ 27 → pv.ownBlock ≠ some g := fun {g cur T} hc hT e => by
    obtain ⟨cur2, hc2⟩ := h.pos.typ e
    exact typ_ne hc hc2 hT rfl
  have no : ∀ {g : Nat} {cur : Array Value} {T : TypeId}, w.heap[g]? = some (.cells cur T (0, 0)) → T ≠ 27 → T ≠ 32 → g ≠ tb ∧ pv.ownBlock ≠ some g := fun hc h1 h2 => ⟨typ_ne hc ht h2, vt hc h1⟩
  have hV1 : V1.heap[tb]? = some (.cells #[.int .i64 hp, ha, pv, tv, gv, vv, .int .i64 cl] 32 (0, 0)) := by
    rw [hg.block tb (by omega) (vt ht (by decide)).symm, hb.block tb htl]; exact ht
  have hvt : ∀ g, v'.ownBlock = some g → g ≠ tb := fun g e e' => by
    subst e'
    rcases ho with ho | ho
    · rw [ho] at e; exact vt ht (by decide) e
    · rw [ho] at e; cases e; omega
  refine ⟨⟨h.old.trans (c.low h.old.size h.lo (fun g e => (h.pos.lt e).1)), fun x hx => c.block (h.r x hx) (h.ne x hx) (vt (h.r x hx) (by decide)), by simpa using heap_setCell (j := 2) hV1 v', h.pos.push (tb := tb) (o := 2) hb hg ⟨_, ht⟩ hv' hvt hu h.hi, c.owns h.tst (fun g cur _ hc => no hc (by decide) (by decide)),
    (h.neg.chg c (fun g cur hg' hc => ⟨typ_ne hc ht (by decide), fun e => h.apart g e hg'⟩) (fun g cur _ hc => no hc (by decide) (by decide))).raise h.hi, c.owns h.vars (fun g cur _ hc => no hc (by decide) (by decide)), fun g e1 e2 => by
    rcases ho with ho | ho
    · rw [ho] at e1; exact h.apart g e1 e2
    · rw [ho] at e1; cases e1; have := (h.neg.lt e2).2; omega, h.ne, h.lo, by have := hg.size; simp; omega, c.owns h.hd (fun g cur _ hc => no hc (by decide) (by decide))⟩, by simp [World.cell?, hV1], by simp [World.frozen?, hV1]⟩
/-- one pattern more (neg) -/
theorem KSt.pushNeg (h : KSt ws H rs tb hp cl ha hs pv tv gv vv ps ts ns nv w) {V0 V1 : World} {v' u : Value} {p : Pat} (hb : Below w.heap.size w V0) (hg : V0.grownBy V1 gv.ownBlock) (hv' : ∀ cells, w.ownsRow ws.heap.size 27 2 gv ns.length cells → V1.ownsRow ws.heap.size 27 2 v' (ns.length + 1) (cells ++ [.int .i64 p.1, u])) (ho : v'.ownBlock = gv.ownBlock ∨ v'.ownBlock = some V0.heap.size)
    (hu : w.ownsRow ws.heap.size 58 2 u p.2.length (slotCells p.2)) : KSt ws w.heap.size rs tb hp cl ha hs pv tv v' vv ps ts (ns ++ [p]) nv (V1.setCell ⟨tb, 4, none⟩ v') ∧ V1.cell? ⟨tb, 4, none⟩ = some gv ∧ V1.frozen? ⟨tb, 4, none⟩ = false := by
  have c : Chg tb gv.ownBlock w (V1.setCell ⟨tb, 4, none⟩ v') := chg_push hb hg
  have ht := h.t
  have htl := (Array.getElem?_eq_some_iff.1 ht).1
  have hz := hb.size
  have vt : ∀ {g : Nat} {cur : Array Value} {T : TypeId}, w.heap[g]? = some (.cells cur T (0, 0)) → T ≠ 27 → gv.ownBlock ≠ some g := fun {g cur T} hc hT e => by
    obtain ⟨cur2, hc2⟩ := h.neg.typ e
    exact typ_ne hc hc2 hT rfl
  have no : ∀ {g : Nat} {cur : Array Value} {T : TypeId}, w.heap[g]? = some (.cells cur T (0, 0)) → T ≠ 27 → T ≠ 32 → g ≠ tb ∧ gv.ownBlock ≠ some g := fun hc h1 h2 => ⟨typ_ne hc ht h2, vt hc h1⟩
  have hV1 : V1.heap[tb]? = some (.cells #[.int .i64 hp, ha, pv, tv, gv, vv, .int .i64 cl] 32 (0, 0)) := by
    rw [hg.block tb (by omega) (vt ht (by decide)).symm, hb.block tb htl]; exact ht
  have hvt : ∀ g, v'.ownBlock = some g → g ≠ tb := fun g e e' => by
    subst e'
    rcases ho with ho | ho
    · rw [ho] at e; exact vt ht (by decide) e
    · rw [ho] at e; cases e; omega
  refine ⟨⟨h.old.trans (c.low h.old.size h.lo (fun g e => (h.neg.lt e).1)), fun x hx => c.block (h.r x hx) (h.ne x hx) (vt (h.r x hx) (by decide)), by simpa using heap_setCell (j := 4) hV1 v', (h.pos.chg c (fun g cur hg' hc => ⟨typ_ne hc ht (by decide), fun e => h.apart g hg' e⟩) (fun g cur _ hc => no hc (by decide) (by decide))).raise h.hi, c.owns h.tst (fun g cur _ hc => no hc (by decide) (by decide)),
    h.neg.push (tb := tb) (o := 4) hb hg ⟨_, ht⟩ hv' hvt hu h.hi, c.owns h.vars (fun g cur _ hc => no hc (by decide) (by decide)), fun g e1 e2 => by
    rcases ho with ho | ho
    · rw [ho] at e2; exact h.apart g e1 e2
    · rw [ho] at e2; cases e2; have := (h.pos.lt e1).2; omega, h.ne, h.lo, by have := hg.size; simp; omega, c.owns h.hd (fun g cur _ hc => no hc (by decide) (by decide))⟩, by simp [World.cell?, hV1], by simp [World.frozen?, hV1]⟩
/-- the tests, all at once -/
theorem KSt.setTst (h : KSt ws H rs tb hp cl ha hs pv tv gv vv ps [] ns nv w) (hb : Below w.heap.size w V) {v' : Value} (ho : V.ownsRow w.heap.size 60 5 v' ts.length (tstCells ts)) : KSt ws H rs tb hp cl ha hs pv v' gv vv ps ts ns nv (V.setCell ⟨tb, 3, none⟩ v') ∧ V.cell? ⟨tb, 3, none⟩ = some tv ∧ V.frozen? ⟨tb, 3, none⟩ = false := by
  have h2 := h.below hb
  have c := chg_store V tb 3 v'
  have ht := h2.t
  have no : ∀ {g : Nat} {cur : Array Value} {T : TypeId}, V.heap[g]? = some (.cells cur T (0, 0)) → T ≠ 32 → g ≠ tb ∧ (none : Option Nat) ≠ some g := fun hc hT => ⟨typ_ne hc ht hT, by simp⟩
  refine ⟨⟨h2.old.trans (c.low h2.old.size h2.lo (fun g e => by cases e)), fun x hx => c.block (h2.r x hx) (h2.ne x hx) (by simp), by simpa using heap_setCell (j := 3) ht v', h2.pos.chg c (fun g cur _ hc => no hc (by decide)) (fun g cur _ hc => no hc (by decide)), c.owns (owns_base ho (h.old.size)) (fun g cur _ hc => no hc (by decide)),
    h2.neg.chg c (fun g cur _ hc => no hc (by decide)) (fun g cur _ hc => no hc (by decide)), c.owns h2.vars (fun g cur _ hc => no hc (by decide)), h2.apart, h2.ne, h2.lo, by simpa using h2.hi, c.owns h2.hd (fun g cur _ hc => no hc (by decide))⟩, by simp [World.cell?, ht], by simp [World.frozen?, ht]⟩
/-- the variables, all at once -/
theorem KSt.setVars (h : KSt ws H rs tb hp cl ha hs pv tv gv vv ps ts ns 0 w) (hb : Below w.heap.size w V) {v' : Value} (ho : V.ownsRow w.heap.size 9 1 v' nv (List.replicate nv vV)) : KSt ws H rs tb hp cl ha hs pv tv gv v' ps ts ns nv (V.setCell ⟨tb, 5, none⟩ v') ∧ V.cell? ⟨tb, 5, none⟩ = some vv ∧ V.frozen? ⟨tb, 5, none⟩ = false := by
  have h2 := h.below hb
  have c := chg_store V tb 5 v'
  have ht := h2.t
  have no : ∀ {g : Nat} {cur : Array Value} {T : TypeId}, V.heap[g]? = some (.cells cur T (0, 0)) → T ≠ 32 → g ≠ tb ∧ (none : Option Nat) ≠ some g := fun hc hT => ⟨typ_ne hc ht hT, by simp⟩
  refine ⟨⟨h2.old.trans (c.low h2.old.size h2.lo (fun g e => by cases e)), fun x hx => c.block (h2.r x hx) (h2.ne x hx) (by simp), by simpa using heap_setCell (j := 5) ht v', h2.pos.chg c (fun g cur _ hc => no hc (by decide)) (fun g cur _ hc => no hc (by decide)), c.owns h2.tst (fun g cur _ hc => no hc (by decide)),
    h2.neg.chg c (fun g cur _ hc => no hc (by decide)) (fun g cur _ hc => no hc (by decide)), c.owns (owns_base ho (h.old.size)) (fun g cur _ hc => no hc (by decide)), h2.apart, h2.ne, h2.lo, by simpa using h2.hi, c.owns h2.hd (fun g cur _ hc => no hc (by decide))⟩, by simp [World.cell?, ht], by simp [World.frozen?, ht]⟩
/-- what a call of copyRule leaves -/
def RCopyEnd (R : RuleV) (hs : List Sl) (w : World) (e : Ending) (w' : World) : Prop := ∃ R' : RuleV, e = .returned (.agg R'.cells) ∧ RuleIn w' R' ∧ Slots w' R'.ha hs ∧ w'.ownsRow w.heap.size 9 1 (.slice R'.va R'.nv R'.vc) R'.nv (List.replicate R'.nv vV) ∧ Below w.heap.size w w' ∧
  R'.hp = R.hp ∧ R'.hn = R.hn ∧ R'.pos = R.pos ∧ R'.tests = R.tests ∧ R'.neg = R.neg ∧ R'.nv = R.nv ∧ R'.cl = R.cl
theorem copy_fin {R : RuleV} {hs : List Sl} {hv : Value} (h : KSt ws H rs tb hp cl hv hs pv tv gv vv ps ts ns nv w) {b : Nat} {cs : Array Value} (hb : (b, cs) ∈ rs) (hlo : ws.heap.size ≤ b) (c : Chg b none w V) (e1 : R.hp = hp) (e2 : R.hn = hs.length) (e3 : R.cl = cl) (e4 : R.pos = ps) (e5 : R.tests = ts) (e6 : R.neg = ns) (e7 : R.nv = nv) :
    RCopyEnd R hs ws (.returned (.agg #[.int .i64 hp, hv, pv, tv, gv, vv, .int .i64 cl])) V := by
  have hb' := h.r _ hb
  have no : ∀ {g : Nat} {cur : Array Value} {T : TypeId}, w.heap[g]? = some (.cells cur T (0, 0)) → T ≠ 32 → g ≠ b ∧ (none : Option Nat) ≠ some g := fun hc hT => ⟨typ_ne hc hb' hT, by simp⟩
  obtain ⟨pa, pc, rfl, hP⟩ := (h.pos.chg c (fun g cur _ hc => no hc (by decide)) (fun g cur _ hc => no hc (by decide))).pats
  obtain ⟨ta, tc, rfl, hT⟩ := tsts_row (c.owns h.tst (fun g cur _ hc => no hc (by decide)))
  obtain ⟨na, nc, rfl, hN⟩ := (h.neg.chg c (fun g cur _ hc => no hc (by decide)) (fun g cur _ hc => no hc (by decide))).pats
  have k5 := c.owns h.vars (fun g cur _ hc => no hc (by decide))
  obtain ⟨va, vc, rfl⟩ := owns_shape' k5
  obtain ⟨sa, sc, rfl, hS, _⟩ := slots_of_row (c.owns h.hd (fun g cur _ hc => no hc (by decide)))
  exact ⟨⟨hp, sa, hs.length, sc, pa, pc, ps, ta, tc, ts, na, nc, ns, va, nv, vc, cl⟩, rfl, ⟨hP, hT, hN⟩, hS.1, k5, h.old.trans (c.low h.old.size hlo (fun g e => by cases e)), e1.symm, e2.symm, e4.symm, e5.symm, e6.symm, e7.symm, e3.symm⟩
end
end Mt
end Go.Proofs.Ytkejjiohkhlnnaa

namespace Go.Proofs.Ytkejjiohkhlnnaa
open Go.RowKit
namespace Mt

theorem kst_start {ws V V2 : World} {tb : Nat} {rs : List (Nat × Array Value)} {hp cl : Int} {ha : Value} {hs : List Sl} (hb : Below ws.heap.size ws V2) (hr : ∀ x ∈ rs, V2.heap[x.1]? = some (.cells x.2 32 (0, 0))) (hz : V2.heap[tb]? = some (.cells zeroR 32 (0, 0))) (hlo : ws.heap.size ≤ tb) (hne : ∀ x ∈ rs, x.1 ≠ tb)
    (hd : V2.ownsRow ws.heap.size 58 2 ha hs.length (slotCells hs)) (hV : V = ((((((V2.setCell ⟨tb, 0, none⟩ (.int .i64 hp)).setCell ⟨tb, 1, none⟩ ha).setCell ⟨tb, 2, none⟩ (.slice none 0 0)).setCell ⟨tb, 3, none⟩ (.slice none 0 0)).setCell ⟨tb, 4, none⟩ (.slice none 0 0)).setCell ⟨tb, 5, none⟩ (.slice none 0 0)).setCell ⟨tb, 6, none⟩ (.int .i64 cl)) :
    KSt ws V2.heap.size rs tb hp cl ha hs (.slice none 0 0) (.slice none 0 0) (.slice none 0 0) (.slice none 0 0) [] [] [] 0 V := by
  obtain ⟨k1, k2⟩ := rule_stores hz _ _ _ _ _ _ _ hV
  exact ⟨hb.trans (k2.low hb.size hlo (fun g e => by cases e)), fun x hx => k2.block (hr x hx) (hne x hx) (by simp), k1, PatRow.nil _ _ _, World.ownsRow_nil _ _ _ _, PatRow.nil _ _ _, World.ownsRow_nil _ _ _ _, fun g h => (by cases h), hne, hlo, k2.size, k2.owns hd (fun g cur _ hc => ⟨typ_ne hc hz (by decide), by simp⟩)⟩
theorem zero_cells {w : World} {b : Nat} (h : w.heap[b]? = some (.cells zeroR 32 (0, 0))) : (w.cell? ⟨b, 0, none⟩ = some (.int .i64 0) ∧ w.cell? ⟨b, 1, none⟩ = some (.slice none 0 0) ∧ w.cell? ⟨b, 2, none⟩ = some (.slice none 0 0) ∧ w.cell? ⟨b, 3, none⟩ = some (.slice none 0 0) ∧ w.cell? ⟨b, 4, none⟩ = some (.slice none 0 0) ∧ w.cell? ⟨b, 5, none⟩ = some (.slice none 0 0) ∧ w.cell? ⟨b, 6, none⟩ = some (.int .i64 0)) ∧ ∀ o, w.frozen? ⟨b, o, none⟩ = false := by
  simp [World.cell?, World.frozen?, h, zeroR]
theorem tstCells_one (l : List Tst) : ∀ u ∈ tstCells l, u.oneCell' = true := by
  intro u hu
  obtain ⟨t, _, ht⟩ := List.mem_flatMap.1 hu
  simp at ht
  rcases ht with rfl | rfl | rfl | rfl | rfl <;> rfl
theorem strs_source {w : World} {B : Nat} {a : Option Addr} {n c : Nat} (h : w.ownsRow B 9 1 (.slice a n c) n (List.replicate n vV)) : SourceW w a n (List.replicate n vV) := by
  rcases owns_form h with ⟨e, h0, _⟩ | ⟨g, cap, e, hb, _, _, _, _, hc, _⟩
  · cases e
    exact .inl ⟨rfl, rfl, rfl⟩
  · cases e
    refine .inr ⟨_, rfl, fun j u hu => ?_⟩
    have e : (⟨g, 0, none⟩ : Addr).add j = ⟨g, j, none⟩ := by unfold Addr.add; split <;> simp_all
    rw [e]
    exact hc j u hu
theorem SourceW.below {w V : World} {a : Option Addr} {m : Nat} {news : List Value} (h : SourceW w a m news) (hb : Below w.heap.size w V) : SourceW V a m news := by
  rcases h with h | ⟨ad, rfl, h⟩
  · exact .inl h
  · refine .inr ⟨ad, rfl, fun j u hu => ?_⟩
    have := h j u hu
    exact (hb.cell (World.block_lt_of_cell? _ _ this)).trans this
set_option linter.unusedSimpArgs false in
set_option maxHeartbeats 16000000 in
set_option maxRecDepth 100000 in
theorem copyRule_any {B : Nat} (R : RuleV) (hs : List Sl) (w : World) (hr : RuleIn w R) (hh : Slots w R.ha hs) (hn : R.hn = hs.length) (hl : hs.length * 16 ≤ 140737488351232) (l1 : R.pos.length ≤ 1000) (l2 : R.tests.length ≤ 1000) (l3 : R.neg.length ≤ 1000) (l4 : R.nv ≤ 1000) (h8 : ∀ p ∈ R.pos, p.2.length ≤ 8) (h9 : ∀ p ∈ R.neg, p.2.length ≤ 8) (hv : w.ownsRow B 9 1 (.slice R.va R.nv R.vc) R.nv (List.replicate R.nv vV)) :
    Calls Try.prog 34 #[.agg R.cells] w (RCopyEnd R hs w) := by
  have HP := Lib.hid hr.pos
  have HT := Lib.hid (tsts_source hr.tests)
  have HN := Lib.hid hr.neg
  have HV := Lib.hid (strs_source hv)
  have H8 := Lib.hid h8
  have H9 := Lib.hid h9
  obtain ⟨hp, rha, rhn, rhc, pa, pc, pos, ta, tc, tests, na, nc, neg, va, nv, vc, cl⟩ := R
  simp only at hh hn l1 l2 l3 l4 HP HT HN HV H8 H9 ⊢
  have cH := fun (W : World) (hW : Below w.heap.size w W) => Lib.hid (copyPattern_w hp rha rhc hs W (hh.below hW (Nat.le_refl _)) hl)
  rw [← hn] at cH
  have HHN := Lib.hid hn
  have cP := fun (p : Pat) (sa : Option Addr) (sc : Nat) (W : World) (hS : Slots W sa p.2) (h8 : p.2.length ≤ 8) => Lib.hid (copyPattern_w p.1 sa sc p.2 W hS (by omega))
  obtain ⟨P, hPl⟩ : ∃ n, n = pos.length := ⟨_, rfl⟩
  obtain ⟨T, hTl⟩ : ∃ n, n = tests.length := ⟨_, rfl⟩
  obtain ⟨G, hGl⟩ : ∃ n, n = neg.length := ⟨_, rfl⟩
  unfold RuleV.cells
  simp only
  rw [← hPl, ← hTl, ← hGl]
  rw [← hPl] at l1
  rw [← hTl] at l2 HT
  rw [← hGl] at l3
  have HPl := Lib.hid hPl
  have HTl := Lib.hid hTl
  have HGl := Lib.hid hGl
  clear hPl hTl hGl
  obtain ⟨b1, hb1⟩ : ∃ b, b = w.heap.size := ⟨_, rfl⟩
  obtain ⟨b2, hb2⟩ : ∃ b, b = w.heap.size + 1 := ⟨_, rfl⟩
  obtain ⟨rc, hrc⟩ : ∃ c : Array Value, c = #[.int .i64 hp, .slice rha rhn rhc, .slice pa P pc, .slice ta T tc, .slice na G nc, .slice va nv vc, .int .i64 cl] := ⟨_, rfl⟩
  obtain ⟨W0, hW0⟩ : ∃ V, V = (w.alloc (.cells rc 32)).alloc (.cells zeroR 32) := ⟨_, rfl⟩
  have q1 : W0.heap[b1]? = some (.cells rc 32 (0, 0)) := by rw [hW0, hb1]; exact (Below.heap_alloc _ _ _ (by simp)).trans (World.alloc_heap_new w _)
  have q2 : W0.heap[b2]? = some (.cells zeroR 32 (0, 0)) := by
    have := World.alloc_heap_new (w.alloc (.cells rc 32)) (.cells zeroR 32)
    rw [World.size_alloc] at this
    rw [hW0, hb2]; exact this
  have hsz : W0.heap.size = w.heap.size + 2 := by rw [hW0]; simp
  have hb0 : Below w.heap.size w W0 := by rw [hW0]; exact ((Below.refl _ _).alloc (Nat.le_refl _) _).alloc (by simp) _
  have HW0 : Hid (W0 = (w.alloc (.cells #[.int .i64 hp, .slice rha rhn rhc, .slice pa P pc, .slice ta T tc, .slice na G nc, .slice va nv vc, .int .i64 cl] 32)).alloc (.cells #[.int .i64 0, .slice none 0 0, .slice none 0 0, .slice none 0 0, .slice none 0 0, .slice none 0 0, .int .i64 0] 32)) := Lib.hid (by rw [hW0, hrc]; rfl)
  have HRS : Hid (∀ V, Below W0.heap.size W0 V → ∀ x ∈ [(b1, rc), (b2, zeroR)], V.heap[x.1]? = some (.cells x.2 32 (0, 0))) := Lib.hid (fun V hV x hx => by
    rcases List.mem_cons.1 hx with rfl | hx
    · exact (hV.block b1 (by omega)).trans q1
    · rw [List.mem_singleton] at hx; subst hx; exact (hV.block b2 (by omega)).trans q2)
  have Hbs : Hid (b1 = w.heap.size ∧ b2 = w.heap.size + 1 ∧ W0.heap.size = w.heap.size + 2) := Lib.hid ⟨hb1, hb2, hsz⟩
  have HB0 := Lib.hid hb0
  have Hrc := Lib.hid hrc
  have r0 : W0.cell? ⟨b1, 0, none⟩ = some (.int .i64 hp) := by simp [World.cell?, q1, hrc]
  have r1 : W0.cell? ⟨b1, 1, none⟩ = some (.slice rha rhn rhc) := by simp [World.cell?, q1, hrc]
  have r2 : W0.cell? ⟨b1, 6, none⟩ = some (.int .i64 cl) := by simp [World.cell?, q1, hrc]
  clear q1 q2 hsz hb0 hW0 hb1 hb2 hrc hr hh hn h8 h9 hv
  go_enter Try.func34, Try.ntmps34
  go_upto_region 1 with fail
  rw [← HW0.out, ← Hbs.out.2.1, ← Hbs.out.1]
  have HNE : Hid (∀ b3, W0.heap.size ≤ b3 → w.heap.size ≤ b3 ∧ ∀ x ∈ [(b1, rc), (b2, zeroR)], x.1 ≠ b3) := Lib.hid (fun b3 h3 => by
    have := Hbs.out
    refine ⟨by omega, fun x hx => ?_⟩
    rcases List.mem_cons.1 hx with rfl | hx
    · simp only; omega
    · rw [List.mem_singleton] at hx; subst hx; simp only; omega)
  go_cut [3] (fun t wr => ∃ (tb H : Nat) (xa : Option Addr) (xc : Nat), t = .pointer (some ⟨tb, 0, none⟩) ∧ Hid (KSt w H [(b1, rc), (b2, zeroR)] tb hp cl (.slice xa hs.length xc) hs (.slice none 0 0) (.slice none 0 0) (.slice none 0 0) (.slice none 0 0) [] [] [] 0 wr))
  case first =>
    obtain ⟨V0, hV0⟩ : ∃ V, V = W0.drew := ⟨_, rfl⟩
    have hb0 : Below W0.heap.size W0 V0 := by rw [hV0]; exact (Below.refl _ _).drew
    refine wp_region_noPanic ?_
    refine wp_region_held_drew (S := (fun w' => w'.cell? ⟨b1, 0, none⟩ = some (.int .i64 hp) ∧ w'.cell? ⟨b1, 1, none⟩ = some (.slice rha rhn rhc) ∧ w'.cell? ⟨b1, 6, none⟩ = some (.int .i64 cl))) (by kernel_rfl) ?_ (fun hHeld => ?_)
    · rw [← hV0]; exact ⟨on_cell hb0 r0, on_cell hb0 r1, on_cell hb0 r2⟩
    rw [← hV0] at hHeld ⊢
    clear hV0
    refine wpAnyH_take (i := 0) (oi := ⟨some 8, _, _, _, _, _⟩) (v := ?_) rfl (by kernel_rfl) (by kernel_rfl) (by kernel_rfl) (fun _ _ _ h => h) (Or.inl ⟨by rfl, ?_⟩) (by assumption) ?_
    rotate_left 1
    · intro w hSw
      (try dsimp only at hSw)
      go_simp
      all_goals with_reducible rfl
    (try simp only [Act.put, List.setIfInBounds_toArray, List.set_cons_zero, List.set_cons_succ])
    refine wpAnyH_take (i := 1) (oi := ⟨some 9, _, _, _, _, _⟩) (v := ?_) rfl (by kernel_rfl) (by kernel_rfl) (by kernel_rfl) (fun _ _ _ h => h) (Or.inl ⟨by rfl, ?_⟩) (by assumption) ?_
    rotate_left 1
    · intro w hSw
      (try dsimp only at hSw)
      go_simp
      all_goals with_reducible rfl
    (try simp only [Act.put, List.setIfInBounds_toArray, List.set_cons_zero, List.set_cons_succ])
    refine wpAnyH_take (i := 3) (oi := ⟨some 11, _, _, _, _, _⟩) (v := ?_) rfl (by kernel_rfl) (by kernel_rfl) (by kernel_rfl) (fun _ _ _ h => h) (Or.inl ⟨by rfl, ?_⟩) (by assumption) ?_
    rotate_left 1
    · intro w hSw
      (try dsimp only at hSw)
      go_simp
      all_goals with_reducible rfl
    (try simp only [Act.put, List.setIfInBounds_toArray, List.set_cons_zero, List.set_cons_succ])
    refine wpAnyH_take (i := 4) (oi := ⟨some 12, _, _, _, _, _⟩) (v := ?_) rfl (by kernel_rfl) (by kernel_rfl) (by kernel_rfl) (fun _ _ _ h => h) (Or.inl ⟨by rfl, ?_⟩) (by assumption) ?_
    rotate_left 1
    · intro w hSw
      (try dsimp only at hSw)
      go_simp
      all_goals with_reducible rfl
    (try simp only [Act.put, List.setIfInBounds_toArray, List.set_cons_zero, List.set_cons_succ])
    refine wpAnyH_ready (rs := [2, 6]) (by kernel_rfl) (by simp) ?_
    refine AllReadyH.cons (o := _) rfl (fun K hK => ?_) ?_
    · go_simp
      with_reducible refine (cH V0 (HB0.out.trans (hb0.mono (show w.heap.size ≤ W0.heap.size from by have := Hbs.out; omega)))).out.mono ?_
      rintro e V1 ⟨xa, xc, rfl, hown, hc1⟩
      have hb1 : Below W0.heap.size W0 V1 := hb0.trans (hc1.mono hb0.size)
      have Hown := Lib.hid (owns_base hown (show w.heap.size ≤ V0.heap.size from by have := Hbs.out; have := hb0.size; omega))
      clear hown hc1
      refine hK.out _ _ ?_ (fun hHeld => ?_)
      · exact ⟨on_cell hb1 r0, on_cell hb1 r1, on_cell hb1 r2⟩
      clear hK K
      (try simp only [Act.put, List.setIfInBounds_toArray, List.set_cons_zero, List.set_cons_succ])
      refine wpAnyH_take (i := 5) (oi := ⟨some 13, _, _, _, _, _⟩) (v := ?_) rfl (by kernel_rfl) (by kernel_rfl) (by kernel_rfl) (fun _ _ _ h => h) (Or.inl ⟨by rfl, ?_⟩) (by assumption) ?_
      rotate_left 1
      · intro w hSw
        (try dsimp only at hSw)
        go_simp
        all_goals with_reducible rfl
      (try simp only [Act.put, List.setIfInBounds_toArray, List.set_cons_zero, List.set_cons_succ])
      refine wpAnyH_ready (rs := [6]) (by kernel_rfl) (by simp) ?_
      refine AllReadyH.cons (o := _) rfl (fun K hK => ?_) ?_
      · go_simp
        obtain ⟨V2, hV⟩ : ∃ W, W = V1.alloc (.cells #[.int .i64 0, .slice none 0 0, .slice none 0 0, .slice none 0 0, .slice none 0 0, .slice none 0 0, .int .i64 0] 32) := ⟨_, rfl⟩
        obtain ⟨b3, hb3⟩ : ∃ b, b = V1.heap.size := ⟨_, rfl⟩
        rw [← hV, ← hb3]
        have hz : V2.heap[b3]? = some (.cells zeroR 32 (0, 0)) := by rw [hV, hb3]; exact World.alloc_heap_new V1 _
        have hb2 : Below W0.heap.size W0 V2 := by rw [hV]; exact hb1.alloc hb1.size _
        have hlo3 : W0.heap.size ≤ b3 := by rw [hb3]; exact hb1.size
        have Hown := Lib.hid (owns_below Hown.out (show Below V1.heap.size V1 V2 by rw [hV]; exact (Below.refl _ _).alloc (Nat.le_refl _) _) (Nat.le_refl _))
        clear hV hb3
        refine hK.out _ _ ?_ (fun hHeld => ?_)
        · exact ⟨on_cell hb2 r0, on_cell hb2 r1, on_cell hb2 r2⟩
        clear hK K
        (try simp only [Act.put, List.setIfInBounds_toArray, List.set_cons_zero, List.set_cons_succ])
        refine wpAnyH_ready (rs := [7]) (by kernel_rfl) (by simp) ?_
        refine AllReadyH.cons (o := _) rfl (fun K hK => ?_) ?_
        · obtain ⟨⟨z0, z1, z2, z3, z4, z5, z6⟩, hf⟩ := zero_cells hz
          have f0 := hf 0
          have f1 := hf 1
          have f2 := hf 2
          have f3 := hf 3
          have f4 := hf 4
          have f5 := hf 5
          have f6 := hf 6
          clear hf
          go_simp
          clear f0 f1 f2 f3 f4 f5 f6 z0 z1 z2 z3 z4 z5 z6
          generalize hV : World.setCell _ _ _ = V9
          have HK := Lib.hid (kst_start (HB0.out.trans (hb2.mono (show w.heap.size ≤ W0.heap.size from by have := Hbs.out; omega))) (HRS.out _ hb2) hz (HNE.out _ hlo3).1 (HNE.out _ hlo3).2 Hown.out hV.symm)
          clear hV hz hlo3 Hown
          refine hK.out _ _ ?_ (fun hHeld => ?_)
          · exact ⟨HK.out.rcell (List.mem_cons_self ..) (by rw [Hrc.out]; rfl), HK.out.rcell (List.mem_cons_self ..) (by rw [Hrc.out]; rfl), HK.out.rcell (List.mem_cons_self ..) (by rw [Hrc.out]; rfl)⟩
          clear hK K
          (try simp only [Act.put, List.setIfInBounds_toArray, List.set_cons_zero, List.set_cons_succ])
          refine wpAnyH_done (by kernel_rfl) ?_ _
          refine NoPanic.normal ?_
          clear hHeld
          go_wp2_with fail
          go_meet
          exact ⟨b3, _, xa, xc, rfl, HK⟩
        exact AllReadyH.nil
      exact AllReadyH.nil
    refine AllReadyH.cons (o := _) rfl (fun K hK => ?_) ?_
    · go_simp
      obtain ⟨V1, hV⟩ : ∃ W, W = V0.alloc (.cells #[.int .i64 0, .slice none 0 0, .slice none 0 0, .slice none 0 0, .slice none 0 0, .slice none 0 0, .int .i64 0] 32) := ⟨_, rfl⟩
      obtain ⟨b3, hb3⟩ : ∃ b, b = V0.heap.size := ⟨_, rfl⟩
      rw [← hV, ← hb3]
      have hz : V1.heap[b3]? = some (.cells zeroR 32 (0, 0)) := by rw [hV, hb3]; exact World.alloc_heap_new V0 _
      have hb1 : Below W0.heap.size W0 V1 := by rw [hV]; exact hb0.alloc hb0.size _
      have hlo3 : W0.heap.size ≤ b3 := by rw [hb3]; exact hb0.size
      clear hV hb3
      refine hK.out _ _ ?_ (fun hHeld => ?_)
      · exact ⟨on_cell hb1 r0, on_cell hb1 r1, on_cell hb1 r2⟩
      clear hK K
      (try simp only [Act.put, List.setIfInBounds_toArray, List.set_cons_zero, List.set_cons_succ])
      refine wpAnyH_ready (rs := [2]) (by kernel_rfl) (by simp) ?_
      refine AllReadyH.cons (o := _) rfl (fun K hK => ?_) ?_
      · go_simp
        with_reducible refine (cH V1 (HB0.out.trans (hb1.mono (show w.heap.size ≤ W0.heap.size from by have := Hbs.out; omega)))).out.mono ?_
        rintro e V2 ⟨xa, xc, rfl, hown, hc1⟩
        have hb2 : Below W0.heap.size W0 V2 := hb1.trans (hc1.mono hb1.size)
        have Hown := Lib.hid (owns_base hown (show w.heap.size ≤ V1.heap.size from by have := Hbs.out; have := hb1.size; omega))
        have hz := (hc1.block b3 (Array.getElem?_eq_some_iff.1 hz).1).trans hz
        clear hown hc1
        refine hK.out _ _ ?_ (fun hHeld => ?_)
        · exact ⟨on_cell hb2 r0, on_cell hb2 r1, on_cell hb2 r2⟩
        clear hK K
        (try simp only [Act.put, List.setIfInBounds_toArray, List.set_cons_zero, List.set_cons_succ])
        refine wpAnyH_take (i := 5) (oi := ⟨some 13, _, _, _, _, _⟩) (v := ?_) rfl (by kernel_rfl) (by kernel_rfl) (by kernel_rfl) (fun _ _ _ h => h) (Or.inl ⟨by rfl, ?_⟩) (by assumption) ?_
        rotate_left 1
        · intro w hSw
          (try dsimp only at hSw)
          go_simp
          all_goals with_reducible rfl
        (try simp only [Act.put, List.setIfInBounds_toArray, List.set_cons_zero, List.set_cons_succ])
        refine wpAnyH_ready (rs := [7]) (by kernel_rfl) (by simp) ?_
        refine AllReadyH.cons (o := _) rfl (fun K hK => ?_) ?_
        · obtain ⟨⟨z0, z1, z2, z3, z4, z5, z6⟩, hf⟩ := zero_cells hz
          have f0 := hf 0
          have f1 := hf 1
          have f2 := hf 2
          have f3 := hf 3
          have f4 := hf 4
          have f5 := hf 5
          have f6 := hf 6
          clear hf
          go_simp
          clear f0 f1 f2 f3 f4 f5 f6 z0 z1 z2 z3 z4 z5 z6
          generalize hV : World.setCell _ _ _ = V9
          have HK := Lib.hid (kst_start (HB0.out.trans (hb2.mono (show w.heap.size ≤ W0.heap.size from by have := Hbs.out; omega))) (HRS.out _ hb2) hz (HNE.out _ hlo3).1 (HNE.out _ hlo3).2 Hown.out hV.symm)
          clear hV hz hlo3 Hown
          refine hK.out _ _ ?_ (fun hHeld => ?_)
          · exact ⟨HK.out.rcell (List.mem_cons_self ..) (by rw [Hrc.out]; rfl), HK.out.rcell (List.mem_cons_self ..) (by rw [Hrc.out]; rfl), HK.out.rcell (List.mem_cons_self ..) (by rw [Hrc.out]; rfl)⟩
          clear hK K
          (try simp only [Act.put, List.setIfInBounds_toArray, List.set_cons_zero, List.set_cons_succ])
          refine wpAnyH_done (by kernel_rfl) ?_ _
          refine NoPanic.normal ?_
          clear hHeld
          go_wp2_with fail
          go_meet
          exact ⟨b3, _, xa, xc, rfl, HK⟩
        exact AllReadyH.nil
      exact AllReadyH.nil
    exact AllReadyH.nil
  case rest =>
    clear cH r0 r1 r2 HRS HNE HB0 HW0
    obtain ⟨tb, H, xa, xc, rfl, HK⟩ := hcut
    have r3 := HK.out.rcell (List.mem_cons_self ..) (k := 3) (x := .slice ta T tc) (by rw [Hrc.out]; rfl)
    have t3 := HK.out.cells.1.2.2.2.1
    have srcT := HT.out.below HK.out.old
    go_upto_region 3 with (first | (at_builtin; refine wpList_append_w elemTst _ rfl _ _ rfl wc.heap.size (.slice none 0 0) 0 [] rfl (World.ownsRow_nil _ _ _ _) ta T tc (tstCells tests) rfl srcT (by rw [tstCells_length, HTl.out]) (tstCells_one tests) (by unfold maxLen; omega) (by omega) (Nat.le_refl _) ?_; intro v' w1 hown hgrow hblk; obtain ⟨ta1, tc1, rfl⟩ := owns_shape' hown; have hb1 := grown_below hgrow (fun k hk => by cases hk) (Nat.le_refl _); obtain ⟨p1, p2, p3⟩ := HK.out.setTst (ts := tests) hb1 (by rw [← HTl.out]; simpa using hown); have P1 := Lib.hid p1; clear p1 hown hgrow hblk))
    obtain ⟨W4, hW4⟩ : ∃ V, V = w1.setCell ⟨tb, 3, none⟩ (.slice ta1 T tc1) := ⟨_, rfl⟩
    (try simp only [Nat.zero_add] at P1)
    rw [← hW4] at P1 ⊢
    clear hW4 p2 p3 hb1 t3 r3 srcT HK
    have r5 := P1.out.rcell (List.mem_cons_self ..) (k := 5) (x := .slice va nv vc) (by rw [Hrc.out]; rfl)
    have t5 := P1.out.cells.1.2.2.2.2.2.1
    have srcV := HV.out.below P1.out.old
    go_upto_region 4 with (first | (at_builtin; refine wpList_append_w elemStr _ rfl _ _ rfl W4.heap.size (.slice none 0 0) 0 [] rfl (World.ownsRow_nil _ _ _ _) va nv vc (List.replicate nv vV) rfl srcV (by simp) (fun u hu => by rw [List.eq_of_mem_replicate hu]; rfl) (by unfold maxLen; omega) (by omega) (Nat.le_refl _) ?_; intro v' w2 hown hgrow hblk; obtain ⟨va1, vc1, rfl⟩ := owns_shape' hown; have hb1 := grown_below hgrow (fun k hk => by cases hk) (Nat.le_refl _); obtain ⟨p1, p2, p3⟩ := P1.out.setVars (nv := nv) hb1 (by simpa using hown); have P2 := Lib.hid p1; clear p1 hown hgrow hblk))
    obtain ⟨W6, hW6⟩ : ∃ V, V = w2.setCell ⟨tb, 5, none⟩ (.slice va1 nv vc1) := ⟨_, rfl⟩
    (try simp only [Nat.zero_add] at P2)
    rw [← hW6] at P2 ⊢
    clear hW6 p2 p3 hb1 t5 r5 srcV P1
    have r2 := P2.out.rcell (List.mem_cons_self ..) (k := 2) (x := .slice pa P pc) (by rw [Hrc.out]; rfl)
    go_upto_block 0 with fail
    go_cut [] (fun wr => ∃ (H : Nat) (v : Value), Hid (KSt w H [(b1, rc), (b2, zeroR)] tb hp cl (.slice xa hs.length xc) hs v (.slice ta1 T tc1) (.slice none 0 0) (.slice va1 nv vc1) pos tests [] nv wr))
    case first =>
      go_wp2_with fail
      go_loopw [29] (fun t wr => ∃ (i H : Nat) (v : Value) (l : List Pat), t = .int .i64 i ∧ i ≤ P ∧ Hid (l = pos.take i) ∧ Hid (KSt w H [(b1, rc), (b2, zeroR)] tb hp cl (.slice xa hs.length xc) hs v (.slice ta1 T tc1) (.slice none 0 0) (.slice va1 nv vc1) l tests [] nv wr)) (fun t _ => P - (intOf t).toNat)
      case atStart => exact ⟨0, _, _, [], rfl, Nat.zero_le _, Lib.hid (by simp), P2⟩
      case round =>
        clear P2 r2 
        obtain ⟨i, H, v, l, rfl, hi, HL, HK⟩ := hrel
        by_cases hlt : i < P
        · have hold := HK.out.old
          obtain ⟨bp, op, p0, hpa, hp0, c0, sa, sc, c1, hSl⟩ := pats_at HP.out (k := i) (by rw [← HPl.out]; exact hlt)
          have h80 := H8.out p0 (List.mem_of_getElem? hp0)
          have HP0 := Lib.hid hp0
          subst hpa
          obtain ⟨pr0, sl0⟩ := p0
          have c0 := below_cell hold (Nat.le_refl _) c0
          have c1 := below_cell hold (Nat.le_refl _) c1
          have hSl := hSl.below hold (Nat.le_refl _)
          simp only at c0 c1 h80
          have zi : (i : Int) < (P : Int) := by omega
          clear hold hp0
          go_upto_region 7 with fail
          obtain ⟨W7, hW7⟩ : ∃ V, V = wr.alloc (.cells #[.int .i64 pr0, .slice sa sl0.length sc] 27) := ⟨_, rfl⟩
          obtain ⟨pb, hpb⟩ : ∃ b, b = wr.heap.size := ⟨_, rfl⟩
          rw [← hW7, ← hpb]
          obtain ⟨V0, hV0⟩ : ∃ V, V = W7.drew := ⟨_, rfl⟩
          have hb7 : Below wr.heap.size wr W7 := by rw [hW7]; exact (Below.refl _ _).alloc (Nat.le_refl _) _
          have hbd : Below W7.heap.size W7 V0 := by rw [hV0]; exact (Below.refl _ _).drew
          have e0 : W7.cell? ⟨pb, 0, none⟩ = some (.int .i64 pr0) := by rw [hW7, hpb]; simp
          have e1 : W7.cell? ⟨pb, 1, none⟩ = some (.slice sa sl0.length sc) := by rw [hW7, hpb]; simp
          have e0 := on_cell hbd e0
          have e1 := on_cell hbd e1
          have HK0 := Lib.hid ((HK.out.below hb7).below hbd)
          have cC := cP (pr0, sl0) sa sc V0 ((hSl.below hb7 (Nat.le_refl _)).below hbd (Nat.le_refl _)) h80
          simp only at cC
          have HLen : Hid (l.length ≤ 1000) := Lib.hid (by rw [HL.out, List.length_take]; omega)
          obtain ⟨pcells, hpo, -⟩ := id HK0.out.pos
          obtain ⟨va0, vc0, rfl⟩ := owns_shape' hpo
          have HPB : Hid (pb ≠ tb ∧ (Value.slice va0 l.length vc0).ownBlock ≠ some pb) := Lib.hid ⟨by have := (Array.getElem?_eq_some_iff.1 HK.out.t).1; omega, fun e => by obtain ⟨qcells, hqo, -⟩ := id HK.out.pos; have := (hqo.lt _ e).2; omega⟩
          have hb0 := Below.refl V0.heap.size V0
          clear hW7 hpb hb7 hbd c0 c1 hSl
          refine wp_region_noPanic ?_
          refine wp_region_held_drew (S := (fun w' => w'.cell? ⟨pb, 0, none⟩ = some (.int .i64 pr0) ∧ w'.cell? ⟨pb, 1, none⟩ = some (.slice sa sl0.length sc))) (by kernel_rfl) ?_ (fun hHeld => ?_)
          · rw [← hV0]; exact ⟨e0, e1⟩
          rw [← hV0] at hHeld ⊢
          clear hV0
          refine wpAnyH_take (i := 0) (oi := ⟨some 33, _, _, _, _, _⟩) (v := ?_) rfl (by kernel_rfl) (by kernel_rfl) (by kernel_rfl) (fun _ _ _ h => h) (Or.inl ⟨by rfl, ?_⟩) (by assumption) ?_
          rotate_left 1
          · intro w hSw
            (try dsimp only at hSw)
            go_simp
            all_goals with_reducible rfl
          (try simp only [Act.put, List.setIfInBounds_toArray, List.set_cons_zero, List.set_cons_succ])
          refine wpAnyH_take (i := 2) (oi := ⟨some 35, _, _, _, _, _⟩) (v := ?_) rfl (by kernel_rfl) (by kernel_rfl) (by kernel_rfl) (fun _ _ _ h => h) (Or.inl ⟨by rfl, ?_⟩) (by assumption) ?_
          rotate_left 1
          · intro w hSw
            (try dsimp only at hSw)
            go_simp
            all_goals with_reducible rfl
          (try simp only [Act.put, List.setIfInBounds_toArray, List.set_cons_zero, List.set_cons_succ])
          refine wpAnyH_ready (rs := [1, 3]) (by kernel_rfl) (by simp) ?_
          refine AllReadyH.cons (o := _) rfl (fun K hK => ?_) ?_
          · have tt := (HK0.out.below hb0).cells.1.2.2.1
            go_simp
            clear tt
            refine hK.out _ _ ?_ (fun hHeld => ?_)
            · exact ⟨on_cell hb0 e0, on_cell hb0 e1⟩
            clear hK K
            (try simp only [Act.put, List.setIfInBounds_toArray, List.set_cons_zero, List.set_cons_succ])
            refine wpAnyH_ready (rs := [3]) (by kernel_rfl) (by simp) ?_
            refine AllReadyH.cons (o := _) rfl (fun K hK => ?_) ?_
            · go_simp
              with_reducible refine cC.out.mono ?_
              rintro e V1 ⟨ya, yc, rfl, hown, hb1⟩
              have Hown := Lib.hid (owns_base hown HK0.out.old.size)
              clear hown
              refine hK.out _ _ ?_ (fun hHeld => ?_)
              · exact ⟨on_cell hb1 e0, on_cell hb1 e1⟩
              clear hK K
              (try simp only [Act.put, List.setIfInBounds_toArray, List.set_cons_zero, List.set_cons_succ])
              refine wpAnyH_ready (rs := [4]) (by kernel_rfl) (by simp) ?_
              refine AllReadyH.cons (o := _) rfl (fun K hK => ?_) ?_
              · go_simp
                obtain ⟨V3, hV3⟩ : ∃ W, W = V1.alloc (.cells #[.int .i64 pr0, .slice ya sl0.length yc] 27) := ⟨_, rfl⟩
                obtain ⟨b9, hb9⟩ : ∃ b, b = V1.heap.size := ⟨_, rfl⟩
                rw [← hV3, ← hb9]
                have hb31 : Below V1.heap.size V1 V3 := by rw [hV3]; exact (Below.refl _ _).alloc (Nat.le_refl _) _
                have hb3 : Below V0.heap.size V0 V3 := hb1.trans (hb31.mono hb1.size)
                have src3 : Source V3 (some ⟨b9, 0, none⟩) 1 1 [.int .i64 pr0, .slice ya sl0.length yc] := by rw [hV3, hb9]; exact source_new V1 [.int .i64 pr0, .slice ya sl0.length yc] 27
                clear hV3 hb9
                refine hK.out _ _ ?_ (fun hHeld => ?_)
                · exact ⟨on_cell hb3 e0, on_cell hb3 e1⟩
                clear hK K
                (try simp only [Act.put, List.setIfInBounds_toArray, List.set_cons_zero, List.set_cons_succ])
                refine wpAnyH_ready (rs := [5]) (by kernel_rfl) (by simp) ?_
                refine AllReadyH.cons (o := _) rfl (fun K hK => ?_) ?_
                · have hz3 := hb3.size
                  have hlo := HK0.out.old.size
                  refine step_append_any elemPat _ rfl _ _ rfl w.heap.size (.slice va0 l.length vc0) l.length pcells rfl (owns_below hpo hb3 (Nat.le_refl _)) (some ⟨b9, 0, none⟩) 1 1 [.int .i64 pr0, .slice ya sl0.length yc] rfl src3 rfl (by simp [Value.oneCell']) (by have := HLen.out; unfold maxLen; omega) (by have := HLen.out; omega) (by omega) ?_
                  intro v' V4 hown4 hgrow4 hblk4
                  obtain ⟨va4, vc4, rfl⟩ := owns_shape' hown4
                  obtain ⟨p1, p2, p3⟩ := (HK0.out.below hb1).pushPos (p := (pr0, sl0)) (u := .slice ya sl0.length yc) hb31 hgrow4 (fun cells hcc => by rw [owns_same hcc (owns_below hpo hb1 (Nat.le_refl _))]; exact hown4) hblk4 Hown.out
                  have P4 := Lib.hid p1
                  have hS4 : V4.cell? ⟨pb, 0, none⟩ = some (.int .i64 pr0) ∧ V4.cell? ⟨pb, 1, none⟩ = some (.slice sa sl0.length sc) := ⟨hgrow4.cell (on_cell hb3 e0) (fun e => HPB.out.2 e.symm), hgrow4.cell (on_cell hb3 e1) (fun e => HPB.out.2 e.symm)⟩
                  clear p1 hown4 hgrow4 hblk4 src3 hlo hz3
                  refine hK.out _ _ ?_ (fun hHeld => ?_)
                  · exact hS4
                  clear hK K
                  (try simp only [Act.put, List.setIfInBounds_toArray, List.set_cons_zero, List.set_cons_succ])
                  refine wpAnyH_take (i := 6) (oi := ⟨some 39, _, _, _, _, _⟩) (v := ?_) rfl (by kernel_rfl) (by kernel_rfl) (by kernel_rfl) (fun _ _ _ h => h) (Or.inl ⟨by rfl, ?_⟩) (by assumption) ?_
                  rotate_left 1
                  · intro w hSw
                    (try dsimp only at hSw)
                    go_simp
                    all_goals with_reducible rfl
                  (try simp only [Act.put, List.setIfInBounds_toArray, List.set_cons_zero, List.set_cons_succ])
                  refine wpAnyH_ready (rs := [7]) (by kernel_rfl) (by simp) ?_
                  refine AllReadyH.cons (o := _) rfl (fun K hK => ?_) ?_
                  · go_simp
                    refine hK.out _ _ ?_ (fun hHeld => ?_)
                    · exact ⟨(World.cell?_setCell_far _ _ _ _ HPB.out.1.symm).trans hS4.1, (World.cell?_setCell_far _ _ _ _ HPB.out.1.symm).trans hS4.2⟩
                    clear hK K
                    (try simp only [Act.put, List.setIfInBounds_toArray, List.set_cons_zero, List.set_cons_succ])
                    refine wpAnyH_done (by kernel_rfl) ?_ _
                    refine NoPanic.normal ?_
                    clear hS4 hHeld
                    have HLX : Hid (l ++ [(pr0, sl0)] = pos.take (i + 1)) := Lib.hid (by rw [HL.out, take_snoc' HP0.out])
                    go_wp2
                    go_roundw
                    case rel => exact ⟨i + 1, _, _, l ++ [(pr0, sl0)], by go_num, by omega, HLX, P4⟩
                    case measure => simp [intOf]; omega
                  exact AllReadyH.nil
                exact AllReadyH.nil
              exact AllReadyH.nil
            exact AllReadyH.nil
          refine AllReadyH.cons (o := _) rfl (fun K hK => ?_) ?_
          · go_simp
            with_reducible refine cC.out.mono ?_
            rintro e V1 ⟨ya, yc, rfl, hown, hb1⟩
            have Hown := Lib.hid (owns_base hown HK0.out.old.size)
            clear hown
            refine hK.out _ _ ?_ (fun hHeld => ?_)
            · exact ⟨on_cell hb1 e0, on_cell hb1 e1⟩
            clear hK K
            (try simp only [Act.put, List.setIfInBounds_toArray, List.set_cons_zero, List.set_cons_succ])
            refine wpAnyH_ready (rs := [1, 4]) (by kernel_rfl) (by simp) ?_
            refine AllReadyH.cons (o := _) rfl (fun K hK => ?_) ?_
            · have tt := (HK0.out.below hb1).cells.1.2.2.1
              go_simp
              clear tt
              refine hK.out _ _ ?_ (fun hHeld => ?_)
              · exact ⟨on_cell hb1 e0, on_cell hb1 e1⟩
              clear hK K
              (try simp only [Act.put, List.setIfInBounds_toArray, List.set_cons_zero, List.set_cons_succ])
              refine wpAnyH_ready (rs := [4]) (by kernel_rfl) (by simp) ?_
              refine AllReadyH.cons (o := _) rfl (fun K hK => ?_) ?_
              · go_simp
                obtain ⟨V3, hV3⟩ : ∃ W, W = V1.alloc (.cells #[.int .i64 pr0, .slice ya sl0.length yc] 27) := ⟨_, rfl⟩
                obtain ⟨b9, hb9⟩ : ∃ b, b = V1.heap.size := ⟨_, rfl⟩
                rw [← hV3, ← hb9]
                have hb31 : Below V1.heap.size V1 V3 := by rw [hV3]; exact (Below.refl _ _).alloc (Nat.le_refl _) _
                have hb3 : Below V0.heap.size V0 V3 := hb1.trans (hb31.mono hb1.size)
                have src3 : Source V3 (some ⟨b9, 0, none⟩) 1 1 [.int .i64 pr0, .slice ya sl0.length yc] := by rw [hV3, hb9]; exact source_new V1 [.int .i64 pr0, .slice ya sl0.length yc] 27
                clear hV3 hb9
                refine hK.out _ _ ?_ (fun hHeld => ?_)
                · exact ⟨on_cell hb3 e0, on_cell hb3 e1⟩
                clear hK K
                (try simp only [Act.put, List.setIfInBounds_toArray, List.set_cons_zero, List.set_cons_succ])
                refine wpAnyH_ready (rs := [5]) (by kernel_rfl) (by simp) ?_
                refine AllReadyH.cons (o := _) rfl (fun K hK => ?_) ?_
                · have hz3 := hb3.size
                  have hlo := HK0.out.old.size
                  refine step_append_any elemPat _ rfl _ _ rfl w.heap.size (.slice va0 l.length vc0) l.length pcells rfl (owns_below hpo hb3 (Nat.le_refl _)) (some ⟨b9, 0, none⟩) 1 1 [.int .i64 pr0, .slice ya sl0.length yc] rfl src3 rfl (by simp [Value.oneCell']) (by have := HLen.out; unfold maxLen; omega) (by have := HLen.out; omega) (by omega) ?_
                  intro v' V4 hown4 hgrow4 hblk4
                  obtain ⟨va4, vc4, rfl⟩ := owns_shape' hown4
                  obtain ⟨p1, p2, p3⟩ := (HK0.out.below hb1).pushPos (p := (pr0, sl0)) (u := .slice ya sl0.length yc) hb31 hgrow4 (fun cells hcc => by rw [owns_same hcc (owns_below hpo hb1 (Nat.le_refl _))]; exact hown4) hblk4 Hown.out
                  have P4 := Lib.hid p1
                  have hS4 : V4.cell? ⟨pb, 0, none⟩ = some (.int .i64 pr0) ∧ V4.cell? ⟨pb, 1, none⟩ = some (.slice sa sl0.length sc) := ⟨hgrow4.cell (on_cell hb3 e0) (fun e => HPB.out.2 e.symm), hgrow4.cell (on_cell hb3 e1) (fun e => HPB.out.2 e.symm)⟩
                  clear p1 hown4 hgrow4 hblk4 src3 hlo hz3
                  refine hK.out _ _ ?_ (fun hHeld => ?_)
                  · exact hS4
                  clear hK K
                  (try simp only [Act.put, List.setIfInBounds_toArray, List.set_cons_zero, List.set_cons_succ])
                  refine wpAnyH_take (i := 6) (oi := ⟨some 39, _, _, _, _, _⟩) (v := ?_) rfl (by kernel_rfl) (by kernel_rfl) (by kernel_rfl) (fun _ _ _ h => h) (Or.inl ⟨by rfl, ?_⟩) (by assumption) ?_
                  rotate_left 1
                  · intro w hSw
                    (try dsimp only at hSw)
                    go_simp
                    all_goals with_reducible rfl
                  (try simp only [Act.put, List.setIfInBounds_toArray, List.set_cons_zero, List.set_cons_succ])
                  refine wpAnyH_ready (rs := [7]) (by kernel_rfl) (by simp) ?_
                  refine AllReadyH.cons (o := _) rfl (fun K hK => ?_) ?_
                  · go_simp
                    refine hK.out _ _ ?_ (fun hHeld => ?_)
                    · exact ⟨(World.cell?_setCell_far _ _ _ _ HPB.out.1.symm).trans hS4.1, (World.cell?_setCell_far _ _ _ _ HPB.out.1.symm).trans hS4.2⟩
                    clear hK K
                    (try simp only [Act.put, List.setIfInBounds_toArray, List.set_cons_zero, List.set_cons_succ])
                    refine wpAnyH_done (by kernel_rfl) ?_ _
                    refine NoPanic.normal ?_
                    clear hS4 hHeld
                    have HLX : Hid (l ++ [(pr0, sl0)] = pos.take (i + 1)) := Lib.hid (by rw [HL.out, take_snoc' HP0.out])
                    go_wp2
                    go_roundw
                    case rel => exact ⟨i + 1, _, _, l ++ [(pr0, sl0)], by go_num, by omega, HLX, P4⟩
                    case measure => simp [intOf]; omega
                  exact AllReadyH.nil
                exact AllReadyH.nil
              exact AllReadyH.nil
            refine AllReadyH.cons (o := _) rfl (fun K hK => ?_) ?_
            · go_simp
              obtain ⟨V3, hV3⟩ : ∃ W, W = V1.alloc (.cells #[.int .i64 pr0, .slice ya sl0.length yc] 27) := ⟨_, rfl⟩
              obtain ⟨b9, hb9⟩ : ∃ b, b = V1.heap.size := ⟨_, rfl⟩
              rw [← hV3, ← hb9]
              have hb31 : Below V1.heap.size V1 V3 := by rw [hV3]; exact (Below.refl _ _).alloc (Nat.le_refl _) _
              have hb3 : Below V0.heap.size V0 V3 := hb1.trans (hb31.mono hb1.size)
              have src3 : Source V3 (some ⟨b9, 0, none⟩) 1 1 [.int .i64 pr0, .slice ya sl0.length yc] := by rw [hV3, hb9]; exact source_new V1 [.int .i64 pr0, .slice ya sl0.length yc] 27
              clear hV3 hb9
              refine hK.out _ _ ?_ (fun hHeld => ?_)
              · exact ⟨on_cell hb3 e0, on_cell hb3 e1⟩
              clear hK K
              (try simp only [Act.put, List.setIfInBounds_toArray, List.set_cons_zero, List.set_cons_succ])
              refine wpAnyH_ready (rs := [1]) (by kernel_rfl) (by simp) ?_
              refine AllReadyH.cons (o := _) rfl (fun K hK => ?_) ?_
              · have tt := (HK0.out.below hb3).cells.1.2.2.1
                go_simp
                clear tt
                refine hK.out _ _ ?_ (fun hHeld => ?_)
                · exact ⟨on_cell hb3 e0, on_cell hb3 e1⟩
                clear hK K
                (try simp only [Act.put, List.setIfInBounds_toArray, List.set_cons_zero, List.set_cons_succ])
                refine wpAnyH_ready (rs := [5]) (by kernel_rfl) (by simp) ?_
                refine AllReadyH.cons (o := _) rfl (fun K hK => ?_) ?_
                · have hz3 := hb3.size
                  have hlo := HK0.out.old.size
                  refine step_append_any elemPat _ rfl _ _ rfl w.heap.size (.slice va0 l.length vc0) l.length pcells rfl (owns_below hpo hb3 (Nat.le_refl _)) (some ⟨b9, 0, none⟩) 1 1 [.int .i64 pr0, .slice ya sl0.length yc] rfl src3 rfl (by simp [Value.oneCell']) (by have := HLen.out; unfold maxLen; omega) (by have := HLen.out; omega) (by omega) ?_
                  intro v' V4 hown4 hgrow4 hblk4
                  obtain ⟨va4, vc4, rfl⟩ := owns_shape' hown4
                  obtain ⟨p1, p2, p3⟩ := (HK0.out.below hb1).pushPos (p := (pr0, sl0)) (u := .slice ya sl0.length yc) hb31 hgrow4 (fun cells hcc => by rw [owns_same hcc (owns_below hpo hb1 (Nat.le_refl _))]; exact hown4) hblk4 Hown.out
                  have P4 := Lib.hid p1
                  have hS4 : V4.cell? ⟨pb, 0, none⟩ = some (.int .i64 pr0) ∧ V4.cell? ⟨pb, 1, none⟩ = some (.slice sa sl0.length sc) := ⟨hgrow4.cell (on_cell hb3 e0) (fun e => HPB.out.2 e.symm), hgrow4.cell (on_cell hb3 e1) (fun e => HPB.out.2 e.symm)⟩
                  clear p1 hown4 hgrow4 hblk4 src3 hlo hz3
                  refine hK.out _ _ ?_ (fun hHeld => ?_)
                  · exact hS4
                  clear hK K
                  (try simp only [Act.put, List.setIfInBounds_toArray, List.set_cons_zero, List.set_cons_succ])
                  refine wpAnyH_take (i := 6) (oi := ⟨some 39, _, _, _, _, _⟩) (v := ?_) rfl (by kernel_rfl) (by kernel_rfl) (by kernel_rfl) (fun _ _ _ h => h) (Or.inl ⟨by rfl, ?_⟩) (by assumption) ?_
                  rotate_left 1
                  · intro w hSw
                    (try dsimp only at hSw)
                    go_simp
                    all_goals with_reducible rfl
                  (try simp only [Act.put, List.setIfInBounds_toArray, List.set_cons_zero, List.set_cons_succ])
                  refine wpAnyH_ready (rs := [7]) (by kernel_rfl) (by simp) ?_
                  refine AllReadyH.cons (o := _) rfl (fun K hK => ?_) ?_
                  · go_simp
                    refine hK.out _ _ ?_ (fun hHeld => ?_)
                    · exact ⟨(World.cell?_setCell_far _ _ _ _ HPB.out.1.symm).trans hS4.1, (World.cell?_setCell_far _ _ _ _ HPB.out.1.symm).trans hS4.2⟩
                    clear hK K
                    (try simp only [Act.put, List.setIfInBounds_toArray, List.set_cons_zero, List.set_cons_succ])
                    refine wpAnyH_done (by kernel_rfl) ?_ _
                    refine NoPanic.normal ?_
                    clear hS4 hHeld
                    have HLX : Hid (l ++ [(pr0, sl0)] = pos.take (i + 1)) := Lib.hid (by rw [HL.out, take_snoc' HP0.out])
                    go_wp2
                    go_roundw
                    case rel => exact ⟨i + 1, _, _, l ++ [(pr0, sl0)], by go_num, by omega, HLX, P4⟩
                    case measure => simp [intOf]; omega
                  exact AllReadyH.nil
                exact AllReadyH.nil
              exact AllReadyH.nil
            exact AllReadyH.nil
          exact AllReadyH.nil
        · have hie : i = P := by omega
          subst hie
          have hle : l = pos := by rw [HL.out, HPl.out, List.take_length]
          subst hle
          go_wp2_with fail
          go_meet
          exact ⟨H, v, HK⟩
    case rest =>
      clear P2 r2
      obtain ⟨H, v, P3⟩ := hcut
      obtain ⟨pa1, pc1, rfl⟩ : ∃ a c, v = .slice a P c := by obtain ⟨pcells, hpo, -⟩ := id P3.out.pos; rw [← HPl.out] at hpo; exact owns_shape' hpo
      have r4 := P3.out.rcell (List.mem_cons_self ..) (k := 4) (x := .slice na G nc) (by rw [Hrc.out]; rfl)
      go_upto_block 2 with fail
      go_cut [] (fun wr => ∃ (H : Nat) (v : Value), Hid (KSt w H [(b1, rc), (b2, zeroR)] tb hp cl (.slice xa hs.length xc) hs (.slice pa1 P pc1) (.slice ta1 T tc1) v (.slice va1 nv vc1) pos tests neg nv wr))
      case first =>
        go_wp2_with fail
        go_loopw [44] (fun t wr => ∃ (i H : Nat) (v : Value) (l : List Pat), t = .int .i64 i ∧ i ≤ G ∧ Hid (l = neg.take i) ∧ Hid (KSt w H [(b1, rc), (b2, zeroR)] tb hp cl (.slice xa hs.length xc) hs (.slice pa1 P pc1) (.slice ta1 T tc1) v (.slice va1 nv vc1) pos tests l nv wr)) (fun t _ => G - (intOf t).toNat)
        case atStart => exact ⟨0, _, _, [], rfl, Nat.zero_le _, Lib.hid (by simp), P3⟩
        case round =>
          clear P3 r4
          obtain ⟨i, H, v, l, rfl, hi, HL, HK⟩ := hrel
          by_cases hlt : i < G
          · have hold := HK.out.old
            obtain ⟨bp, op, p0, hpa, hp0, c0, sa, sc, c1, hSl⟩ := pats_at HN.out (k := i) (by rw [← HGl.out]; exact hlt)
            have h80 := H9.out p0 (List.mem_of_getElem? hp0)
            have HP0 := Lib.hid hp0
            subst hpa
            obtain ⟨pr0, sl0⟩ := p0
            have c0 := below_cell hold (Nat.le_refl _) c0
            have c1 := below_cell hold (Nat.le_refl _) c1
            have hSl := hSl.below hold (Nat.le_refl _)
            simp only at c0 c1 h80
            have zi : (i : Int) < (G : Int) := by omega
            clear hold hp0
            go_upto_region 12 with fail
            obtain ⟨W7, hW7⟩ : ∃ V, V = wr.alloc (.cells #[.int .i64 pr0, .slice sa sl0.length sc] 27) := ⟨_, rfl⟩
            obtain ⟨pb, hpb⟩ : ∃ b, b = wr.heap.size := ⟨_, rfl⟩
            rw [← hW7, ← hpb]
            obtain ⟨V0, hV0⟩ : ∃ V, V = W7.drew := ⟨_, rfl⟩
            have hb7 : Below wr.heap.size wr W7 := by rw [hW7]; exact (Below.refl _ _).alloc (Nat.le_refl _) _
            have hbd : Below W7.heap.size W7 V0 := by rw [hV0]; exact (Below.refl _ _).drew
            have e0 : W7.cell? ⟨pb, 0, none⟩ = some (.int .i64 pr0) := by rw [hW7, hpb]; simp
            have e1 : W7.cell? ⟨pb, 1, none⟩ = some (.slice sa sl0.length sc) := by rw [hW7, hpb]; simp
            have e0 := on_cell hbd e0
            have e1 := on_cell hbd e1
            have HK0 := Lib.hid ((HK.out.below hb7).below hbd)
            have cC := cP (pr0, sl0) sa sc V0 ((hSl.below hb7 (Nat.le_refl _)).below hbd (Nat.le_refl _)) h80
            simp only at cC
            have HLen : Hid (l.length ≤ 1000) := Lib.hid (by rw [HL.out, List.length_take]; omega)
            obtain ⟨pcells, hpo, -⟩ := id HK0.out.neg
            obtain ⟨va0, vc0, rfl⟩ := owns_shape' hpo
            have HPB : Hid (pb ≠ tb ∧ (Value.slice va0 l.length vc0).ownBlock ≠ some pb) := Lib.hid ⟨by have := (Array.getElem?_eq_some_iff.1 HK.out.t).1; omega, fun e => by obtain ⟨qcells, hqo, -⟩ := id HK.out.neg; have := (hqo.lt _ e).2; omega⟩
            have hb0 := Below.refl V0.heap.size V0
            clear hW7 hpb hb7 hbd c0 c1 hSl
            refine wp_region_noPanic ?_
            refine wp_region_held_drew (S := (fun w' => w'.cell? ⟨pb, 0, none⟩ = some (.int .i64 pr0) ∧ w'.cell? ⟨pb, 1, none⟩ = some (.slice sa sl0.length sc))) (by kernel_rfl) ?_ (fun hHeld => ?_)
            · rw [← hV0]; exact ⟨e0, e1⟩
            rw [← hV0] at hHeld ⊢
            clear hV0
            refine wpAnyH_take (i := 0) (oi := ⟨some 48, _, _, _, _, _⟩) (v := ?_) rfl (by kernel_rfl) (by kernel_rfl) (by kernel_rfl) (fun _ _ _ h => h) (Or.inl ⟨by rfl, ?_⟩) (by assumption) ?_
            rotate_left 1
            · intro w hSw
              (try dsimp only at hSw)
              go_simp
              all_goals with_reducible rfl
            (try simp only [Act.put, List.setIfInBounds_toArray, List.set_cons_zero, List.set_cons_succ])
            refine wpAnyH_take (i := 2) (oi := ⟨some 50, _, _, _, _, _⟩) (v := ?_) rfl (by kernel_rfl) (by kernel_rfl) (by kernel_rfl) (fun _ _ _ h => h) (Or.inl ⟨by rfl, ?_⟩) (by assumption) ?_
            rotate_left 1
            · intro w hSw
              (try dsimp only at hSw)
              go_simp
              all_goals with_reducible rfl
            (try simp only [Act.put, List.setIfInBounds_toArray, List.set_cons_zero, List.set_cons_succ])
            refine wpAnyH_ready (rs := [1, 3]) (by kernel_rfl) (by simp) ?_
            refine AllReadyH.cons (o := _) rfl (fun K hK => ?_) ?_
            · have tt := (HK0.out.below hb0).cells.1.2.2.2.2.1
              go_simp
              clear tt
              refine hK.out _ _ ?_ (fun hHeld => ?_)
              · exact ⟨on_cell hb0 e0, on_cell hb0 e1⟩
              clear hK K
              (try simp only [Act.put, List.setIfInBounds_toArray, List.set_cons_zero, List.set_cons_succ])
              refine wpAnyH_ready (rs := [3]) (by kernel_rfl) (by simp) ?_
              refine AllReadyH.cons (o := _) rfl (fun K hK => ?_) ?_
              · go_simp
                with_reducible refine cC.out.mono ?_
                rintro e V1 ⟨ya, yc, rfl, hown, hb1⟩
                have Hown := Lib.hid (owns_base hown HK0.out.old.size)
                clear hown
                refine hK.out _ _ ?_ (fun hHeld => ?_)
                · exact ⟨on_cell hb1 e0, on_cell hb1 e1⟩
                clear hK K
                (try simp only [Act.put, List.setIfInBounds_toArray, List.set_cons_zero, List.set_cons_succ])
                refine wpAnyH_ready (rs := [4]) (by kernel_rfl) (by simp) ?_
                refine AllReadyH.cons (o := _) rfl (fun K hK => ?_) ?_
                · go_simp
                  obtain ⟨V3, hV3⟩ : ∃ W, W = V1.alloc (.cells #[.int .i64 pr0, .slice ya sl0.length yc] 27) := ⟨_, rfl⟩
                  obtain ⟨b9, hb9⟩ : ∃ b, b = V1.heap.size := ⟨_, rfl⟩
                  rw [← hV3, ← hb9]
                  have hb31 : Below V1.heap.size V1 V3 := by rw [hV3]; exact (Below.refl _ _).alloc (Nat.le_refl _) _
                  have hb3 : Below V0.heap.size V0 V3 := hb1.trans (hb31.mono hb1.size)
                  have src3 : Source V3 (some ⟨b9, 0, none⟩) 1 1 [.int .i64 pr0, .slice ya sl0.length yc] := by rw [hV3, hb9]; exact source_new V1 [.int .i64 pr0, .slice ya sl0.length yc] 27
                  clear hV3 hb9
                  refine hK.out _ _ ?_ (fun hHeld => ?_)
                  · exact ⟨on_cell hb3 e0, on_cell hb3 e1⟩
                  clear hK K
                  (try simp only [Act.put, List.setIfInBounds_toArray, List.set_cons_zero, List.set_cons_succ])
                  refine wpAnyH_ready (rs := [5]) (by kernel_rfl) (by simp) ?_
                  refine AllReadyH.cons (o := _) rfl (fun K hK => ?_) ?_
                  · have hz3 := hb3.size
                    have hlo := HK0.out.old.size
                    refine step_append_any elemPat _ rfl _ _ rfl w.heap.size (.slice va0 l.length vc0) l.length pcells rfl (owns_below hpo hb3 (Nat.le_refl _)) (some ⟨b9, 0, none⟩) 1 1 [.int .i64 pr0, .slice ya sl0.length yc] rfl src3 rfl (by simp [Value.oneCell']) (by have := HLen.out; unfold maxLen; omega) (by have := HLen.out; omega) (by omega) ?_
                    intro v' V4 hown4 hgrow4 hblk4
                    obtain ⟨va4, vc4, rfl⟩ := owns_shape' hown4
                    obtain ⟨p1, p2, p3⟩ := (HK0.out.below hb1).pushNeg (p := (pr0, sl0)) (u := .slice ya sl0.length yc) hb31 hgrow4 (fun cells hcc => by rw [owns_same hcc (owns_below hpo hb1 (Nat.le_refl _))]; exact hown4) hblk4 Hown.out
                    have P4 := Lib.hid p1
                    have hS4 : V4.cell? ⟨pb, 0, none⟩ = some (.int .i64 pr0) ∧ V4.cell? ⟨pb, 1, none⟩ = some (.slice sa sl0.length sc) := ⟨hgrow4.cell (on_cell hb3 e0) (fun e => HPB.out.2 e.symm), hgrow4.cell (on_cell hb3 e1) (fun e => HPB.out.2 e.symm)⟩
                    clear p1 hown4 hgrow4 hblk4 src3 hlo hz3
                    refine hK.out _ _ ?_ (fun hHeld => ?_)
                    · exact hS4
                    clear hK K
                    (try simp only [Act.put, List.setIfInBounds_toArray, List.set_cons_zero, List.set_cons_succ])
                    refine wpAnyH_take (i := 6) (oi := ⟨some 54, _, _, _, _, _⟩) (v := ?_) rfl (by kernel_rfl) (by kernel_rfl) (by kernel_rfl) (fun _ _ _ h => h) (Or.inl ⟨by rfl, ?_⟩) (by assumption) ?_
                    rotate_left 1
                    · intro w hSw
                      (try dsimp only at hSw)
                      go_simp
                      all_goals with_reducible rfl
                    (try simp only [Act.put, List.setIfInBounds_toArray, List.set_cons_zero, List.set_cons_succ])
                    refine wpAnyH_ready (rs := [7]) (by kernel_rfl) (by simp) ?_
                    refine AllReadyH.cons (o := _) rfl (fun K hK => ?_) ?_
                    · go_simp
                      refine hK.out _ _ ?_ (fun hHeld => ?_)
                      · exact ⟨(World.cell?_setCell_far _ _ _ _ HPB.out.1.symm).trans hS4.1, (World.cell?_setCell_far _ _ _ _ HPB.out.1.symm).trans hS4.2⟩
                      clear hK K
                      (try simp only [Act.put, List.setIfInBounds_toArray, List.set_cons_zero, List.set_cons_succ])
                      refine wpAnyH_done (by kernel_rfl) ?_ _
                      refine NoPanic.normal ?_
                      clear hS4 hHeld
                      have HLX : Hid (l ++ [(pr0, sl0)] = neg.take (i + 1)) := Lib.hid (by rw [HL.out, take_snoc' HP0.out])
                      go_wp2
                      go_roundw
                      case rel => exact ⟨i + 1, _, _, l ++ [(pr0, sl0)], by go_num, by omega, HLX, P4⟩
                      case measure => simp [intOf]; omega
                    exact AllReadyH.nil
                  exact AllReadyH.nil
                exact AllReadyH.nil
              exact AllReadyH.nil
            refine AllReadyH.cons (o := _) rfl (fun K hK => ?_) ?_
            · go_simp
              with_reducible refine cC.out.mono ?_
              rintro e V1 ⟨ya, yc, rfl, hown, hb1⟩
              have Hown := Lib.hid (owns_base hown HK0.out.old.size)
              clear hown
              refine hK.out _ _ ?_ (fun hHeld => ?_)
              · exact ⟨on_cell hb1 e0, on_cell hb1 e1⟩
              clear hK K
              (try simp only [Act.put, List.setIfInBounds_toArray, List.set_cons_zero, List.set_cons_succ])
              refine wpAnyH_ready (rs := [1, 4]) (by kernel_rfl) (by simp) ?_
              refine AllReadyH.cons (o := _) rfl (fun K hK => ?_) ?_
              · have tt := (HK0.out.below hb1).cells.1.2.2.2.2.1
                go_simp
                clear tt
                refine hK.out _ _ ?_ (fun hHeld => ?_)
                · exact ⟨on_cell hb1 e0, on_cell hb1 e1⟩
                clear hK K
                (try simp only [Act.put, List.setIfInBounds_toArray, List.set_cons_zero, List.set_cons_succ])
                refine wpAnyH_ready (rs := [4]) (by kernel_rfl) (by simp) ?_
                refine AllReadyH.cons (o := _) rfl (fun K hK => ?_) ?_
                · go_simp
                  obtain ⟨V3, hV3⟩ : ∃ W, W = V1.alloc (.cells #[.int .i64 pr0, .slice ya sl0.length yc] 27) := ⟨_, rfl⟩
                  obtain ⟨b9, hb9⟩ : ∃ b, b = V1.heap.size := ⟨_, rfl⟩
                  rw [← hV3, ← hb9]
                  have hb31 : Below V1.heap.size V1 V3 := by rw [hV3]; exact (Below.refl _ _).alloc (Nat.le_refl _) _
                  have hb3 : Below V0.heap.size V0 V3 := hb1.trans (hb31.mono hb1.size)
                  have src3 : Source V3 (some ⟨b9, 0, none⟩) 1 1 [.int .i64 pr0, .slice ya sl0.length yc] := by rw [hV3, hb9]; exact source_new V1 [.int .i64 pr0, .slice ya sl0.length yc] 27
                  clear hV3 hb9
                  refine hK.out _ _ ?_ (fun hHeld => ?_)
                  · exact ⟨on_cell hb3 e0, on_cell hb3 e1⟩
                  clear hK K
                  (try simp only [Act.put, List.setIfInBounds_toArray, List.set_cons_zero, List.set_cons_succ])
                  refine wpAnyH_ready (rs := [5]) (by kernel_rfl) (by simp) ?_
                  refine AllReadyH.cons (o := _) rfl (fun K hK => ?_) ?_
                  · have hz3 := hb3.size
                    have hlo := HK0.out.old.size
                    refine step_append_any elemPat _ rfl _ _ rfl w.heap.size (.slice va0 l.length vc0) l.length pcells rfl (owns_below hpo hb3 (Nat.le_refl _)) (some ⟨b9, 0, none⟩) 1 1 [.int .i64 pr0, .slice ya sl0.length yc] rfl src3 rfl (by simp [Value.oneCell']) (by have := HLen.out; unfold maxLen; omega) (by have := HLen.out; omega) (by omega) ?_
                    intro v' V4 hown4 hgrow4 hblk4
                    obtain ⟨va4, vc4, rfl⟩ := owns_shape' hown4
                    obtain ⟨p1, p2, p3⟩ := (HK0.out.below hb1).pushNeg (p := (pr0, sl0)) (u := .slice ya sl0.length yc) hb31 hgrow4 (fun cells hcc => by rw [owns_same hcc (owns_below hpo hb1 (Nat.le_refl _))]; exact hown4) hblk4 Hown.out
                    have P4 := Lib.hid p1
                    have hS4 : V4.cell? ⟨pb, 0, none⟩ = some (.int .i64 pr0) ∧ V4.cell? ⟨pb, 1, none⟩ = some (.slice sa sl0.length sc) := ⟨hgrow4.cell (on_cell hb3 e0) (fun e => HPB.out.2 e.symm), hgrow4.cell (on_cell hb3 e1) (fun e => HPB.out.2 e.symm)⟩
                    clear p1 hown4 hgrow4 hblk4 src3 hlo hz3
                    refine hK.out _ _ ?_ (fun hHeld => ?_)
                    · exact hS4
                    clear hK K
                    (try simp only [Act.put, List.setIfInBounds_toArray, List.set_cons_zero, List.set_cons_succ])
                    refine wpAnyH_take (i := 6) (oi := ⟨some 54, _, _, _, _, _⟩) (v := ?_) rfl (by kernel_rfl) (by kernel_rfl) (by kernel_rfl) (fun _ _ _ h => h) (Or.inl ⟨by rfl, ?_⟩) (by assumption) ?_
                    rotate_left 1
                    · intro w hSw
                      (try dsimp only at hSw)
                      go_simp
                      all_goals with_reducible rfl
                    (try simp only [Act.put, List.setIfInBounds_toArray, List.set_cons_zero, List.set_cons_succ])
                    refine wpAnyH_ready (rs := [7]) (by kernel_rfl) (by simp) ?_
                    refine AllReadyH.cons (o := _) rfl (fun K hK => ?_) ?_
                    · go_simp
                      refine hK.out _ _ ?_ (fun hHeld => ?_)
                      · exact ⟨(World.cell?_setCell_far _ _ _ _ HPB.out.1.symm).trans hS4.1, (World.cell?_setCell_far _ _ _ _ HPB.out.1.symm).trans hS4.2⟩
                      clear hK K
                      (try simp only [Act.put, List.setIfInBounds_toArray, List.set_cons_zero, List.set_cons_succ])
                      refine wpAnyH_done (by kernel_rfl) ?_ _
                      refine NoPanic.normal ?_
                      clear hS4 hHeld
                      have HLX : Hid (l ++ [(pr0, sl0)] = neg.take (i + 1)) := Lib.hid (by rw [HL.out, take_snoc' HP0.out])
                      go_wp2
                      go_roundw
                      case rel => exact ⟨i + 1, _, _, l ++ [(pr0, sl0)], by go_num, by omega, HLX, P4⟩
                      case measure => simp [intOf]; omega
                    exact AllReadyH.nil
                  exact AllReadyH.nil
                exact AllReadyH.nil
              refine AllReadyH.cons (o := _) rfl (fun K hK => ?_) ?_
              · go_simp
                obtain ⟨V3, hV3⟩ : ∃ W, W = V1.alloc (.cells #[.int .i64 pr0, .slice ya sl0.length yc] 27) := ⟨_, rfl⟩
                obtain ⟨b9, hb9⟩ : ∃ b, b = V1.heap.size := ⟨_, rfl⟩
                rw [← hV3, ← hb9]
                have hb31 : Below V1.heap.size V1 V3 := by rw [hV3]; exact (Below.refl _ _).alloc (Nat.le_refl _) _
                have hb3 : Below V0.heap.size V0 V3 := hb1.trans (hb31.mono hb1.size)
                have src3 : Source V3 (some ⟨b9, 0, none⟩) 1 1 [.int .i64 pr0, .slice ya sl0.length yc] := by rw [hV3, hb9]; exact source_new V1 [.int .i64 pr0, .slice ya sl0.length yc] 27
                clear hV3 hb9
                refine hK.out _ _ ?_ (fun hHeld => ?_)
                · exact ⟨on_cell hb3 e0, on_cell hb3 e1⟩
                clear hK K
                (try simp only [Act.put, List.setIfInBounds_toArray, List.set_cons_zero, List.set_cons_succ])
                refine wpAnyH_ready (rs := [1]) (by kernel_rfl) (by simp) ?_
                refine AllReadyH.cons (o := _) rfl (fun K hK => ?_) ?_
                · have tt := (HK0.out.below hb3).cells.1.2.2.2.2.1
                  go_simp
                  clear tt
                  refine hK.out _ _ ?_ (fun hHeld => ?_)
                  · exact ⟨on_cell hb3 e0, on_cell hb3 e1⟩
                  clear hK K
                  (try simp only [Act.put, List.setIfInBounds_toArray, List.set_cons_zero, List.set_cons_succ])
                  refine wpAnyH_ready (rs := [5]) (by kernel_rfl) (by simp) ?_
                  refine AllReadyH.cons (o := _) rfl (fun K hK => ?_) ?_
                  · have hz3 := hb3.size
                    have hlo := HK0.out.old.size
                    refine step_append_any elemPat _ rfl _ _ rfl w.heap.size (.slice va0 l.length vc0) l.length pcells rfl (owns_below hpo hb3 (Nat.le_refl _)) (some ⟨b9, 0, none⟩) 1 1 [.int .i64 pr0, .slice ya sl0.length yc] rfl src3 rfl (by simp [Value.oneCell']) (by have := HLen.out; unfold maxLen; omega) (by have := HLen.out; omega) (by omega) ?_
                    intro v' V4 hown4 hgrow4 hblk4
                    obtain ⟨va4, vc4, rfl⟩ := owns_shape' hown4
                    obtain ⟨p1, p2, p3⟩ := (HK0.out.below hb1).pushNeg (p := (pr0, sl0)) (u := .slice ya sl0.length yc) hb31 hgrow4 (fun cells hcc => by rw [owns_same hcc (owns_below hpo hb1 (Nat.le_refl _))]; exact hown4) hblk4 Hown.out
                    have P4 := Lib.hid p1
                    have hS4 : V4.cell? ⟨pb, 0, none⟩ = some (.int .i64 pr0) ∧ V4.cell? ⟨pb, 1, none⟩ = some (.slice sa sl0.length sc) := ⟨hgrow4.cell (on_cell hb3 e0) (fun e => HPB.out.2 e.symm), hgrow4.cell (on_cell hb3 e1) (fun e => HPB.out.2 e.symm)⟩
                    clear p1 hown4 hgrow4 hblk4 src3 hlo hz3
                    refine hK.out _ _ ?_ (fun hHeld => ?_)
                    · exact hS4
                    clear hK K
                    (try simp only [Act.put, List.setIfInBounds_toArray, List.set_cons_zero, List.set_cons_succ])
                    refine wpAnyH_take (i := 6) (oi := ⟨some 54, _, _, _, _, _⟩) (v := ?_) rfl (by kernel_rfl) (by kernel_rfl) (by kernel_rfl) (fun _ _ _ h => h) (Or.inl ⟨by rfl, ?_⟩) (by assumption) ?_
                    rotate_left 1
                    · intro w hSw
                      (try dsimp only at hSw)
                      go_simp
                      all_goals with_reducible rfl
                    (try simp only [Act.put, List.setIfInBounds_toArray, List.set_cons_zero, List.set_cons_succ])
                    refine wpAnyH_ready (rs := [7]) (by kernel_rfl) (by simp) ?_
                    refine AllReadyH.cons (o := _) rfl (fun K hK => ?_) ?_
                    · go_simp
                      refine hK.out _ _ ?_ (fun hHeld => ?_)
                      · exact ⟨(World.cell?_setCell_far _ _ _ _ HPB.out.1.symm).trans hS4.1, (World.cell?_setCell_far _ _ _ _ HPB.out.1.symm).trans hS4.2⟩
                      clear hK K
                      (try simp only [Act.put, List.setIfInBounds_toArray, List.set_cons_zero, List.set_cons_succ])
                      refine wpAnyH_done (by kernel_rfl) ?_ _
                      refine NoPanic.normal ?_
                      clear hS4 hHeld
                      have HLX : Hid (l ++ [(pr0, sl0)] = neg.take (i + 1)) := Lib.hid (by rw [HL.out, take_snoc' HP0.out])
                      go_wp2
                      go_roundw
                      case rel => exact ⟨i + 1, _, _, l ++ [(pr0, sl0)], by go_num, by omega, HLX, P4⟩
                      case measure => simp [intOf]; omega
                    exact AllReadyH.nil
                  exact AllReadyH.nil
                exact AllReadyH.nil
              exact AllReadyH.nil
            exact AllReadyH.nil
          · have hie : i = G := by omega
            subst hie
            have hle : l = neg := by rw [HL.out, HGl.out, List.take_length]
            subst hle
            go_wp2_with fail
            go_meet
            exact ⟨H, v, HK⟩
      case rest =>
        clear P3 r4
        obtain ⟨H, v, HK⟩ := hcut
        obtain ⟨na1, nc1, rfl⟩ : ∃ a c, v = .slice a G c := by obtain ⟨gcells, hgo, -⟩ := id HK.out.neg; rw [← HGl.out] at hgo; exact owns_shape' hgo
        have hz := HK.out.r _ (List.mem_cons_of_mem _ (List.mem_cons_self ..))
        simp only at hz
        obtain ⟨⟨q0, q1, q2, q3, q4, q5, q6⟩, -⟩ := HK.out.cells
        obtain ⟨⟨z0, z1, z2, z3, z4, z5, z6⟩, hf⟩ := zero_cells hz
        have f0 := hf 0
        have f1 := hf 1
        have f2 := hf 2
        have f3 := hf 3
        have f4 := hf 4
        have f5 := hf 5
        have f6 := hf 6
        have HF : Hid (∀ V, V = ((((((wc.setCell ⟨b2, 0, none⟩ (.int .i64 hp)).setCell ⟨b2, 1, none⟩ (.slice xa hs.length xc)).setCell ⟨b2, 2, none⟩ (.slice pa1 P pc1)).setCell ⟨b2, 3, none⟩ (.slice ta1 T tc1)).setCell ⟨b2, 4, none⟩ (.slice na1 G nc1)).setCell ⟨b2, 5, none⟩ (.slice va1 nv vc1)).setCell ⟨b2, 6, none⟩ (.int .i64 cl) →
            V.heap[b2]? = some (.cells #[.int .i64 hp, .slice xa hs.length xc, .slice pa1 P pc1, .slice ta1 T tc1, .slice na1 G nc1, .slice va1 nv vc1, .int .i64 cl] 32 (0, 0)) ∧ RCopyEnd ⟨hp, rha, rhn, rhc, pa, pc, pos, ta, tc, tests, na, nc, neg, va, nv, vc, cl⟩ hs w (.returned (.agg #[.int .i64 hp, .slice xa hs.length xc, .slice pa1 P pc1, .slice ta1 T tc1, .slice na1 G nc1, .slice va1 nv vc1, .int .i64 cl])) V) := Lib.hid (fun V hV => by
          obtain ⟨k1, k2⟩ := rule_stores hz _ _ _ _ _ _ _ hV
          exact ⟨k1, copy_fin HK.out (List.mem_cons_of_mem _ (List.mem_cons_self ..)) (by have := Hbs.out; omega) k2 rfl HHN.out rfl rfl rfl rfl rfl⟩)
        clear hz hf
        go_wp2_with fail
        generalize hV : World.setCell _ _ _ = V
        obtain ⟨hh, hF⟩ := HF.out V hV.symm
        clear hV HF
        refine bodyPost_ret (v := .agg #[.int .i64 hp, .slice xa hs.length xc, .slice pa1 P pc1, .slice ta1 T tc1, .slice na1 G nc1, .slice va1 nv vc1, .int .i64 cl]) ?_ rfl hF
        simp [results, Try.results34, go_sem, World.cell?, hh]
end Mt
end Go.Proofs.Ytkejjiohkhlnnaa

namespace Go.Proofs.Ytkejjiohkhlnnaa
open Go.RowKit
namespace Mt

/-- the names behind a slice: all are V -/
def StrsV (w : World) (a : Option Addr) (n : Nat) : Prop := n = 0 ∨ ∃ g, a = some ⟨g, 0, none⟩ ∧ ∀ i, i < n → w.cell? ⟨g, i, none⟩ = some vV
theorem StrsV.below {w V : World} {a : Option Addr} {n : Nat} (h : StrsV w a n) (hb : Below w.heap.size w V) : StrsV V a n := by
  rcases h with h | ⟨g, rfl, h⟩
  · exact .inl h
  · exact .inr ⟨g, rfl, fun i hi => on_cell hb (h i hi)⟩
theorem strs_of_row {w : World} {B : Nat} {a : Option Addr} {n c : Nat} (h : w.ownsRow B 9 1 (.slice a n c) n (List.replicate n vV)) : StrsV w a n := by
  rcases owns_form h with ⟨e, h0, _⟩ | ⟨g, cap, e, hb, _, _, _, _, hc, _⟩
  · exact .inl h0
  · cases e
    exact .inr ⟨g, rfl, fun i hi => hc i _ (by simp [hi])⟩
set_option linter.unusedSimpArgs false in
set_option maxHeartbeats 16000000 in
set_option maxRecDepth 100000 in
theorem sameRule_any (hp cl : Int) (hs : List Sl) (pos neg : List Pat) (tests : List Tst) (nv : Nat) (ra qa pa ua na ma ta oa va za : Option Addr) (rc qc pc uc nc mc tc oc vc zc : Nat) (w : World)
    (h1 : Slots w ra hs) (h2 : Slots w qa hs) (p1 : Pats w pa pos) (p2 : Pats w ua pos) (n1 : Pats w na neg) (n2 : Pats w ma neg) (t1 : Tsts w ta tests) (t2 : Tsts w oa tests) (v1 : StrsV w va nv) (v2 : StrsV w za nv)
    (hl : hs.length * 16 ≤ 140737488351232) (l1 : pos.length ≤ 1000) (l2 : tests.length ≤ 1000) (l3 : neg.length ≤ 1000) (l4 : nv ≤ 1000) (h8 : ∀ p ∈ pos, p.2.length ≤ 8) (h9 : ∀ p ∈ neg, p.2.length ≤ 8) :
    Calls Try.prog 39 #[.agg #[.int .i64 hp, .slice ra hs.length rc, .slice pa pos.length pc, .slice ta tests.length tc, .slice na neg.length nc, .slice va nv vc, .int .i64 cl], .agg #[.int .i64 hp, .slice qa hs.length qc, .slice ua pos.length uc, .slice oa tests.length oc, .slice ma neg.length mc, .slice za nv zc, .int .i64 cl]] w fun e w' => e = .returned (.bool true) ∧ Below w.heap.size w w' := by
  have HP1 := Lib.hid p1
  have HP2 := Lib.hid p2
  have HN1 := Lib.hid n1
  have HN2 := Lib.hid n2
  have HT1 := Lib.hid t1
  have HT2 := Lib.hid t2
  have HV1 := Lib.hid v1
  have HV2 := Lib.hid v2
  have H8 := Lib.hid h8
  have H9 := Lib.hid h9
  have cH := fun (W : World) (hW : Below w.heap.size w W) => Lib.hid (samePattern_any hp ra qa rc qc hs W (h1.below hW (Nat.le_refl _)) (h2.below hW (Nat.le_refl _)) hl)
  obtain ⟨P, hPl⟩ : ∃ n, n = pos.length := ⟨_, rfl⟩
  obtain ⟨T, hTl⟩ : ∃ n, n = tests.length := ⟨_, rfl⟩
  obtain ⟨G, hGl⟩ : ∃ n, n = neg.length := ⟨_, rfl⟩
  obtain ⟨S, hSl⟩ : ∃ n, n = hs.length := ⟨_, rfl⟩
  rw [← hPl, ← hTl, ← hGl, ← hSl]
  rw [← hSl] at cH
  rw [← hPl] at l1
  rw [← hTl] at l2
  rw [← hGl] at l3
  have HPl := Lib.hid hPl
  have HTl := Lib.hid hTl
  have HGl := Lib.hid hGl
  clear hPl hTl hGl hSl h1 h2 p1 p2 n1 n2 t1 t2 v1 v2 h8 h9
  obtain ⟨b1, hb1⟩ : ∃ b, b = w.heap.size := ⟨_, rfl⟩
  obtain ⟨b2, hb2⟩ : ∃ b, b = w.heap.size + 1 := ⟨_, rfl⟩
  obtain ⟨W0, hW0⟩ : ∃ V, V = (w.alloc (.cells #[.int .i64 hp, .slice ra S rc, .slice pa P pc, .slice ta T tc, .slice na G nc, .slice va nv vc, .int .i64 cl] 32)).alloc (.cells #[.int .i64 hp, .slice qa S qc, .slice ua P uc, .slice oa T oc, .slice ma G mc, .slice za nv zc, .int .i64 cl] 32) := ⟨_, rfl⟩
  have HW : Hid (Below w.heap.size w W0) := Lib.hid (by rw [hW0]; exact ((Below.refl _ _).alloc (Nat.le_refl _) _).alloc (by simp) _)
  have y10 : W0.cell? ⟨b1, 0, none⟩ = some (.int .i64 hp) := by rw [hW0, hb1]; simp
  have y11 : W0.cell? ⟨b1, 1, none⟩ = some (.slice ra S rc) := by rw [hW0, hb1]; simp
  have y12 : W0.cell? ⟨b1, 2, none⟩ = some (.slice pa P pc) := by rw [hW0, hb1]; simp
  have y13 : W0.cell? ⟨b1, 3, none⟩ = some (.slice ta T tc) := by rw [hW0, hb1]; simp
  have y14 : W0.cell? ⟨b1, 4, none⟩ = some (.slice na G nc) := by rw [hW0, hb1]; simp
  have y15 : W0.cell? ⟨b1, 5, none⟩ = some (.slice va nv vc) := by rw [hW0, hb1]; simp
  have y16 : W0.cell? ⟨b1, 6, none⟩ = some (.int .i64 cl) := by rw [hW0, hb1]; simp
  have y20 : W0.cell? ⟨b2, 0, none⟩ = some (.int .i64 hp) := by rw [hW0, hb2]; simp
  have y21 : W0.cell? ⟨b2, 1, none⟩ = some (.slice qa S qc) := by rw [hW0, hb2]; simp
  have y22 : W0.cell? ⟨b2, 2, none⟩ = some (.slice ua P uc) := by rw [hW0, hb2]; simp
  have y23 : W0.cell? ⟨b2, 3, none⟩ = some (.slice oa T oc) := by rw [hW0, hb2]; simp
  have y24 : W0.cell? ⟨b2, 4, none⟩ = some (.slice ma G mc) := by rw [hW0, hb2]; simp
  have y25 : W0.cell? ⟨b2, 5, none⟩ = some (.slice za nv zc) := by rw [hW0, hb2]; simp
  have y26 : W0.cell? ⟨b2, 6, none⟩ = some (.int .i64 cl) := by rw [hW0, hb2]; simp
  have HW0 := Lib.hid hW0
  have Hb1 := Lib.hid hb1
  have Hb2 := Lib.hid hb2
  clear hW0 hb1 hb2
  have cH0 := cH W0 HW.out
  have hcl : (cl != cl) = false := by simp
  go_enter Try.func39, Try.ntmps39
  go_upto_region 1 with fail
  rw [← HW0.out, ← Hb2.out, ← Hb1.out]
  go_upto_region 3 with (first | (go_at_call 66; (with_reducible refine cH0.out.mono ?_); rintro e w1 ⟨rfl, hc1⟩; have z16 := on_cell hc1 y16; have z26 := on_cell hc1 y26; have z12 := on_cell hc1 y12; have z22 := on_cell hc1 y22; have z13 := on_cell hc1 y13; have z23 := on_cell hc1 y23; have z14 := on_cell hc1 y14; have z24 := on_cell hc1 y24; have z15 := on_cell hc1 y15; have z25 := on_cell hc1 y25))
  have HBX := Lib.hid hc1
  clear hc1 cH0 cH z16 z26 z13 z23 z14 z24 z15 z25
  go_upto_block 0 with fail
  clear z12 z22
  go_cut [] (fun wr => Hid (Below W0.heap.size W0 wr))
  case first =>
    go_wp2_with fail
    go_loopw [61] (fun t wr => ∃ i : Nat, t = .int .i64 i ∧ i ≤ P ∧ Hid (Below W0.heap.size W0 wr)) (fun t _ => P - (intOf t).toNat)
    case atStart => exact ⟨0, rfl, Nat.zero_le _, HBX⟩
    case round =>
      clear HBX
      obtain ⟨i, rfl, hi, HR⟩ := hrel
      have x1 := on_cell HR.out y12
      have x2 := on_cell HR.out y22
      by_cases hlt : i < P
      · obtain ⟨b5, o5, p0, hpa, hp0, c0, s1, k1, c1, hS1⟩ := pats_at HP1.out (k := i) (by rw [← HPl.out]; exact hlt)
        obtain ⟨b6, o6, p1, hqa, hp1, d0, s2, k2, d1, hS2⟩ := pats_at HP2.out (k := i) (by rw [← HPl.out]; exact hlt)
        have e : p1 = p0 := by rw [hp0] at hp1; exact (Option.some.inj hp1).symm
        subst e
        have h80 := H8.out p1 (List.mem_of_getElem? hp0)
        have hold : Below w.heap.size w wr := HW.out.trans (HR.out.mono HW.out.size)
        subst hpa hqa
        obtain ⟨pr0, sl0⟩ := p1
        have c0 := below_cell hold (Nat.le_refl _) c0
        have c1 := below_cell hold (Nat.le_refl _) c1
        have d0 := below_cell hold (Nat.le_refl _) d0
        have d1 := below_cell hold (Nat.le_refl _) d1
        have hbd : Below w.heap.size w wr.drew := hold.drew
        have hbd2 : Below wr.heap.size wr wr.drew := (Below.refl _ _).drew
        have cI := Lib.hid (samePattern_any pr0 s1 s2 k1 k2 sl0 wr.drew (hS1.below hbd (Nat.le_refl _)) (hS2.below hbd (Nat.le_refl _)) (by simp only at h80; omega))
        have zi : (i : Int) < (P : Int) := by omega
        simp only at c0 c1 d0 d1
        clear hp0 hp1 hS1 hS2 h80 hold
        go_upto_region 6 with fail
        go_region_held3 (fun w' => w'.cell? ⟨b1, 2, none⟩ = some (.slice (some ⟨b5, o5, none⟩) P pc) ∧ w'.cell? ⟨b2, 2, none⟩ = some (.slice (some ⟨b6, o6, none⟩) P uc) ∧ w'.cell? ⟨b5, o5 + i * 2, none⟩ = some (.int .i64 pr0) ∧ w'.cell? ⟨b5, o5 + i * 2 + 1, none⟩ = some (.slice s1 sl0.length k1) ∧ w'.cell? ⟨b6, o6 + i * 2, none⟩ = some (.int .i64 pr0) ∧ w'.cell? ⟨b6, o6 + i * 2 + 1, none⟩ = some (.slice s2 sl0.length k2)) (first | assumption | exact ⟨x1, x2, c0, c1, d0, d1⟩ | go_keep) (first
          | (go_at_call 66
             with_reducible refine cI.out.mono ?_
             rintro e V ⟨rfl, hV⟩
             have hbV : Below wr.heap.size wr V := below_chain hbd2 hV
             have hS : V.cell? ⟨b1, 2, none⟩ = some (.slice (some ⟨b5, o5, none⟩) P pc) ∧ V.cell? ⟨b2, 2, none⟩ = some (.slice (some ⟨b6, o6, none⟩) P uc) ∧ V.cell? ⟨b5, o5 + i * 2, none⟩ = some (.int .i64 pr0) ∧ V.cell? ⟨b5, o5 + i * 2 + 1, none⟩ = some (.slice s1 sl0.length k1) ∧ V.cell? ⟨b6, o6 + i * 2, none⟩ = some (.int .i64 pr0) ∧ V.cell? ⟨b6, o6 + i * 2 + 1, none⟩ = some (.slice s2 sl0.length k2) := ⟨on_cell hbV x1, on_cell hbV x2, on_cell hbV c0, on_cell hbV c1, on_cell hbV d0, on_cell hbV d1⟩))
        have HR2 := Lib.hid (below_chain HR.out hbV)
        clear hbV hV hS c0 c1 d0 d1 x1 x2 hbd hbd2 cI HR
        go_wp2_with fail
        go_roundw
        case rel => exact ⟨i + 1, by go_num, by omega, HR2⟩
        case measure => simp [intOf]; omega
      · go_wp2_with fail
        go_meet
        exact HR
  case rest =>
    clear HBX
    have HBX := hcut
    have x1 := on_cell HBX.out y14
    have x2 := on_cell HBX.out y24
    go_upto_block 2 with fail
    clear x1 x2 hcut
    go_cut [] (fun wr => Hid (Below W0.heap.size W0 wr))
    case first =>
      go_wp2_with fail
      go_loopw [80] (fun t wr => ∃ i : Nat, t = .int .i64 i ∧ i ≤ G ∧ Hid (Below W0.heap.size W0 wr)) (fun t _ => G - (intOf t).toNat)
      case atStart => exact ⟨0, rfl, Nat.zero_le _, HBX⟩
      case round =>
        clear HBX
        obtain ⟨i, rfl, hi, HR⟩ := hrel
        have x1 := on_cell HR.out y14
        have x2 := on_cell HR.out y24
        by_cases hlt : i < G
        · obtain ⟨b5, o5, p0, hpa, hp0, c0, s1, k1, c1, hS1⟩ := pats_at HN1.out (k := i) (by rw [← HGl.out]; exact hlt)
          obtain ⟨b6, o6, p1, hqa, hp1, d0, s2, k2, d1, hS2⟩ := pats_at HN2.out (k := i) (by rw [← HGl.out]; exact hlt)
          have e : p1 = p0 := by rw [hp0] at hp1; exact (Option.some.inj hp1).symm
          subst e
          have h80 := H9.out p1 (List.mem_of_getElem? hp0)
          have hold : Below w.heap.size w wr := HW.out.trans (HR.out.mono HW.out.size)
          subst hpa hqa
          obtain ⟨pr0, sl0⟩ := p1
          have c0 := below_cell hold (Nat.le_refl _) c0
          have c1 := below_cell hold (Nat.le_refl _) c1
          have d0 := below_cell hold (Nat.le_refl _) d0
          have d1 := below_cell hold (Nat.le_refl _) d1
          have hbd : Below w.heap.size w wr.drew := hold.drew
          have hbd2 : Below wr.heap.size wr wr.drew := (Below.refl _ _).drew
          have cI := Lib.hid (samePattern_any pr0 s1 s2 k1 k2 sl0 wr.drew (hS1.below hbd (Nat.le_refl _)) (hS2.below hbd (Nat.le_refl _)) (by simp only at h80; omega))
          have zi : (i : Int) < (G : Int) := by omega
          simp only at c0 c1 d0 d1
          clear hp0 hp1 hS1 hS2 h80 hold
          go_upto_region 12 with fail
          go_region_held3 (fun w' => w'.cell? ⟨b1, 4, none⟩ = some (.slice (some ⟨b5, o5, none⟩) G nc) ∧ w'.cell? ⟨b2, 4, none⟩ = some (.slice (some ⟨b6, o6, none⟩) G mc) ∧ w'.cell? ⟨b5, o5 + i * 2, none⟩ = some (.int .i64 pr0) ∧ w'.cell? ⟨b5, o5 + i * 2 + 1, none⟩ = some (.slice s1 sl0.length k1) ∧ w'.cell? ⟨b6, o6 + i * 2, none⟩ = some (.int .i64 pr0) ∧ w'.cell? ⟨b6, o6 + i * 2 + 1, none⟩ = some (.slice s2 sl0.length k2)) (first | assumption | exact ⟨x1, x2, c0, c1, d0, d1⟩ | go_keep) (first
            | (go_at_call 66
               with_reducible refine cI.out.mono ?_
               rintro e V ⟨rfl, hV⟩
               have hbV : Below wr.heap.size wr V := below_chain hbd2 hV
               have hS : V.cell? ⟨b1, 4, none⟩ = some (.slice (some ⟨b5, o5, none⟩) G nc) ∧ V.cell? ⟨b2, 4, none⟩ = some (.slice (some ⟨b6, o6, none⟩) G mc) ∧ V.cell? ⟨b5, o5 + i * 2, none⟩ = some (.int .i64 pr0) ∧ V.cell? ⟨b5, o5 + i * 2 + 1, none⟩ = some (.slice s1 sl0.length k1) ∧ V.cell? ⟨b6, o6 + i * 2, none⟩ = some (.int .i64 pr0) ∧ V.cell? ⟨b6, o6 + i * 2 + 1, none⟩ = some (.slice s2 sl0.length k2) := ⟨on_cell hbV x1, on_cell hbV x2, on_cell hbV c0, on_cell hbV c1, on_cell hbV d0, on_cell hbV d1⟩))
          have HR2 := Lib.hid (below_chain HR.out hbV)
          clear hbV hV hS c0 c1 d0 d1 x1 x2 hbd hbd2 cI HR
          go_wp2_with fail
          go_roundw
          case rel => exact ⟨i + 1, by go_num, by omega, HR2⟩
          case measure => simp [intOf]; omega
        · go_wp2_with fail
          go_meet
          exact HR
    case rest =>
      clear HBX
      have HBX := hcut
      clear hcut
      have x1 := on_cell HBX.out y13
      have x2 := on_cell HBX.out y23
      go_upto_block 4 with fail
      clear x1 x2
      go_cut [] (fun wr => Hid (Below W0.heap.size W0 wr))
      case first =>
        go_wp2_with fail
        go_loopw [99] (fun t wr => ∃ i : Nat, t = .int .i64 i ∧ i ≤ T ∧ Hid (Below W0.heap.size W0 wr)) (fun t _ => T - (intOf t).toNat)
        case atStart => exact ⟨0, rfl, Nat.zero_le _, HBX⟩
        case round =>
          clear HBX
          obtain ⟨i, rfl, hi, HR⟩ := hrel
          have x1 := on_cell HR.out y13
          have x2 := on_cell HR.out y23
          by_cases hlt : i < T
          · have hold : Below w.heap.size w wr := HW.out.trans (HR.out.mono HW.out.size)
            rcases HT1.out with h | ⟨b5, o5, rfl, hc5⟩
            · rw [HTl.out, h] at hlt; simp at hlt
            rcases HT2.out with h | ⟨b6, o6, rfl, hc6⟩
            · rw [HTl.out, h] at hlt; simp at hlt
            obtain ⟨c0, c1, c2, c3, c4⟩ := hc5 i _ (List.getElem?_eq_getElem (by rw [← HTl.out]; exact hlt))
            obtain ⟨d0, d1, d2, d3, d4⟩ := hc6 i _ (List.getElem?_eq_getElem (by rw [← HTl.out]; exact hlt))
            clear hc5 hc6
            generalize tests[i].1 = op at *
            generalize tests[i].2.1.1 = lv at *
            generalize tests[i].2.1.2 = ln at *
            generalize tests[i].2.2.1 = rv at *
            generalize tests[i].2.2.2 = rn at *
            have c0 := below_cell hold (Nat.le_refl _) c0
            have c1 := below_cell hold (Nat.le_refl _) c1
            have c2 := below_cell hold (Nat.le_refl _) c2
            have c3 := below_cell hold (Nat.le_refl _) c3
            have c4 := below_cell hold (Nat.le_refl _) c4
            have d0 := below_cell hold (Nat.le_refl _) d0
            have d1 := below_cell hold (Nat.le_refl _) d1
            have d2 := below_cell hold (Nat.le_refl _) d2
            have d3 := below_cell hold (Nat.le_refl _) d3
            have d4 := below_cell hold (Nat.le_refl _) d4
            clear hold
            have zi : (i : Int) < (T : Int) := by omega
            go_wp2
            go_quiet (fail)
            go_wp2
            go_roundw
            case rel => exact ⟨i + 1, by go_num, by omega, Lib.hid (below_drewN HR.out _)⟩
            case measure => simp [intOf]; omega
          · go_wp2_with fail
            go_meet
            exact HR
      case rest =>
        clear HBX
        have HBX := hcut
        clear hcut
        have x1 := on_cell HBX.out y15
        have x2 := on_cell HBX.out y25
        go_upto_block 6 with fail
        clear x1 x2
        go_wp2_with fail
        go_loopw [117] (fun t wr => ∃ i : Nat, t = .int .i64 i ∧ i ≤ nv ∧ Hid (Below W0.heap.size W0 wr)) (fun t _ => nv - (intOf t).toNat)
        case atStart => exact ⟨0, rfl, Nat.zero_le _, HBX⟩
        case round =>
          clear HBX
          obtain ⟨i, rfl, hi, HR⟩ := hrel
          have x1 := on_cell HR.out y15
          have x2 := on_cell HR.out y25
          by_cases hlt : i < nv
          · have hold : Below w.heap.size w wr := HW.out.trans (HR.out.mono HW.out.size)
            rcases HV1.out with h | ⟨b5, rfl, hc5⟩
            · omega
            rcases HV2.out with h | ⟨b6, rfl, hc6⟩
            · omega
            obtain ⟨s, hs⟩ : ∃ s : ByteArray, vV = .string s := ⟨_, rfl⟩
            have c0 := below_cell hold (Nat.le_refl _) (hc5 i hlt)
            have d0 := below_cell hold (Nat.le_refl _) (hc6 i hlt)
            rw [hs] at c0 d0
            clear hc5 hc6 hs hold
            have zi : (i : Int) < (nv : Int) := by omega
            go_wp2
            go_quiet (fail)
            go_wp2
            go_roundw
            case rel => exact ⟨i + 1, by go_num, by omega, Lib.hid (below_drewN HR.out _)⟩
            case measure => simp [intOf]; omega
          · go_wp2_with fail
            go_ret
            exact ⟨rfl, HW.out.trans (HR.out.mono HW.out.size)⟩
end Mt
end Go.Proofs.Ytkejjiohkhlnnaa
