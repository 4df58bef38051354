/-
  The argument of the laws that are told Parts, opened: arities, three lists of rows, two numbers, a Boolean.
-/
import Derived.Test.YtgodidoibcomcaaSOpen
namespace Go.Proofs.Ytgodidoibcomcaa
open Go.RowKit Go.ChangeShapes Go.WideShapes
namespace Op
theorem array7 {α : Type} {cs : Array α} (h : cs.size = 7) : ∃ c0 c1 c2 c3 c4 c5 c6, cs = #[c0, c1, c2, c3, c4, c5, c6] := by
  obtain ⟨l⟩ := cs
  match l, h with
  | [c0, c1, c2, c3, c4, c5, c6], _ => exact ⟨c0, c1, c2, c3, c4, c5, c6, rfl⟩
theorem cellsParts : Try.prog.cellsOf 41 = 7 := by kernel_rfl
theorem cellsBool : Try.prog.cellsOf 4 = 1 := by kernel_rfl
section
variable {H : Type} {enc : TypeId × Value → H} {W : World} {held : Bool}
set_option maxRecDepth 100000 in
theorem open_parts {r : Reach} {b0 : Nat} {v : Value} {d : DataW H} {p : List MemPlace} (hv : Value.okWide Try.prog W r b0 41 v) (h : DataW.Trod enc Try.prog W 0 (fun _ => true) held 41 v d p) :
    ∃ (a0 : Option Addr) (c0 : Nat) (ar : List Int) (a1 : Option Addr) (c1 : Nat) (F : List Row) (a2 : Option Addr) (c2 : Nat) (G : List Row) (a3 : Option Addr) (c3 : Nat) (K : List Row) (pr st : Int) (say : Bool),
      v = .agg #[.slice a0 ar.length c0, .slice a1 F.length c1, .slice a2 G.length c2, .slice a3 K.length c3, .int .i64 pr, .int .i64 st, .bool say] ∧
      IntsZ (fun _ => True) W a0 c0 ar ∧ RowsZ (fun _ => True) W a1 c1 F ∧ RowsZ (fun _ => True) W a2 c2 G ∧ RowsZ (fun _ => True) W a3 c3 K ∧ (∀ r ∈ F, RowOk r) ∧ (∀ r ∈ G, RowOk r) ∧ (∀ r ∈ K, RowOk r) ∧
      ar.length ≤ maxLen ∧ F.length ≤ Rows.uptoBulk d ∧ G.length ≤ Rows.uptoBulk d ∧ K.length ≤ Rows.uptoBulk d ∧ Rng pr ∧ Rng st := by
  obtain ⟨cs, rfl, hsz⟩ := okWide_struct Try.underlying41 hv
  obtain ⟨v0, v1, v2, v3, v4, v5, v6, rfl⟩ := array7 (hsz.trans cellsParts)
  obtain ⟨fuel, hf⟩ := h
  obtain ⟨xs, n, _, hx, hl, hlen, hf⟩ := DataW.trod_struct Try.underlying41 hf
  match xs, hlen with
  | [y0, y1, y2, y3, y4, y5, y6], _ =>
    have t0 := hf 0 _ rfl
    have t1 := hf 1 _ rfl
    have t2 := hf 2 _ rfl
    have t3 := hf 3 _ rfl
    have t4 := hf 4 _ rfl
    have t5 := hf 5 _ rfl
    have t6 := hf 6 _ rfl
    simp [Value.cells, cellsInt, cellsInts, cellsRows, cellsBool] at t0 t1 t2 t3 t4 t5 t6
    obtain ⟨a0, c0, ar, rfl, S0, _, M0, _⟩ := open_ints t0
    obtain ⟨a1, c1, F, rfl, S1, R1, _, B1⟩ := open_rows t1
    obtain ⟨a2, c2, G, rfl, S2, R2, _, B2⟩ := open_rows t2
    obtain ⟨a3, c3, K, rfl, S3, R3, _, B3⟩ := open_rows t3
    obtain ⟨n4, e4, _, w4⟩ := DataW.trod_int Try.underlying3 t4
    obtain ⟨n5, e5, _, w5⟩ := DataW.trod_int Try.underlying3 t5
    obtain ⟨b6, e6, _⟩ := DataW.trod_bool Try.underlying4 t6
    simp at e4 e5 e6
    subst e4; subst e5; subst e6
    have hd := congrArg Prod.fst hx
    simp only at hd
    subst hd
    refine ⟨a0, c0, ar, a1, c1, F, a2, c2, G, a3, c3, K, n4, n5, b6, rfl, S0, S1, S2, S3, R1, R2, R3, M0, ?_, ?_, ?_, rng_wf w4, rng_wf w5⟩ <;> (simp only [List.map_cons, Rows.uptoBulk, Rows.uptoBulkAll]; omega)
end
end Op
end Go.Proofs.Ytgodidoibcomcaa
