/-
  What copied and keyOf of the store do; the keys of its maps.
-/
import Derived.Test.YtkejjiohkhlnnaaStore
import Derived.Laws.CopyRow
import Derived.Laws.CopyOwn
namespace Go.Proofs.Ytkejjiohkhlnnaa
open Go.RowKit
open Go.Maps (Keyed)

theorem rowArr : WideMaps.ArrKey Try.prog 111 3 9 := ⟨Try.underlying111, by kernel_rfl, by kernel_rfl, by kernel_rfl⟩
theorem placeArr : WideMaps.ArrKey Try.prog 138 3 3 := ⟨Try.underlying138, by kernel_rfl, by kernel_rfl, by kernel_rfl⟩
theorem rowLaw : Keyed Try.prog 111 := Keyed.of_law rowArr.law
theorem placeLaw : WideMaps.KeyLaw Try.prog 138 := placeArr.law
theorem intLaw : Keyed Try.prog 3 := Maps.int_keyed Try.underlying3
theorem typesSome : ∃ m, Try.prog.types.size = m + 1 := by
  refine ⟨Try.prog.types.size - 1, ?_⟩
  have : 0 < Try.prog.types.size := of_decide_eq_true (by kernel_rfl)
  omega
theorem cellInt : Try.prog.cellsOf 3 = 1 := by kernel_rfl
theorem wf_rng {x : Int} (h : Rng x) : (Lit.int .i64 x).wf = true := by
  obtain ⟨h1, h2⟩ := h
  simp [Lit.wf, IntKind.min, IntKind.max, IntKind.signed, IntKind.bits]
  omega
theorem rowKey_of {xs : List Int} (hn : xs.length = 9) (hx : ∀ x ∈ xs, Rng x) : ∃ l, keyOf Try.prog 111 (.agg (xs.map (Value.int .i64)).toArray) = some l :=
  key_ints rowArr Try.underlying3 typesSome cellInt xs hn fun x h => wf_rng (hx x h)
theorem placeKey_of {p i x : Int} (hp : Rng p) (hi : Rng i) (hx : Rng x) : ∃ l, keyOf Try.prog 138 (placeV p i x) = some l :=
  key_ints placeArr Try.underlying3 typesSome cellInt [p, i, x] rfl fun y h => by
    simp at h
    rcases h with rfl | rfl | rfl
    · exact wf_rng hp
    · exact wf_rng hi
    · exact wf_rng hx
theorem intKey_of {p : Int} (hp : Rng p) : ∃ l, keyOf Try.prog 3 (.int .i64 p) = some l := ⟨_, Maps.keyOf_int_mk Try.underlying3 (wf_rng hp)⟩
theorem zeroInt (w : World) : (zeroValue 3).run Try.prog w = .ok (.int .i64 0) w := by kernel_rfl
theorem zeroInts (w : World) : (zeroValue 22).run Try.prog w = .ok (.slice none 0 0) w := by kernel_rfl

theorem keyI_length {r : Row} (h : r.2.length ≤ 8) : (keyI r).length = 9 := by simp [keyI]; omega

section
variable {P : Program}
/-- an operation that yields, where the order is drawn -/
theorem step_run {ops : Array Oper} {o : Oper} {a : Act} {w w' : World} {K : Act → World → Prop} {Q : Exit → Act → World → Prop} {F : Prop} {v : Value} (hgd : o.guard = none) (hrun : (execOp a.eval o).run P w = .ok (.value v) w') (h : K (a.put o.dst v) w') :
    if Region.wanted o (yielded ops a.tmps) = true then Oper.wp P o a w K Q else F := by
  have hw : Region.wanted o (yielded ops a.tmps) = true := by simp [Region.wanted, hgd]
  rw [if_pos hw]
  unfold Oper.wp
  rw [hrun]
  exact h
end

theorem copy_key {Z : Nat → Prop} (W : World) (g ty : Nat) (p : Int) (a : Option Addr) (c : Nat) (xs : List Int) (hg : W.heap[g]? = some (.cells (#[.int .i64 p] ++ Array.replicate 8 (.int .i64 0)) 111 (0, 0))) (ha : IntsZ Z W a c xs) (hn : xs.length ≤ 8) :
    ∃ W', (Builtin.copy_ #[22, 22] ty #[.slice (some ⟨g, 1, none⟩) 8 8, .slice a xs.length c]).run Try.prog W = .ok (goInt xs.length) W' ∧ W'.heap[g]? = some (.cells ((keyI (p, xs)).map (Value.int .i64)).toArray 111 (0, 0)) ∧ W.grownBy W' (some g) := by
  cases a with
  | none =>
    obtain ⟨rfl, rfl⟩ := ha.2 rfl
    refine ⟨W, run_copy_nil Try.prog W 22 22 ty 3 ⟨g, 1, none⟩ 8 8 Try.underlying22 (by kernel_rfl), by rw [hg]; rfl, ⟨rfl, rfl, rfl, Nat.le_refl _, fun _ _ _ => rfl⟩⟩
  | some ad =>
    have hsrc : ∀ j v, (xs.map (Value.int .i64))[j]? = some v → W.cell? (ad.add j) = some v := by
      rcases source_ints ha with ⟨h, _⟩ | ⟨ad', h, hc⟩
      · cases h
      · cases h; exact hc
    have hrun := run_copy_row Try.prog W 22 22 ty 3 g 1 8 8 ad xs.length c _ 111 (xs.map (Value.int .i64)) Try.underlying22 (by kernel_rfl) hg (by rw [List.length_map]; exact (Nat.min_eq_left hn).symm) hsrc (by simp; omega) (ints_one xs)
    rw [List.length_map] at hrun
    refine ⟨_, hrun, ?_, ?_⟩
    · rw [setRow_heap W g _ _ _ _ hg]
      have e : (#[Value.int .i64 p] ++ Array.replicate 8 (Value.int .i64 0)).toList.take 1 ++ xs.map (Value.int .i64) ++ (#[Value.int .i64 p] ++ Array.replicate 8 (Value.int .i64 0)).toList.drop (1 + xs.length) = (keyI (p, xs)).map (Value.int .i64) := by
        rw [Array.toList_append, Array.toList_replicate, keyI, List.map_append, List.map_cons, List.map_replicate, Nat.add_comm, List.drop_append, List.drop_replicate]
        simp
      rw [e]
    · refine ⟨rfl, rfl, rfl, by simp [World.setRow], fun j hj hne => ?_⟩
      have : g ≠ j := fun e => hne (by rw [e])
      simp [World.setRow, Array.getElem?_modify, this]

theorem asz (w : World) (o : Obj) : (w.alloc o).heap.size = w.heap.size + 1 := by simp
theorem cells9 {W : World} {g : Nat} {v0 v1 v2 v3 v4 v5 v6 v7 v8 : Value} {T : TypeId} {fr : Nat × Nat} (h : W.heap[g]? = some (.cells #[v0, v1, v2, v3, v4, v5, v6, v7, v8] T fr)) :
    W.cell? ⟨g, 0, none⟩ = some v0 ∧ W.cell? ⟨g, 1, none⟩ = some v1 ∧ W.cell? ⟨g, 2, none⟩ = some v2 ∧ W.cell? ⟨g, 3, none⟩ = some v3 ∧ W.cell? ⟨g, 4, none⟩ = some v4 ∧ W.cell? ⟨g, 5, none⟩ = some v5 ∧ W.cell? ⟨g, 6, none⟩ = some v6 ∧ W.cell? ⟨g, 7, none⟩ = some v7 ∧ W.cell? ⟨g, 8, none⟩ = some v8 := by
  refine ⟨?_, ?_, ?_, ?_, ?_, ?_, ?_, ?_, ?_⟩ <;> simp [World.cell?, h]
theorem frozen_free {W : World} {g : Nat} {cs : Array Value} {T : TypeId} (h : W.heap[g]? = some (.cells cs T (0, 0))) (j : Nat) : W.frozen? ⟨g, j, none⟩ = false := by simp [World.frozen?, h]
theorem list9 {α : Type} {l : List α} (h : l.length = 9) : ∃ a0 a1 a2 a3 a4 a5 a6 a7 a8, l = [a0, a1, a2, a3, a4, a5, a6, a7, a8] := by
  match l, h with
  | [a0, a1, a2, a3, a4, a5, a6, a7, a8], _ => exact ⟨a0, a1, a2, a3, a4, a5, a6, a7, a8, rfl⟩

theorem step_copy {P : Program} {ops : Array Oper} {o : Oper} {a : Act} {w w' : World} {K : Act → World → Prop} {Q : Exit → Act → World → Prop} {F : Prop} {s x : Operand} {t : TypeId} {vs vx v : Value} (hgd : o.guard = none) (ho : o.op = .call { callee := .builtin .copy, args := #[s, x], argTypes := #[t, t] })
    (hs : a.eval s = vs) (hx : a.eval x = vx) (hr : (Builtin.copy_ #[t, t] o.type #[vs, vx]).run P w = .ok v w') (h : K (a.put o.dst v) w') : if Region.wanted o (yielded ops a.tmps) = true then Oper.wp P o a w K Q else F := by
  refine step_run hgd (v := v) (w' := w') ?_ h
  unfold execOp
  simp only [ho, resolve, invoke, builtin, Sem.run_bind, Sem.run_pure, Result.andThen_ok, List.map_toArray, List.map_cons, List.map_nil, hs, hx, hr]

set_option maxHeartbeats 4000000 in
set_option maxRecDepth 8000 in
theorem keyOf_any {Z : Nat → Prop} (p : Int) (a : Option Addr) (c : Nat) (xs : List Int) (w : World) (ha : IntsZ Z w a c xs) (hn : xs.length ≤ 8) :
    Calls Try.prog 54 #[.agg #[.int .i64 p, .slice a xs.length c]] w fun e w' => e = .returned (keyV (p, xs)) ∧ Below w.heap.size w w' := by
  have HA := Lib.hid ha
  clear ha
  obtain ⟨k0, k1, k2, k3, k4, k5, k6, k7, k8, hk⟩ := list9 (keyI_length (r := (p, xs)) hn)
  have HK := Lib.hid hk
  clear hk
  go_enter Try.func54, Try.ntmps54
  go_wp2
  obtain ⟨W1, hW1⟩ : ∃ W1, W1 = (w.alloc (Obj.cells #[Value.int IntKind.i64 p, Value.slice a xs.length c] 50)) := ⟨_, rfl⟩
  have hB1 : Below w.heap.size w W1 := by rw [hW1]; exact (Below.refl _ _).alloc (Nat.le_refl _) _
  have hs1 : W1.heap.size = w.heap.size + 1 := by rw [hW1]; simp
  have x1 : W1.cell? ⟨w.heap.size, 1, none⟩ = some (.slice a xs.length c) := by rw [hW1]; simp
  rw [← hW1]
  clear hW1
  generalize hb : w.heap.size = b at *
  obtain ⟨W3, hW3⟩ : ∃ W3, W3 = (W1.alloc (Obj.cells #[Value.int IntKind.i64 0, Value.int IntKind.i64 0, Value.int IntKind.i64 0, Value.int IntKind.i64 0, Value.int IntKind.i64 0, Value.int IntKind.i64 0, Value.int IntKind.i64 0, Value.int IntKind.i64 0, Value.int IntKind.i64 0] 111)).alloc (Obj.cells #[Value.int IntKind.i64 p, Value.int IntKind.i64 0, Value.int IntKind.i64 0, Value.int IntKind.i64 0, Value.int IntKind.i64 0, Value.int IntKind.i64 0, Value.int IntKind.i64 0, Value.int IntKind.i64 0, Value.int IntKind.i64 0] 111) := ⟨_, rfl⟩
  have hB3 : Below b w W3 := by rw [hW3]; exact (hB1.alloc (by omega) _).alloc (by rw [asz]; omega) _
  have hx3 : W3.cell? ⟨b, 1, none⟩ = some (.slice a xs.length c) := by
    rw [hW3]
    exact (((Below.refl W1.heap.size W1).alloc (Nat.le_refl _) _).alloc (by rw [asz]; omega) _).cell (p := ⟨b, 1, none⟩) (by show b < _; omega) |>.trans x1
  have g1 : W3.heap[b + 1]? = some (.cells (#[.int .i64 0] ++ Array.replicate 8 (.int .i64 0)) 111 (0, 0)) := by
    have := (MapKept.heap_alloc W1 (Obj.cells #[Value.int IntKind.i64 0, Value.int IntKind.i64 0, Value.int IntKind.i64 0, Value.int IntKind.i64 0, Value.int IntKind.i64 0, Value.int IntKind.i64 0, Value.int IntKind.i64 0, Value.int IntKind.i64 0, Value.int IntKind.i64 0] 111)).1
    rw [hs1] at this
    rw [hW3, Below.heap_alloc _ _ _ (by rw [asz]; omega), this]; rfl
  have g2 : W3.heap[b + 1 + 1]? = some (.cells (#[.int .i64 p] ++ Array.replicate 8 (.int .i64 0)) 111 (0, 0)) := by
    rw [hW3]
    have := fun o => (MapKept.heap_alloc (W1.alloc (Obj.cells #[Value.int IntKind.i64 0, Value.int IntKind.i64 0, Value.int IntKind.i64 0, Value.int IntKind.i64 0, Value.int IntKind.i64 0, Value.int IntKind.i64 0, Value.int IntKind.i64 0, Value.int IntKind.i64 0, Value.int IntKind.i64 0] 111)) o).1
    simp only [asz, hs1] at this
    exact this _
  have hs3 : W3.heap.size = b + 1 + 1 + 1 := by rw [hW3, asz, asz]; omega
  rw [← hW3]
  clear hW3 hB1 hs1 x1 W1
  obtain ⟨W4, hrun, g3, hgr⟩ := copy_key W3.drew (b + 1 + 1) 3 p a c xs g2 (HA.out.below hB3.drew (by omega)) hn
  have gg : W4.heap[b + 1]? = some (.cells (#[.int .i64 0] ++ Array.replicate 8 (.int .i64 0)) 111 (0, 0)) := (hgr.block _ (show b + 1 < W3.heap.size by omega) (by simp)).trans g1
  have hx4 : W4.cell? ⟨b, 1, none⟩ = some (.slice a xs.length c) := hgr.cell (a := ⟨b, 1, none⟩) hx3 (by simp; omega)
  rw [HK.out] at g3
  obtain ⟨c0, c1, c2, c3, c4, c5, c6, c7, c8⟩ := cells9 g3
  obtain ⟨d0, d1, d2, d3, d4, d5, d6, d7, d8⟩ := cells9 (v0 := .int .i64 0) (v1 := .int .i64 0) (v2 := .int .i64 0) (v3 := .int .i64 0) (v4 := .int .i64 0) (v5 := .int .i64 0) (v6 := .int .i64 0) (v7 := .int .i64 0) (v8 := .int .i64 0) gg
  have hf := frozen_free gg
  have hB4 : Below b w W4 := hB3.drew.grown hgr (by show b ≤ W3.heap.size; omega) (fun k hk => by cases hk; omega)
  clear g1 g2 g3 gg hB3
  go_region_held3 (fun w' => w'.cell? ⟨b, 1, none⟩ = some (.slice a xs.length c)) (first | assumption | go_keep) (first
    | (refine step_copy (vs := .slice (some ⟨b + 1 + 1, 1, none⟩) 8 8) (vx := .slice a xs.length c) rfl rfl rfl rfl hrun ?_))
  go_wp2
  refine bodyPost_ret (v := keyV (p, xs)) ?_ rfl ⟨rfl, ?_⟩
  · unfold keyV
    rw [HK.out]
    simp [results, Try.results54, go_sem, d0, d1, d2, d3, d4, d5, d6, d7, d8]
  · rw [hb]
    exact ((((((((hB4.setCell (by show b ≤ b + 1; omega) _).setCell (by show b ≤ b + 1; omega) _).setCell (by show b ≤ b + 1; omega) _).setCell (by show b ≤ b + 1; omega) _).setCell (by show b ≤ b + 1; omega) _).setCell (by show b ≤ b + 1; omega) _).setCell (by show b ≤ b + 1; omega) _).setCell (by show b ≤ b + 1; omega) _).setCell (by show b ≤ b + 1; omega) _

set_option maxHeartbeats 2000000 in
theorem copied_any {Z : Nat → Prop} (p : Int) (a : Option Addr) (c : Nat) (xs : List Int) (w : World) (ha : IntsZ Z w a c xs) (hl : xs.length * 8 ≤ 140737488351232) :
    Calls Try.prog 65 #[.agg #[.int .i64 p, .slice a xs.length c]] w fun e w' => ∃ a' c', e = .returned (.agg #[.int .i64 p, .slice a' xs.length c']) ∧ IntsZ (fun j => w.heap.size ≤ j) w' a' c' xs ∧ Below w.heap.size w w' := by
  have HA := Lib.hid ha
  clear ha
  go_enter Try.func65, Try.ntmps65
  go_wp2
  obtain ⟨W1, hW1⟩ : ∃ W1, W1 = ((w.alloc (Obj.cells #[Value.int IntKind.i64 p, Value.slice a xs.length c] 50)).alloc (Obj.cells #[Value.int IntKind.i64 0, Value.slice none 0 0] 50)) := ⟨_, rfl⟩
  have hB1 : Below w.heap.size w W1 := by rw [hW1]; exact ((Below.refl _ _).alloc (Nat.le_refl _) _).alloc (by rw [asz]; omega) _
  have x0 : W1.cell? ⟨w.heap.size, 0, none⟩ = some (.int .i64 p) := by rw [hW1]; simp
  have x1 : W1.cell? ⟨w.heap.size, 1, none⟩ = some (.slice a xs.length c) := by rw [hW1]; simp
  have y0 : W1.cell? ⟨w.heap.size + 1, 0, none⟩ = some (.int .i64 0) := by rw [hW1]; simp
  have y1 : W1.cell? ⟨w.heap.size + 1, 1, none⟩ = some (.slice none 0 0) := by rw [hW1]; simp
  have f0 : W1.frozen? ⟨w.heap.size + 1, 0, none⟩ = false := by rw [hW1]; simp
  have f1 : W1.frozen? ⟨w.heap.size + 1, 1, none⟩ = false := by rw [hW1]; simp
  have hs1 : W1.heap.size = w.heap.size + 2 := by rw [hW1]; simp
  rw [← hW1]
  clear hW1
  generalize hb : w.heap.size = b at *
  have cC := fun (W : World) (hW : Below W1.heap.size W1 W) => Lib.hid (clone_any a c xs W ((HA.out.below hB1 (by omega)).below hW (Nat.le_refl _)) hl)
  go_region_held3 (fun w' => w'.cell? ⟨b, 0, none⟩ = some (.int .i64 p) ∧ w'.cell? ⟨b, 1, none⟩ = some (.slice a xs.length c)) (first | assumption | exact ⟨x0, x1⟩ | go_keep) (first
    | (go_at_call 56
       with_reducible refine (cC _ ((Below.refl _ _).drew)).out.mono ?_
       rintro e w1 ⟨a', c', rfl, hI, hb1⟩
       have hS : w1.cell? ⟨b, 0, none⟩ = some (.int .i64 p) ∧ w1.cell? ⟨b, 1, none⟩ = some (.slice a xs.length c) := ⟨on_cell hb1 x0, on_cell hb1 x1⟩
       have z0 := on_cell hb1 (show W1.drew.cell? ⟨b + 1, 0, none⟩ = _ from y0)
       have z1 := on_cell hb1 (show W1.drew.cell? ⟨b + 1, 1, none⟩ = _ from y1)
       have q0 : w1.frozen? ⟨b + 1, 0, none⟩ = false := (hb1.frozen (p := ⟨b + 1, 0, none⟩) (by show b + 1 < W1.heap.size; omega)).trans f0
       have q1 : w1.frozen? ⟨b + 1, 1, none⟩ = false := (hb1.frozen (p := ⟨b + 1, 1, none⟩) (by show b + 1 < W1.heap.size; omega)).trans f1
       have hbb : Below b w w1 := hB1.drew.trans (hb1.mono (by show b ≤ W1.heap.size; omega))
       have hII : IntsZ (fun j => W1.heap.size ≤ j) w1 a' c' xs := hI))
  go_wp2
  refine bodyPost_ret (v := .agg #[.int .i64 p, .slice a' xs.length c']) ?_ rfl ⟨a', c', rfl, ?_, ?_⟩
  · simp [results, Try.results65, go_sem, z0, z1]
  · refine hII.keep (fun j _ hz => ?_) (fun j _ hz => ?_)
    · have hz : W1.heap.size ≤ j := hz
      rw [Below.heap_setCell _ _ _ _ (by show j ≠ b + 1; omega), Below.heap_setCell _ _ _ _ (by show j ≠ b + 1; omega)]
    · have hz : W1.heap.size ≤ j := hz
      omega
  · rw [hb]
    exact (hbb.setCell (by show b ≤ b + 1; omega) _).setCell (by show b ≤ b + 1; omega) _
end Go.Proofs.Ytkejjiohkhlnnaa
