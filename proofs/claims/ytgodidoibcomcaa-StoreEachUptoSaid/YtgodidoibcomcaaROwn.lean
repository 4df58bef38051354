/-
  copied, row of the document's store, and Row hand out rows whose lists are new and their own.
-/
import Derived.Test.YtgodidoibcomcaaRRead
namespace Go.Proofs.Ytgodidoibcomcaa
open Go.RowKit

set_option maxHeartbeats 2000000 in
theorem copied_own {Z : Nat → Prop} (p : Int) (a : Option Addr) (c : Nat) (xs : List Int) (w : World) (ha : IntsZ Z w a c xs) (hl : xs.length * 8 ≤ 140737488351232) :
    Calls Try.prog 66 #[.agg #[.int .i64 p, .slice a xs.length c]] w fun e w' => ∃ a' c', e = .returned (.agg #[.int .i64 p, .slice a' xs.length c']) ∧ w'.ownsRow w.heap.size 3 1 (.slice a' xs.length c') xs.length (xs.map (Value.int .i64)) ∧ Below w.heap.size w w' := by
  have HA := Lib.hid ha
  clear ha
  go_enter Try.func66, Try.ntmps66
  go_wp2
  obtain ⟨W1, hW1⟩ : ∃ W1, W1 = ((w.alloc (Obj.cells #[Value.int IntKind.i64 p, Value.slice a xs.length c] 28)).alloc (Obj.cells #[Value.int IntKind.i64 0, Value.slice none 0 0] 28)) := ⟨_, rfl⟩
  have hB1 : Below w.heap.size w W1 := by rw [hW1]; exact ((Below.refl _ _).alloc (Nat.le_refl _) _).alloc (by rw [asz]; omega) _
  have x0 : W1.cell? ⟨w.heap.size, 0, none⟩ = some (.int .i64 p) := by rw [hW1]; simp
  have x1 : W1.cell? ⟨w.heap.size, 1, none⟩ = some (.slice a xs.length c) := by rw [hW1]; simp
  have y0 : W1.cell? ⟨w.heap.size + 1, 0, none⟩ = some (.int .i64 0) := by rw [hW1]; simp
  have y1 : W1.cell? ⟨w.heap.size + 1, 1, none⟩ = some (.slice none 0 0) := by rw [hW1]; simp
  have f0 : W1.frozen? ⟨w.heap.size + 1, 0, none⟩ = false := by rw [hW1]; simp
  have f1 : W1.frozen? ⟨w.heap.size + 1, 1, none⟩ = false := by rw [hW1]; simp
  have hs1 : W1.heap.size = w.heap.size + 2 := by rw [hW1]; simp
  rw [← hW1]
  clear hW1
  generalize hb : w.heap.size = b at *
  have cC := fun (W : World) (hW : Below W1.heap.size W1 W) => Lib.hid (clone_own a c xs W ((HA.out.below hB1 (by omega)).below hW (Nat.le_refl _)) hl)
  go_region_held3 (fun w' => w'.cell? ⟨b, 0, none⟩ = some (.int .i64 p) ∧ w'.cell? ⟨b, 1, none⟩ = some (.slice a xs.length c)) (first | assumption | exact ⟨x0, x1⟩ | go_keep) (first
    | (go_at_call 47
       with_reducible refine (cC _ ((Below.refl _ _).drew)).out.mono ?_
       rintro e w1 ⟨v', rfl, hI, hb1⟩
       obtain ⟨a', c', rfl, _⟩ := intsZ_of_row hI
       have hS : w1.cell? ⟨b, 0, none⟩ = some (.int .i64 p) ∧ w1.cell? ⟨b, 1, none⟩ = some (.slice a xs.length c) := ⟨on_cell hb1 x0, on_cell hb1 x1⟩
       have z0 := on_cell hb1 (show W1.drew.cell? ⟨b + 1, 0, none⟩ = _ from y0)
       have z1 := on_cell hb1 (show W1.drew.cell? ⟨b + 1, 1, none⟩ = _ from y1)
       have q0 : w1.frozen? ⟨b + 1, 0, none⟩ = false := (hb1.frozen (p := ⟨b + 1, 0, none⟩) (by show b + 1 < W1.heap.size; omega)).trans f0
       have q1 : w1.frozen? ⟨b + 1, 1, none⟩ = false := (hb1.frozen (p := ⟨b + 1, 1, none⟩) (by show b + 1 < W1.heap.size; omega)).trans f1
       have hbb : Below b w w1 := hB1.drew.trans (hb1.mono (by show b ≤ W1.heap.size; omega))
       have hII : w1.ownsRow W1.heap.size 3 1 (.slice a' xs.length c') xs.length (xs.map (Value.int .i64)) := hI))
  go_wp2
  refine bodyPost_ret (v := .agg #[.int .i64 p, .slice a' xs.length c']) ?_ rfl ⟨a', c', rfl, ?_, ?_⟩
  · simp [results, Try.results66, go_sem, z0, z1]
  · have hg : ∀ g, (Value.slice a' xs.length c').ownBlock = some g → W1.heap.size ≤ g := fun g e => (hII.lt g e).1
    have h2 := owns_block (w' := (w1.setCell ⟨b + 1, 0, none⟩ (.int .i64 p)).setCell ⟨b + 1, 1, none⟩ (.slice a' xs.length c')) hII (fun g e => by
      have := hg g e
      rw [Below.heap_setCell _ _ _ _ (by show g ≠ b + 1; omega), Below.heap_setCell _ _ _ _ (by show g ≠ b + 1; omega)])
    exact ownsInts_base h2 (by omega)
  · rw [hb]
    exact (hbb.setCell (by show b ≤ b + 1; omega) _).setCell (by show b ≤ b + 1; omega) _
set_option maxHeartbeats 2000000 in
theorem rrow_own {Z : Nat → Prop} (p : Int) (a : Option Addr) (c : Nat) (xs : List Int) (w : World) (ha : IntsZ Z w a c xs) (hl : xs.length * 8 ≤ 140737488351232) :
    Calls Try.prog 73 #[.agg #[.int .i64 p, .slice a xs.length c]] w fun e w' => ∃ a' c', e = .returned (.agg #[.int .i64 p, .slice a' xs.length c']) ∧ w'.ownsRow w.heap.size 3 1 (.slice a' xs.length c') xs.length (xs.map (Value.int .i64)) ∧ Below w.heap.size w w' := by
  have HA := Lib.hid ha
  clear ha
  go_enter Try.func73, Try.ntmps73
  go_wp2
  obtain ⟨W1, hW1⟩ : ∃ W1, W1 = ((w.alloc (Obj.cells #[Value.int IntKind.i64 p, Value.slice a xs.length c] 28)).alloc (Obj.cells #[Value.int IntKind.i64 0, Value.slice none 0 0] 28)) := ⟨_, rfl⟩
  have hB1 : Below w.heap.size w W1 := by rw [hW1]; exact ((Below.refl _ _).alloc (Nat.le_refl _) _).alloc (by rw [asz]; omega) _
  have x0 : W1.cell? ⟨w.heap.size, 0, none⟩ = some (.int .i64 p) := by rw [hW1]; simp
  have x1 : W1.cell? ⟨w.heap.size, 1, none⟩ = some (.slice a xs.length c) := by rw [hW1]; simp
  have y0 : W1.cell? ⟨w.heap.size + 1, 0, none⟩ = some (.int .i64 0) := by rw [hW1]; simp
  have y1 : W1.cell? ⟨w.heap.size + 1, 1, none⟩ = some (.slice none 0 0) := by rw [hW1]; simp
  have f0 : W1.frozen? ⟨w.heap.size + 1, 0, none⟩ = false := by rw [hW1]; simp
  have f1 : W1.frozen? ⟨w.heap.size + 1, 1, none⟩ = false := by rw [hW1]; simp
  have hs1 : W1.heap.size = w.heap.size + 2 := by rw [hW1]; simp
  rw [← hW1]
  clear hW1
  generalize hb : w.heap.size = b at *
  have cC := fun (W : World) (hW : Below W1.heap.size W1 W) => Lib.hid (rints_own a c xs W ((HA.out.below hB1 (by omega)).below hW (Nat.le_refl _)).ints hl)
  go_region_held3 (fun w' => w'.cell? ⟨b, 0, none⟩ = some (.int .i64 p) ∧ w'.cell? ⟨b, 1, none⟩ = some (.slice a xs.length c)) (first | assumption | exact ⟨x0, x1⟩ | go_keep) (first
    | (go_at_call 69
       with_reducible refine (cC _ ((Below.refl _ _).drew)).out.mono ?_
       rintro e w1 ⟨v', rfl, hI, hb1⟩
       obtain ⟨a', c', rfl, _⟩ := intsZ_of_row hI
       have hS : w1.cell? ⟨b, 0, none⟩ = some (.int .i64 p) ∧ w1.cell? ⟨b, 1, none⟩ = some (.slice a xs.length c) := ⟨on_cell hb1 x0, on_cell hb1 x1⟩
       have z0 := on_cell hb1 (show W1.drew.cell? ⟨b + 1, 0, none⟩ = _ from y0)
       have z1 := on_cell hb1 (show W1.drew.cell? ⟨b + 1, 1, none⟩ = _ from y1)
       have q0 : w1.frozen? ⟨b + 1, 0, none⟩ = false := (hb1.frozen (p := ⟨b + 1, 0, none⟩) (by show b + 1 < W1.heap.size; omega)).trans f0
       have q1 : w1.frozen? ⟨b + 1, 1, none⟩ = false := (hb1.frozen (p := ⟨b + 1, 1, none⟩) (by show b + 1 < W1.heap.size; omega)).trans f1
       have hbb : Below b w w1 := hB1.drew.trans (hb1.mono (by show b ≤ W1.heap.size; omega))
       have hII : w1.ownsRow W1.heap.size 3 1 (.slice a' xs.length c') xs.length (xs.map (Value.int .i64)) := hI))
  go_wp2
  refine bodyPost_ret (v := .agg #[.int .i64 p, .slice a' xs.length c']) ?_ rfl ⟨a', c', rfl, ?_, ?_⟩
  · simp [results, Try.results73, go_sem, z0, z1]
  · have hg : ∀ g, (Value.slice a' xs.length c').ownBlock = some g → W1.heap.size ≤ g := fun g e => (hII.lt g e).1
    have h2 := owns_block (w' := (w1.setCell ⟨b + 1, 0, none⟩ (.int .i64 p)).setCell ⟨b + 1, 1, none⟩ (.slice a' xs.length c')) hII (fun g e => by
      have := hg g e
      rw [Below.heap_setCell _ _ _ _ (by show g ≠ b + 1; omega), Below.heap_setCell _ _ _ _ (by show g ≠ b + 1; omega)])
    exact ownsInts_base h2 (by omega)
  · rw [hb]
    exact (hbb.setCell (by show b ≤ b + 1; omega) _).setCell (by show b ≤ b + 1; omega) _

/-- what Row leaves, the list its own -/
def RowOwn (r : Row) (k : Int) (w : World) (e : Ending) (w' : World) : Prop :=
  ∃ a c, e = .returned (.tuple #[.agg #[.int .i64 r.1, .slice a r.2.length c], .int .i64 k]) ∧ w'.ownsRow w.heap.size 3 1 (.slice a r.2.length c) r.2.length (r.2.map (Value.int .i64)) ∧ Below w.heap.size w w'

section
variable {s sb : Nat} {σ : St} {h : Hd} {τ : Own} {w : World}
set_option maxHeartbeats 2000000 in
theorem row_own (hs : StoreAt s sb σ h τ w) (i : Nat) (r : Row) (hr : σ.rows[i]? = some r) : Calls Try.prog 34 #[.pointer (some ⟨sb, 0, none⟩), .int .i64 i] w (RowOwn r 0 w) := by
  obtain ⟨g, cR, a, ca, hv, d0, d1, hI⟩ := RowsPart.at hs hr
  obtain ⟨c0, c1, c2, c3, c4, c5, c6, c7⟩ := hs.head.cells
  have hi := (List.getElem?_eq_some_iff.1 hr).1
  have hf := hs.sound.fits r (List.mem_of_getElem? hr)
  rw [hv] at c1
  obtain ⟨p, xs⟩ := r
  have hx8 : xs.length ≤ 8 := hf.2.2.2.1
  have hlt := (World.block_lt_of_cell? _ _ c1)
  simp only at d0 d1 hI hlt
  have e1 : ∀ {A : Addr} {v : Value}, w.cell? A = some v → (w.alloc (.cells #[.int .i64 0, .slice none 0 0] 28)).cell? A = some v := fun {A v} hc => on_cell ((Below.refl _ _).alloc (Nat.le_refl _) _) hc
  have b1 := e1 c1
  have k0 := e1 d0
  have k1 := e1 d1
  have cC := fun (W : World) (hW : Below w.heap.size w W) => Lib.hid (copied_own p a ca xs W (hI.below hW (Nat.le_refl _)) (by omega))
  clear hs c0 c1 c2 c3 c4 c5 c6 c7 hI hf hr hv d0 d1 e1
  have hbw : Below w.heap.size w (w.alloc (.cells #[.int .i64 0, .slice none 0 0] 28)) := (Below.refl _ _).alloc (Nat.le_refl _) _
  go_enter Try.func34, Try.ntmps34
  go_wp2_with (go_at_call 66; refine (cC _ hbw).out.mono ?_; rintro e w1 ⟨a', c', rfl, hI, hb1⟩; have z0 := (hb1.cell (p := ⟨w.heap.size, 0, none⟩) (by rw [asz]; show w.heap.size < _; omega)).trans (show _ = some (Value.int .i64 0) by simp); have z1 := (hb1.cell (p := ⟨w.heap.size, 1, none⟩) (by rw [asz]; show w.heap.size < _; omega)).trans (show _ = some (Value.slice none 0 0) by simp); have q0 : ∀ j, w1.frozen? ⟨w.heap.size, j, none⟩ = false := fun j => (hb1.frozen (p := ⟨w.heap.size, j, none⟩) (by rw [asz]; show w.heap.size < _; omega)).trans (by go_simp))
  refine bodyPost_ret (v := .tuple #[.agg #[.int .i64 p, .slice a' xs.length c'], .int .i64 0]) ?_ rfl ⟨a', c', rfl, ?_, ?_⟩
  · simp [results, Try.results34, go_sem, z0, z1]
  · rw [asz] at hI
    have hg : ∀ g, (Value.slice a' xs.length c').ownBlock = some g → w.heap.size + 1 ≤ g := fun g e => (hI.lt g e).1
    have h2 := owns_block (w' := (w1.setCell ⟨w.heap.size, 0, none⟩ (.int .i64 p)).setCell ⟨w.heap.size, 1, none⟩ (.slice a' xs.length c')) hI (fun g e => by
      have := hg g e
      rw [Below.heap_setCell _ _ _ _ (by show g ≠ w.heap.size; omega), Below.heap_setCell _ _ _ _ (by show g ≠ w.heap.size; omega)])
    exact ownsInts_base h2 (by omega)
  · exact ((hbw.trans (hb1.mono (by rw [asz]; omega))).setCell (Nat.le_refl _) _).setCell (Nat.le_refl _) _

end
end Go.Proofs.Ytgodidoibcomcaa
