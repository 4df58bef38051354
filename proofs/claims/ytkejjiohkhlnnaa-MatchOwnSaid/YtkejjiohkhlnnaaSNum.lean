/-
  What Num and Has answer for rows that may be in the store.
-/
import Derived.Test.YtkejjiohkhlnnaaSReads
namespace Go.Proofs.Ytkejjiohkhlnnaa
open Go.RowKit
open Go.Maps (Keyed)

theorem keyI_rng {ar : List Int} {r : Row} (hf : FitsRow ar r) (hp : ar.length ≤ 128) : ∀ x ∈ keyI r, Rng x := by
  obtain ⟨h1, h2, _, _, h5⟩ := hf
  intro x hx
  unfold keyI at hx
  simp only [List.mem_append, List.mem_cons, List.mem_replicate] at hx
  rcases hx with (rfl | hx) | ⟨_, rfl⟩
  · exact ⟨by omega, by omega⟩
  · have := h5 x hx; exact ⟨by omega, by omega⟩
  · exact ⟨by omega, by omega⟩
theorem keyV_key {ar : List Int} {r : Row} (hf : FitsRow ar r) (hp : ar.length ≤ 128) : ∃ l, keyOf Try.prog 111 (keyV r) = some l :=
  rowKey_of (keyI_length hf.2.2.2.1) (keyI_rng hf hp)
theorem map_int_inj {xs ys : List Int} (h : xs.map (Value.int .i64) = ys.map (Value.int .i64)) : xs = ys := by
  induction xs generalizing ys with
  | nil => cases ys with
    | nil => rfl
    | cons y ys => cases h
  | cons x xs ih => cases ys with
    | nil => cases h
    | cons y ys =>
      simp only [List.map_cons, List.cons.injEq, Value.int.injEq, true_and] at h
      rw [h.1, ih h.2]
theorem keyV_inj {ar : List Int} {r r' : Row} (hf : FitsRow ar r) (hf' : FitsRow ar r') (h : keyV r = keyV r') : r = r' := by
  have e : keyI r = keyI r' := by
    unfold keyV at h
    simp only [Value.agg.injEq] at h
    exact map_int_inj (by simpa using congrArg Array.toList h)
  obtain ⟨p, xs⟩ := r
  obtain ⟨q, ys⟩ := r'
  unfold keyI at e
  simp only [List.cons_append, List.cons.injEq] at e
  obtain ⟨rfl, e⟩ := e
  have hl : xs.length = ys.length := by
    have h1 := hf.2.2.1
    have h2 := hf'.2.2.1
    simp only at h1 h2
    rw [h1] at h2
    have := Option.some.inj h2
    omega
  have := (List.append_inj e hl).1
  rw [this]

section
variable {s sb : Nat} {σ : St} {h : Hd} {τ : Own} {w : World}

theorem look_num_yes (hs : StoreAt s sb σ h τ w) {i : Nat} {r : Row} (hr : σ.rows[i]? = some r) (W : World) (hW : Below w.heap.size w W) : (Instr.lookup 104 (.map (some h.bN)) (keyV r) true).run Try.prog W = .ok (.tuple #[.int .i64 (i : Int), .bool true]) W := by
  obtain ⟨_, f, hm, h2, _⟩ := (hs.below hW).num
  obtain ⟨l, hl⟩ := keyV_key (hs.sound.fits r (List.mem_of_getElem? hr)) hs.sound.preds
  have := hm.look rowLaw Try.underlying104 (zeroInt W) hl true
  rw [h2 i r hr] at this
  exact this
theorem look_num_no (hs : StoreAt s sb σ h τ w) {r : Row} (hf : FitsRow σ.ar r) (hr : r ∉ σ.rows) (W : World) (hW : Below w.heap.size w W) : (Instr.lookup 104 (.map (some h.bN)) (keyV r) true).run Try.prog W = .ok (.tuple #[.int .i64 0, .bool false]) W := by
  obtain ⟨_, f, hm, _, h3⟩ := (hs.below hW).num
  obtain ⟨l, hl⟩ := keyV_key hf hs.sound.preds
  have := hm.look rowLaw Try.underlying104 (zeroInt W) hl true
  have hn : f (keyV r) = none := by
    cases hfk : f (keyV r) with
    | none => rfl
    | some v =>
      obtain ⟨r', hr', he⟩ := h3 _ v hfk
      exact absurd (keyV_inj hf (hs.sound.fits r' hr') he ▸ hr') hr
  rw [hn] at this
  exact this

set_option maxHeartbeats 2000000 in
theorem num_yes {Z : Nat → Prop} (hs : StoreAt s sb σ h τ w) (i : Nat) (p : Int) (a : Option Addr) (c : Nat) (xs : List Int) (hx : IntsZ Z w a c xs) (hr : σ.rows[i]? = some (p, xs)) :
    Calls Try.prog 51 #[.pointer (some ⟨sb, 0, none⟩), .agg #[.int .i64 p, .slice a xs.length c]] w fun e w' => e = .returned (.int .i64 i) ∧ Below w.heap.size w w' := by
  have hf := hs.sound.fits _ (List.mem_of_getElem? hr)
  have hx8 : xs.length ≤ 8 := hf.2.2.2.1
  have hbw : Below w.heap.size w (w.alloc (.cells #[.int .i64 p, .slice a xs.length c] 50)) := (Below.refl _ _).alloc (Nat.le_refl _) _
  obtain ⟨_, _, _, c3, _⟩ := hs.head.cells
  have cF := fun (W : World) (hW : Below w.heap.size w W) => Lib.hid (fitsRow_any (hs.below hW) p a c xs (hx.below hW (Nat.le_refl _)) hf)
  have cK := fun (W : World) (hW : Below w.heap.size w W) => Lib.hid (keyOf_any p a c xs W (hx.below hW (Nat.le_refl _)) hx8)
  have cL := fun (W : World) (hW : Below w.heap.size w W) => Lib.hid (look_num_yes hs hr W hW)
  clear hs hr hf hx
  have x0 : (w.alloc (.cells #[.int .i64 p, .slice a xs.length c] 50)).cell? ⟨w.heap.size, 0, none⟩ = some (.int .i64 p) := by simp
  have x1 : (w.alloc (.cells #[.int .i64 p, .slice a xs.length c] 50)).cell? ⟨w.heap.size, 1, none⟩ = some (.slice a xs.length c) := by simp
  go_enter Try.func51, Try.ntmps51
  have sz := asz w (.cells #[.int .i64 p, .slice a xs.length c] 50)
  go_wp2_with (go_at_call 53; refine (cF _ hbw).out.mono ?_; rintro e w1 ⟨rfl, hb1⟩; have y0 := on_cell hb1 x0; have y1 := on_cell hb1 x1; have hB1 := hbw.trans (hb1.mono (by omega)))
  have d3 := on_cell hB1 c3
  clear x0 x1 c3 hb1 sz
  go_region_held3 (fun w' => Below w1.heap.size w1 w' ∧ w'.cell? ⟨sb, 3, none⟩ = some (.map (some h.bN)) ∧ w'.cell? ⟨w.heap.size, 0, none⟩ = some (.int .i64 p) ∧ w'.cell? ⟨w.heap.size, 1, none⟩ = some (.slice a xs.length c)) (first | assumption | exact ⟨(Below.refl _ _).drew, d3, y0, y1⟩ | go_keep) (first
    | (go_at_call 54
       have hH := (‹Below w1.heap.size w1 _ ∧ _ ∧ _›)
       with_reducible refine (cK _ (hB1.trans (hH.1.mono hB1.size))).out.mono ?_
       rintro e w2 ⟨rfl, hb2⟩
       have hS : Below w1.heap.size w1 w2 ∧ w2.cell? ⟨sb, 3, none⟩ = some (.map (some h.bN)) ∧ w2.cell? ⟨w.heap.size, 0, none⟩ = some (.int .i64 p) ∧ w2.cell? ⟨w.heap.size, 1, none⟩ = some (.slice a xs.length c) := ⟨hH.1.trans (hb2.mono hH.1.size), on_cell hb2 hH.2.1, on_cell hb2 hH.2.2.1, on_cell hb2 hH.2.2.2⟩
       have hlk := (cL w2 (hB1.trans (hS.1.mono hB1.size))).out))
  go_wp2
  go_ret
  exact ⟨rfl, hB1.trans (hS.1.mono hB1.size)⟩

set_option maxHeartbeats 2000000 in
theorem num_no {Z : Nat → Prop} (hs : StoreAt s sb σ h τ w) (p : Int) (a : Option Addr) (c : Nat) (xs : List Int) (hx : IntsZ Z w a c xs) (hf : FitsRow σ.ar (p, xs)) (hr : (p, xs) ∉ σ.rows) :
    Calls Try.prog 51 #[.pointer (some ⟨sb, 0, none⟩), .agg #[.int .i64 p, .slice a xs.length c]] w fun e w' => e = .returned (.int .i64 (-1)) ∧ Below w.heap.size w w' := by
  have hx8 : xs.length ≤ 8 := hf.2.2.2.1
  have hbw : Below w.heap.size w (w.alloc (.cells #[.int .i64 p, .slice a xs.length c] 50)) := (Below.refl _ _).alloc (Nat.le_refl _) _
  obtain ⟨_, _, _, c3, _⟩ := hs.head.cells
  have cF := fun (W : World) (hW : Below w.heap.size w W) => Lib.hid (fitsRow_any (hs.below hW) p a c xs (hx.below hW (Nat.le_refl _)) hf)
  have cK := fun (W : World) (hW : Below w.heap.size w W) => Lib.hid (keyOf_any p a c xs W (hx.below hW (Nat.le_refl _)) hx8)
  have cL := fun (W : World) (hW : Below w.heap.size w W) => Lib.hid (look_num_no hs hf hr W hW)
  clear hs hr hf hx
  have x0 : (w.alloc (.cells #[.int .i64 p, .slice a xs.length c] 50)).cell? ⟨w.heap.size, 0, none⟩ = some (.int .i64 p) := by simp
  have x1 : (w.alloc (.cells #[.int .i64 p, .slice a xs.length c] 50)).cell? ⟨w.heap.size, 1, none⟩ = some (.slice a xs.length c) := by simp
  go_enter Try.func51, Try.ntmps51
  have sz := asz w (.cells #[.int .i64 p, .slice a xs.length c] 50)
  go_wp2_with (go_at_call 53; refine (cF _ hbw).out.mono ?_; rintro e w1 ⟨rfl, hb1⟩; have y0 := on_cell hb1 x0; have y1 := on_cell hb1 x1; have hB1 := hbw.trans (hb1.mono (by omega)))
  have d3 := on_cell hB1 c3
  clear x0 x1 c3 hb1 sz
  go_region_held3 (fun w' => Below w1.heap.size w1 w' ∧ w'.cell? ⟨sb, 3, none⟩ = some (.map (some h.bN)) ∧ w'.cell? ⟨w.heap.size, 0, none⟩ = some (.int .i64 p) ∧ w'.cell? ⟨w.heap.size, 1, none⟩ = some (.slice a xs.length c)) (first | assumption | exact ⟨(Below.refl _ _).drew, d3, y0, y1⟩ | go_keep) (first
    | (go_at_call 54
       have hH := (‹Below w1.heap.size w1 _ ∧ _ ∧ _›)
       with_reducible refine (cK _ (hB1.trans (hH.1.mono hB1.size))).out.mono ?_
       rintro e w2 ⟨rfl, hb2⟩
       have hS : Below w1.heap.size w1 w2 ∧ w2.cell? ⟨sb, 3, none⟩ = some (.map (some h.bN)) ∧ w2.cell? ⟨w.heap.size, 0, none⟩ = some (.int .i64 p) ∧ w2.cell? ⟨w.heap.size, 1, none⟩ = some (.slice a xs.length c) := ⟨hH.1.trans (hb2.mono hH.1.size), on_cell hb2 hH.2.1, on_cell hb2 hH.2.2.1, on_cell hb2 hH.2.2.2⟩
       have hlk := (cL w2 (hB1.trans (hS.1.mono hB1.size))).out))
  go_wp2
  go_ret
  exact ⟨rfl, hB1.trans (hS.1.mono hB1.size)⟩

set_option maxHeartbeats 1000000 in
theorem has_yes {Z : Nat → Prop} (hs : StoreAt s sb σ h τ w) (i : Nat) (p : Int) (a : Option Addr) (c : Nat) (xs : List Int) (hx : IntsZ Z w a c xs) (hr : σ.rows[i]? = some (p, xs)) :
    Calls Try.prog 19 #[.pointer (some ⟨sb, 0, none⟩), .agg #[.int .i64 p, .slice a xs.length c]] w fun e w' => e = .returned (.bool true) ∧ Below w.heap.size w w' := by
  have hbw : Below w.heap.size w (w.alloc (.cells #[.int .i64 p, .slice a xs.length c] 50)) := (Below.refl _ _).alloc (Nat.le_refl _) _
  have cN := Lib.hid (num_yes (hs.below hbw) i p a c xs (hx.below hbw (Nat.le_refl _)) hr)
  have hsz := asz w (.cells #[.int .i64 p, .slice a xs.length c] 50)
  clear hs hr hx
  go_enter Try.func19, Try.ntmps19
  go_wp2_with (go_at_call 51; refine cN.out.mono ?_; rintro e w1 ⟨rfl, hb1⟩)
  go_ret
  exact ⟨ret_bool (by simp), hbw.trans (hb1.mono (by omega))⟩
end
end Go.Proofs.Ytkejjiohkhlnnaa
