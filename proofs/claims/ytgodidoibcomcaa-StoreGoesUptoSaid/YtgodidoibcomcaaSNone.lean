/-
  The law's function none answers true.
-/
import Derived.Test.YtgodidoibcomcaaSNil
import Derived.Test.YtgodidoibcomcaaSBack
namespace Go.Proofs.Ytgodidoibcomcaa
open Go.RowKit

theorem one_ints {Z : Nat → Prop} {W : World} {g : Nat} {x : Int} (h : W.cell? ⟨g, 0, none⟩ = some (.int .i64 x)) (hz : Z g) : IntsZ Z W (some ⟨g, 0, none⟩) 1 [x] :=
  ⟨.inr ⟨g, 0, rfl, hz, fun i hi => by
    have : i = 0 := by simp at hi; omega
    subst this
    simpa using h⟩, fun h => by cases h⟩
theorem one_rows {Z : Nat → Prop} {W : World} {g : Nat} {p : Int} {a : Option Addr} {c : Nat} {xs : List Int} (h0 : W.cell? ⟨g, 0, none⟩ = some (.int .i64 p)) (h1 : W.cell? ⟨g, 1, none⟩ = some (.slice a xs.length c)) (hI : IntsZ Z W a c xs) (hz : Z g) : RowsZ Z W (some ⟨g, 0, none⟩) 1 [(p, xs)] :=
  ⟨.inr ⟨g, 0, rfl, hz, fun i hi => by
    have : i = 0 := by simp at hi; omega
    subst this
    exact ⟨by simpa using h0, a, c, by simpa using h1, hI⟩⟩, fun h => by cases h⟩

set_option maxHeartbeats 4000000 in
set_option maxRecDepth 8000 in
theorem none_any (w : World) : Calls Try.prog 31 #[] w fun e w' => e = .returned (.bool true) ∧ Below w.heap.size w w' := by
  obtain ⟨W1, hW1⟩ : ∃ W, W = w.alloc (.cells #[.int .i64 1] 3) := ⟨_, rfl⟩
  have hb1 : Below w.heap.size w W1 := by rw [hW1]; exact (Below.refl _ _).alloc (Nat.le_refl _) _
  have y1 : W1.cell? ⟨w.heap.size, 0, none⟩ = some (.int .i64 1) := by rw [hW1]; simp
  have cN := Lib.hid (new_any (s := 1) (τ := noOwn) (some ⟨w.heap.size, 0, none⟩) 1 [1] W1 (fun _ _ => rfl) (one_ints (Z := fun _ => True) y1 trivial) (by simp) (by simp))
  rw [show [(1 : Int)].length = 1 from rfl] at cN
  have HW1 := Lib.hid hW1
  clear hW1 y1
  go_enter Try.func31, Try.ntmps31
  go_wp2_with fail
  rw [← HW1.out]
  with_reducible refine cN.out.mono ?_
  rintro e w2 ⟨sb, τ2, rfl, hs2, T2, hb2⟩
  have E2 : Env w τ2 w2 [⟨1, sb, [1], [], [], 0⟩] [] [] := ⟨T2.fresh, fun j hj => T2.own j (Nat.lt_of_lt_of_le hj hb1.size), hb1.trans (hb2.mono hb1.size), fun x hx => by
    rw [List.mem_singleton] at hx
    subst hx
    exact ⟨_, rfl, rfl, rfl, Nat.le_refl _, hs2⟩, fun x hx => (by cases hx), fun x hx => (by cases hx), List.nodup_nil⟩
  obtain ⟨W3, hW3⟩ : ∃ W, W = w2.alloc (.cells #[.int .i64 3] 3) := ⟨_, rfl⟩
  obtain ⟨g3, hg3⟩ : ∃ b, b = w2.heap.size := ⟨_, rfl⟩
  obtain ⟨W4, hW4⟩ : ∃ W, W = W3.alloc (.cells #[.int .i64 0, .slice (some ⟨g3, 0, none⟩) 1 1] 28) := ⟨_, rfl⟩
  obtain ⟨g4, hg4⟩ : ∃ b, b = W3.heap.size := ⟨_, rfl⟩
  obtain ⟨W5, hW5⟩ : ∃ W, W = W4.alloc (.cells #[.int .i64 0, .slice (some ⟨g3, 0, none⟩) 1 1] 28) := ⟨_, rfl⟩
  obtain ⟨g5, hg5⟩ : ∃ b, b = W4.heap.size := ⟨_, rfl⟩
  have hb3 : Below w2.heap.size w2 W3 := by rw [hW3]; exact (Below.refl _ _).alloc (Nat.le_refl _) _
  have hb4 : Below W3.heap.size W3 W4 := by rw [hW4]; exact (Below.refl _ _).alloc (Nat.le_refl _) _
  have hb5 : Below W4.heap.size W4 W5 := by rw [hW5]; exact (Below.refl _ _).alloc (Nat.le_refl _) _
  have y3 : W3.cell? ⟨g3, 0, none⟩ = some (.int .i64 3) := by rw [hW3, hg3]; simp
  have y40 : W4.cell? ⟨g4, 0, none⟩ = some (.int .i64 0) := by rw [hW4, hg4]; simp
  have y41 : W4.cell? ⟨g4, 1, none⟩ = some (.slice (some ⟨g3, 0, none⟩) 1 1) := by rw [hW4, hg4]; simp
  have y50 : W5.cell? ⟨g5, 0, none⟩ = some (.int .i64 0) := by rw [hW5, hg5]; simp
  have y51 : W5.cell? ⟨g5, 1, none⟩ = some (.slice (some ⟨g3, 0, none⟩) 1 1) := by rw [hW5, hg5]; simp
  have E4 := (E2.stay hb3).stay hb4
  have z3 : τ2 g3 = none := by rw [hg3]; exact E2.fresh _ (Nat.le_refl _)
  have z4 : τ2 g4 = none := by rw [hg4]; exact (E2.stay hb3).fresh _ (Nat.le_refl _)
  have z5 : τ2 g5 = none := by rw [hg5]; exact E4.fresh _ (Nat.le_refl _)
  have I5 : IntsZ (fun j => τ2 j = none) W5 (some ⟨g3, 0, none⟩) 1 [3] := one_ints (on_cell hb5 (on_cell hb4 y3)) z3
  have R4 : RowsZ (fun j => τ2 j = none) W5 (some ⟨g4, 0, none⟩) 1 [(0, [3])] := one_rows (on_cell hb5 y40) (on_cell hb5 y41) I5 z4
  have R5 : RowsZ (fun j => τ2 j = none) W5 (some ⟨g5, 0, none⟩) 1 [(0, [3])] := one_rows y50 y51 I5 z5
  have E5 := (E4.put hb5 R4 (fun j hj => .inl hj)).put (Below.refl _ _) R5 (fun j hj => .inl hj)
  have cA := Lib.hid (env_add E5 (by decide) (fun z hz => by cases hz) (List.mem_cons_self ..) (by
    intro r hr
    rw [List.mem_singleton] at hr
    subst hr
    exact ⟨by decide, by decide, by decide, by decide, by decide⟩) (by decide) (show joinedL [] [((0 : Int), [(3 : Int)])] = [(0, [3])] from rfl))
  rw [show [((0 : Int), [(3 : Int)])].length = 1 from rfl] at cA
  have HW3 := Lib.hid hW3
  have HW4 := Lib.hid hW4
  have HW5 := Lib.hid hW5
  have HG3 := Lib.hid hg3
  have HG4 := Lib.hid hg4
  have HG5 := Lib.hid hg5
  clear hW3 hW4 hW5 hg3 hg4 hg5 E2 E4 E5 R4 R5 I5 hb3 hb4 hb5 y3 y50 y51 z3 z4 z5 hs2 T2 cN
  rw [show ((1 : Nat) : Int) - (([] : List Row).length : Int) = 1 from rfl] at cA
  go_upto_region 5 with fail
  rw [← HG3.out, ← HW3.out, show g3 + 1 = g4 from by rw [HG3.out, HG4.out, HW3.out]; simp, ← HW4.out]
  go_wp2_with fail
  rw [← HW5.out, ← HG5.out]
  with_reducible refine cA.out.mono ?_
  rintro e w6 ⟨rfl, τ6, E6⟩
  have hR := E6.rows _ (List.mem_cons_of_mem _ (List.mem_cons_self ..))
  rcases hR.1 with hn | ⟨b6, o6, he6, _, hc6⟩
  · simp at hn
  · simp only [Option.some.injEq, Addr.mk.injEq] at he6
    obtain ⟨rfl, rfl, _⟩ := he6
    obtain ⟨k0, a6, c6, k1, hI6⟩ := hc6 0 (by simp)
    simp only [Nat.zero_mul, Nat.zero_add, List.getElem_cons_zero] at k0 k1 hI6
    obtain ⟨σ, h1, h2, h3, h4, h, hst⟩ := E6.st _ (List.mem_cons_self ..)
    simp only at h2 hst
    have cNum := Lib.hid (num_yes hst 0 0 a6 c6 [3] hI6 (by rw [h2]; rfl))
    rw [show [(3 : Int)].length = 1 from rfl, show ((0 : Nat) : Int) = 0 from rfl] at cNum
    have HE6 := Lib.hid E6
    have HSt := Lib.hid hst
    have HI6 := Lib.hid hI6
    have H2 := Lib.hid h2
    have k1 : w6.cell? ⟨g4, 1, none⟩ = some (.slice a6 1 c6) := k1
    clear E6 hR hc6 h1 h2 h3 h4 hst hI6 cA y40 y41
    go_wp2_with fail
    with_reducible refine cNum.out.mono ?_
    rintro e w7 ⟨rfl, hb7⟩
    have k0 := on_cell hb7 k0
    have k1 := on_cell hb7 k1
    have cHas := Lib.hid (has_yes (HSt.out.below hb7) 0 0 a6 c6 [3] (HI6.out.below hb7 (Nat.le_refl _)) (by rw [H2.out]; rfl))
    rw [show [(3 : Int)].length = 1 from rfl] at cHas
    go_wp2_with fail
    with_reducible refine cHas.out.mono ?_
    rintro e w8 ⟨rfl, hb8⟩
    have hbw : Below w.heap.size w w8 := HE6.out.below.trans ((hb7.trans (hb8.mono hb7.size)).mono HE6.out.below.size)
    have HBw := Lib.hid hbw
    have k0 := on_cell hb8 k0
    have k1 := on_cell hb8 k1
    clear hb1 hb2 hb7 hb8 hbw cNum cHas HE6 HSt HI6 H2
    go_wp2_with fail
    obtain ⟨W9, hW9⟩ : ∃ W, W = w8.alloc (.cells #[.int .i64 0, .slice a6 1 c6] 28) := ⟨_, rfl⟩
    have hb9 : Below w8.heap.size w8 W9 := by rw [hW9]; exact (Below.refl _ _).alloc (Nat.le_refl _) _
    have k0 := on_cell hb9 k0
    have k1 := on_cell hb9 k1
    have HBw := Lib.hid (HBw.out.trans (hb9.mono HBw.out.size))
    rw [← hW9]
    clear hW9 hb9
    with_reducible refine (add_nil _ _ _ _).mono ?_
    rintro e v9 ⟨rfl, rfl⟩
    go_wp2_with fail
    with_reducible refine (has_nil _ _ _ _ _).mono ?_
    rintro e v10 ⟨rfl, hb10⟩
    have HBw := Lib.hid (HBw.out.trans (hb10.mono HBw.out.size))
    have k0 := on_cell hb10 k0
    have k1 := on_cell hb10 k1
    clear hb10
    go_wp2_with fail
    with_reducible refine (num_nil _ _ _ _ _).mono ?_
    rintro e v11 ⟨rfl, hb11⟩
    have HBw := Lib.hid (HBw.out.trans (hb11.mono HBw.out.size))
    have k0 := on_cell hb11 k0
    have k1 := on_cell hb11 k1
    clear hb11
    go_wp2_with fail
    with_reducible refine (len_nil _).mono ?_
    rintro e v12 ⟨rfl, rfl⟩
    go_wp2_with fail
    with_reducible refine (row_nil _ _).mono ?_
    rintro e v13 ⟨rfl, hb13⟩
    have HBw := Lib.hid (HBw.out.trans (hb13.mono HBw.out.size))
    have k0 := on_cell hb13 k0
    have k1 := on_cell hb13 k1
    clear hb13
    obtain ⟨W14, hW14⟩ : ∃ W, W = v13.alloc (.cells #[.int .i64 0, .slice none 0 0] 28) := ⟨_, rfl⟩
    obtain ⟨g14, hg14⟩ : ∃ b, b = v13.heap.size := ⟨_, rfl⟩
    have hb14 : Below v13.heap.size v13 W14 := by rw [hW14]; exact (Below.refl _ _).alloc (Nat.le_refl _) _
    have m0 : W14.cell? ⟨g14, 0, none⟩ = some (.int .i64 0) := by rw [hW14, hg14]; simp
    have m1 : W14.cell? ⟨g14, 1, none⟩ = some (.slice none 0 0) := by rw [hW14, hg14]; simp
    have HBw := Lib.hid (HBw.out.trans (hb14.mono HBw.out.size))
    have HW14 := Lib.hid hW14
    have HG14 := Lib.hid hg14
    clear hW14 hb14 hg14 k0 k1
    go_upto_region 13 with fail
    rw [← HW14.out, ← HG14.out]
    go_wp2_with fail
    with_reducible refine (each_nil _ _).mono ?_
    rintro e v15 ⟨rfl, rfl⟩
    go_wp2_with fail
    with_reducible refine (of_nil _ _).mono ?_
    rintro e v16 ⟨rfl, rfl⟩
    go_wp2_with fail
    with_reducible refine (where_nil _ _ _ _).mono ?_
    rintro e v17 ⟨rfl, rfl⟩
    go_wp2_with fail
    with_reducible refine (undo_nil _ _).mono ?_
    rintro e v18 ⟨rfl, rfl⟩
    go_wp2_with fail
    with_reducible refine (undo_nil _ _).mono ?_
    rintro e v19 ⟨rfl, rfl⟩
    go_wp2_with fail
    with_reducible refine (try_nil _).mono ?_
    rintro e v20 ⟨rfl, hb20⟩
    go_wp2_with fail
    with_reducible refine (copy_nil _).mono ?_
    rintro e v21 ⟨rfl, rfl⟩
    go_wp2
    go_ret
    exact ⟨rfl, HBw.out.trans (hb20.mono HBw.out.size)⟩
end Go.Proofs.Ytgodidoibcomcaa
