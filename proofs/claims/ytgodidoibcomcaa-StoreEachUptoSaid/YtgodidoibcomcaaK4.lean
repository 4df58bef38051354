/-
  The book of StoreScript, StoreTries, StoreEach: several of its texts in one.
-/
import Derived.Test.YtgodidoibcomcaaK3
namespace Go.Proofs.Ytgodidoibcomcaa.Bk
open Go.RowKit Go.Proofs.Ytgodidoibcomcaa

set_option linter.unusedSimpArgs false in
set_option maxHeartbeats 16000000 in
set_option maxRecDepth 100000 in
theorem flat_Row {w0 : World} {τ : Own} {w : World} {β : Book} {C : List Box} {U u v : Nat} {Ops : Option Addr → Nat → Nat → Prop} (E : Env w0 τ w (ents β.ar β.ps) [] C) (B : BookOk β C) (HP : ∀ p ∈ β.ps, PrOk p) (x : OpD) (hx : OpIn Ops w0 x u) (hL : Lim U β v) (hU : v + u ≤ U) (hU2 : U ≤ 1048576) (hkind : x.kind = 3) :
    Calls Try.prog 26 #[.pointer (some ⟨β.bk, 0, none⟩), .agg x.cells] w (FlatEnd w0 β C U (v + u) w) := by
  have hu := hx.weigh
  obtain ⟨kind, on, ra, rc, l, n, place, id, ia, inn, ic, say⟩ := x
  obtain ⟨hx, hcap, hok, hargs, hrk, hrn, hrp, hri, -⟩ := hx
  simp only at hx hok hargs hu hcap hrn hrp hri hkind
  subst hkind
  obtain ⟨L, hLl⟩ : ∃ L, l.length = L := ⟨_, rfl⟩
  have HLl := Lib.hid hLl
  rw [hLl] at hcap hu
  have hps := hL.ps
  have hmany := B.many
  have hpos := B.pos
  obtain ⟨N, hN⟩ : ∃ N, β.ps.length = N := ⟨_, rfl⟩
  rw [hN] at hps hmany hpos
  obtain ⟨W0, hW0⟩ : ∃ W, W = w.alloc (.cells (opCells 3 on (.slice ra L rc) n place id (.slice ia inn ic) say) 54) := ⟨_, rfl⟩
  obtain ⟨ob, hob⟩ : ∃ b, b = w.heap.size := ⟨_, rfl⟩
  have hb0 : Below w.heap.size w W0 := by rw [hW0]; exact (Below.refl _ _).alloc (Nat.le_refl _) _
  have hbw0 : Below w0.heap.size w0 W0 := E.below.trans (hb0.mono E.below.size)
  have HE0 := Lib.hid E
  have Hob0 : Hid (τ ob = none) := Lib.hid (E.fresh ob (by omega))
  have HX := Lib.hid hx
  have HO := Lib.hid hok
  have HA := Lib.hid hargs
  have HB := Lib.hid B
  have HPP := Lib.hid HP
  have HLm := Lib.hid hL
  have hl6 : L ≤ 1048576 := by omega
  obtain ⟨gS, cS, gR, cR, hvS, hvR, hLd⟩ := B.leads (E.stay hb0) (k := 0) (p := β.ps[0]'(by rw [hN]; exact hpos)) (List.getElem?_eq_getElem _)
  have s0 := hLd.s0
  rw [hN] at s0 hvS hvR
  have cOn := Lib.hid (on_any s0 hpos hmany 3 on ra L rc n place id ia inn ic say)
  have HN := Lib.hid hN
  have HvS := Lib.hid hvS
  have HvR := Lib.hid hvR
  have xall : ∀ (j : Nat) y, (opCells 3 on (.slice ra L rc) n place id (.slice ia inn ic) say)[j]? = some y → W0.cell? ⟨ob, j, none⟩ = some y := fun j y hy => by rw [hW0, hob]; simp [hy]
  have z0 : W0.cell? ⟨ob, 0, none⟩ = some (.int .i64 3) := xall 0 _ rfl
  have z1 : W0.cell? ⟨ob, 1, none⟩ = some (.int .i64 on) := xall 1 _ rfl
  have z2 : W0.cell? ⟨ob, 2, none⟩ = some (.slice ra L rc) := xall 2 _ rfl
  have z3 : W0.cell? ⟨ob, 3, none⟩ = some (.int .i64 n) := xall 3 _ rfl
  have z4 : W0.cell? ⟨ob, 4, none⟩ = some (.int .i64 place) := xall 4 _ rfl
  have z5 : W0.cell? ⟨ob, 5, none⟩ = some (.int .i64 id) := xall 5 _ rfl
  have z6 : W0.cell? ⟨ob, 6, none⟩ = some (.slice ia inn ic) := xall 6 _ rfl
  have z7 : W0.cell? ⟨ob, 7, none⟩ = some (.bool say) := xall 7 _ rfl
  unfold opCells at cOn hW0
  unfold OpD.cells opCells
  simp only
  rw [hLl]
  have HW0 := Lib.hid hW0
  have Hob := Lib.hid hob
  clear hLl hx hok hargs hL E B HP hvS hvR hN xall hW0 hob hLd s0
  go_enter Try.func26, Try.ntmps26
  go_upto_region 1 with fail
  rw [← HW0.out, ← Hob.out]
  go_upto_region 2 with (first | (go_at_call 50; with_reducible refine cOn.out.mono ?_; rintro e W1 ⟨k, hk, rfl, hb1⟩))
  have y0 := on_cell hb1 z0
  have y2 := on_cell hb1 z2
  have y3 := on_cell hb1 z3
  have y4 := on_cell hb1 z4
  have y5 := on_cell hb1 z5
  clear z0 z1 z2 z3 z4 z5 z6 z7 cOn
  go_upto_region 3 with fail
  obtain ⟨W2, hW2⟩ : ∃ W, W = W1.alloc (.cells #[.int .i64 (-1), .slice none 0 0] 28) := ⟨_, rfl⟩
  obtain ⟨fb, hfb⟩ : ∃ b, b = W1.heap.size := ⟨_, rfl⟩
  have hb2 : Below W1.heap.size W1 W2 := by rw [hW2]; exact (Below.refl _ _).alloc (Nat.le_refl _) _
  have f0 : W2.cell? ⟨fb, 0, none⟩ = some (.int .i64 (-1)) := by rw [hW2, hfb]; simp
  have f1 : W2.cell? ⟨fb, 1, none⟩ = some (.slice none 0 0) := by rw [hW2, hfb]; simp
  have ff0 : W2.frozen? ⟨fb, 0, none⟩ = false := by rw [hW2, hfb]; simp
  have ff1 : W2.frozen? ⟨fb, 1, none⟩ = false := by rw [hW2, hfb]; simp
  have hb02 : Below w.heap.size w W2 := (hb0.trans (hb1.mono hb0.size)).trans (hb2.mono (hb0.trans (hb1.mono hb0.size)).size)
  have hfw : w.heap.size ≤ fb := by rw [hfb]; exact (hb0.trans (hb1.mono hb0.size)).size
  have y0 := on_cell hb2 y0
  have y2 := on_cell hb2 y2
  have y3 := on_cell hb2 y3
  have y4 := on_cell hb2 y4
  have y5 := on_cell hb2 y5
  have hobf : ob ≠ fb := by
    have h1 : ob < W1.heap.size := World.block_lt_of_cell? _ _ (‹W1.cell? ⟨ob, 0, none⟩ = some _›)
    omega
  rw [← hW2, ← hfb]
  clear hW2 hfb
  go_upto_if 25 with fail
  go_cut [] (fun wx => ∃ (P : Int) (a : Option Addr) (c : Nat) (xs : List Int), Hid (Below w.heap.size w wx ∧ IntsZ (fun _ => True) wx a c xs ∧ RowOk (P, xs) ∧ xs.length ≤ 1048576) ∧ wx.cell? ⟨fb, 0, none⟩ = some (.int .i64 P) ∧ wx.cell? ⟨fb, 1, none⟩ = some (.slice a xs.length c) ∧ wx.cell? ⟨ob, 0, none⟩ = some (.int .i64 3) ∧ wx.cell? ⟨ob, 3, none⟩ = some (.int .i64 n) ∧ wx.cell? ⟨ob, 4, none⟩ = some (.int .i64 place) ∧ wx.cell? ⟨ob, 5, none⟩ = some (.int .i64 id))
  case first =>
    by_cases hl0 : l = []
    · subst hl0
      obtain rfl : L = 0 := by rw [← HLl.out]; rfl
      go_wp2_with fail
      go_meet
      exact ⟨-1, none, 0, [], Lib.hid ⟨hb02, ⟨.inl rfl, fun _ => ⟨rfl, rfl⟩⟩, ⟨⟨by simp, by simp⟩, by simp, fun x hx => by cases hx⟩, by simp⟩, f0, f1, y0, y3, y4, y5⟩
    · obtain ⟨r, l', rfl⟩ := List.exists_cons_of_ne_nil hl0
      have hd0 : 0 < L := by rw [← HLl.out]; simp
      have hd : decide (0 < L) = true := by rw [decide_eq_true_eq]; exact hd0
      have hc1 : 1 ≤ rc := by omega
      have hra := HA.out r (List.mem_cons_self ..)
      have hrk := HO.out r (List.mem_cons_self ..)
      have hW2 : Below w0.heap.size w0 W2 := HE0.out.below.trans (hb02.mono HE0.out.below.size)
      have cD : Hid (Calls Try.prog 40 #[.slice ra 1 rc] W2 fun e w' => ∃ v cs vs, e = .returned v ∧ DRows W2.heap.size w' v [r] cs vs ∧ Below W2.heap.size W2 w') := Lib.hid (drows_any ra rc [r] W2 ((RowsZ.head HX.out).below hW2 (Nat.le_refl _)) (fun q hq => by rw [List.mem_singleton] at hq; subst hq; omega) (by simp))
      have s2 := hb02.size
      go_wp2_with (first | (go_at_call 40; with_reducible refine cD.out.mono ?_; rintro e W3 ⟨vg, cs, vs, rfl, hD, hb3⟩; obtain ⟨g, cg, ga, gc, rfl, d0, d1, hI⟩ := hD.one; have y0' := on_cell hb3 y0; have y3' := on_cell hb3 y3; have y4' := on_cell hb3 y4; have y5' := on_cell hb3 y5; have f0' := on_cell hb3 f0; have f1' := on_cell hb3 f1; have ff0' := (hb3.frozen (p := ⟨fb, 0, none⟩) (World.block_lt_of_cell? _ _ f0)).trans ff0; have ff1' := (hb3.frozen (p := ⟨fb, 1, none⟩) (World.block_lt_of_cell? _ _ f1)).trans ff1))
      go_meet
      have hb23 := hb02.trans (hb3.mono s2)
      have hlt0 : ¬ fb < w.heap.size := by omega
      obtain ⟨e0, e1, far⟩ := set_two (v0 := .int .i64 r.1) (v1 := .slice ga r.2.length gc) f0' f1'
      have hfb2 := World.block_lt_of_cell? _ _ f0
      exact ⟨r.1, ga, gc, r.2, Lib.hid ⟨(hb23.setCell (p := ⟨fb, 0, none⟩) hfw _).setCell (p := ⟨fb, 1, none⟩) hfw _, hI.out.keep (fun j hj hz => (Below.heap_setCell _ _ _ j (fun e => by have hz : W2.heap.size ≤ j := hz; have e : j = fb := e; simp only at hfb2; omega)).trans (Below.heap_setCell _ _ _ j (fun e => by have hz : W2.heap.size ≤ j := hz; have e : j = fb := e; simp only at hfb2; omega))) (fun _ _ _ => trivial), hrk, hra⟩, e0, e1, far hobf y0', far hobf y3', far hobf y4', far hobf y5'⟩
  case rest =>
    obtain ⟨P, a, c, xs, HF, f0, f1, y0, y3, y4, y5⟩ := hcut
    have hbx := HF.out.1
    have HEx := Lib.hid (HE0.out.stay hbx)
    obtain ⟨p, hp⟩ : ∃ p, β.ps[k]? = some p := ⟨_, List.getElem?_eq_getElem (by rw [HN.out]; exact hk)⟩
    have HmS : Hid (stE β.ar k p ∈ ents β.ar β.ps) := Lib.hid (mem_ents.2 ⟨k, p, hp, .inl rfl⟩)
    have HmR : Hid (rfE β.ar k p ∈ ents β.ar β.ps) := Lib.hid (mem_ents.2 ⟨k, p, hp, .inr rfl⟩)
    have hlp := HLm.out.rs p (List.mem_of_getElem? hp)
    have hprv : p.rows.length ≤ v := by rw [show p.rows.length = p.rs.length from List.length_map _]; omega
    have hpr : p.rows.length ≤ 1048576 := by omega
    obtain ⟨gS, cS, gR, cR, hvS, hvR, hLd⟩ := HB.out.leads HEx.out hp
    have s0 := hLd.s0
    have s1 := hLd.s1
    have r0 := hLd.r0
    have r1 := hLd.r1
    rw [HN.out] at s0 r0
    have HvS := Lib.hid hvS
    have HvR := Lib.hid hvR
    have Hp := Lib.hid hp
    have sx := hbx.size
    clear hLd hvS hvR hp
    have hnx := HLm.out.next
    have hnl := HLm.out.lists
    have hn0 := HLm.out.next0
    have hUb := U_next (show v ≤ U by omega) hU2
    have hUc := U_lists (show v ≤ U by omega) hU2
    have cR3 := Lib.hid (row_any HEx.out HB.out Hp.out n hn0 (by omega) (by omega))
    clear hnx hnl hUb hUc
    go_wp2_with (first | (go_at_call 55; (with_reducible refine cR3.out.mono ?_); rintro e V ⟨rfl, τ', C', vL', nx, lists', ST, hl, hx, hy⟩))
    go_ret
    exact ⟨rfl, _, _, _, ST.less (fun _ h => h) sx, BLater.same HPP.out rfl, HLm.out.keeps (by omega) hU2 hx (by omega) hl (Nat.le_refl _)⟩
end Go.Proofs.Ytgodidoibcomcaa.Bk

namespace Go.Proofs.Ytgodidoibcomcaa.Bk
open Go.RowKit Go.Proofs.Ytgodidoibcomcaa

set_option linter.unusedSimpArgs false in
set_option maxHeartbeats 16000000 in
set_option maxRecDepth 100000 in
theorem flat_Len {w0 : World} {τ : Own} {w : World} {β : Book} {C : List Box} {U u v : Nat} {Ops : Option Addr → Nat → Nat → Prop} (E : Env w0 τ w (ents β.ar β.ps) [] C) (B : BookOk β C) (HP : ∀ p ∈ β.ps, PrOk p) (x : OpD) (hx : OpIn Ops w0 x u) (hL : Lim U β v) (hU : v + u ≤ U) (hU2 : U ≤ 1048576) (hkind : x.kind = 4) :
    Calls Try.prog 26 #[.pointer (some ⟨β.bk, 0, none⟩), .agg x.cells] w (FlatEnd w0 β C U (v + u) w) := by
  have hu := hx.weigh
  obtain ⟨kind, on, ra, rc, l, n, place, id, ia, inn, ic, say⟩ := x
  obtain ⟨hx, hcap, hok, hargs, hrk, hrn, hrp, hri, -⟩ := hx
  simp only at hx hok hargs hu hcap hrn hrp hri hkind
  subst hkind
  obtain ⟨L, hLl⟩ : ∃ L, l.length = L := ⟨_, rfl⟩
  have HLl := Lib.hid hLl
  rw [hLl] at hcap hu
  have hps := hL.ps
  have hmany := B.many
  have hpos := B.pos
  obtain ⟨N, hN⟩ : ∃ N, β.ps.length = N := ⟨_, rfl⟩
  rw [hN] at hps hmany hpos
  obtain ⟨W0, hW0⟩ : ∃ W, W = w.alloc (.cells (opCells 4 on (.slice ra L rc) n place id (.slice ia inn ic) say) 54) := ⟨_, rfl⟩
  obtain ⟨ob, hob⟩ : ∃ b, b = w.heap.size := ⟨_, rfl⟩
  have hb0 : Below w.heap.size w W0 := by rw [hW0]; exact (Below.refl _ _).alloc (Nat.le_refl _) _
  have hbw0 : Below w0.heap.size w0 W0 := E.below.trans (hb0.mono E.below.size)
  have HE0 := Lib.hid E
  have Hob0 : Hid (τ ob = none) := Lib.hid (E.fresh ob (by omega))
  have HX := Lib.hid hx
  have HO := Lib.hid hok
  have HA := Lib.hid hargs
  have HB := Lib.hid B
  have HPP := Lib.hid HP
  have HLm := Lib.hid hL
  have hl6 : L ≤ 1048576 := by omega
  obtain ⟨gS, cS, gR, cR, hvS, hvR, hLd⟩ := B.leads (E.stay hb0) (k := 0) (p := β.ps[0]'(by rw [hN]; exact hpos)) (List.getElem?_eq_getElem _)
  have s0 := hLd.s0
  rw [hN] at s0 hvS hvR
  have cOn := Lib.hid (on_any s0 hpos hmany 4 on ra L rc n place id ia inn ic say)
  have HN := Lib.hid hN
  have HvS := Lib.hid hvS
  have HvR := Lib.hid hvR
  have xall : ∀ (j : Nat) y, (opCells 4 on (.slice ra L rc) n place id (.slice ia inn ic) say)[j]? = some y → W0.cell? ⟨ob, j, none⟩ = some y := fun j y hy => by rw [hW0, hob]; simp [hy]
  have z0 : W0.cell? ⟨ob, 0, none⟩ = some (.int .i64 4) := xall 0 _ rfl
  have z1 : W0.cell? ⟨ob, 1, none⟩ = some (.int .i64 on) := xall 1 _ rfl
  have z2 : W0.cell? ⟨ob, 2, none⟩ = some (.slice ra L rc) := xall 2 _ rfl
  have z3 : W0.cell? ⟨ob, 3, none⟩ = some (.int .i64 n) := xall 3 _ rfl
  have z4 : W0.cell? ⟨ob, 4, none⟩ = some (.int .i64 place) := xall 4 _ rfl
  have z5 : W0.cell? ⟨ob, 5, none⟩ = some (.int .i64 id) := xall 5 _ rfl
  have z6 : W0.cell? ⟨ob, 6, none⟩ = some (.slice ia inn ic) := xall 6 _ rfl
  have z7 : W0.cell? ⟨ob, 7, none⟩ = some (.bool say) := xall 7 _ rfl
  unfold opCells at cOn hW0
  unfold OpD.cells opCells
  simp only
  rw [hLl]
  have HW0 := Lib.hid hW0
  have Hob := Lib.hid hob
  clear hLl hx hok hargs hL E B HP hvS hvR hN xall hW0 hob hLd s0
  go_enter Try.func26, Try.ntmps26
  go_upto_region 1 with fail
  rw [← HW0.out, ← Hob.out]
  go_upto_region 2 with (first | (go_at_call 50; with_reducible refine cOn.out.mono ?_; rintro e W1 ⟨k, hk, rfl, hb1⟩))
  have y0 := on_cell hb1 z0
  have y2 := on_cell hb1 z2
  have y3 := on_cell hb1 z3
  have y4 := on_cell hb1 z4
  have y5 := on_cell hb1 z5
  clear z0 z1 z2 z3 z4 z5 z6 z7 cOn
  go_upto_region 3 with fail
  obtain ⟨W2, hW2⟩ : ∃ W, W = W1.alloc (.cells #[.int .i64 (-1), .slice none 0 0] 28) := ⟨_, rfl⟩
  obtain ⟨fb, hfb⟩ : ∃ b, b = W1.heap.size := ⟨_, rfl⟩
  have hb2 : Below W1.heap.size W1 W2 := by rw [hW2]; exact (Below.refl _ _).alloc (Nat.le_refl _) _
  have f0 : W2.cell? ⟨fb, 0, none⟩ = some (.int .i64 (-1)) := by rw [hW2, hfb]; simp
  have f1 : W2.cell? ⟨fb, 1, none⟩ = some (.slice none 0 0) := by rw [hW2, hfb]; simp
  have ff0 : W2.frozen? ⟨fb, 0, none⟩ = false := by rw [hW2, hfb]; simp
  have ff1 : W2.frozen? ⟨fb, 1, none⟩ = false := by rw [hW2, hfb]; simp
  have hb02 : Below w.heap.size w W2 := (hb0.trans (hb1.mono hb0.size)).trans (hb2.mono (hb0.trans (hb1.mono hb0.size)).size)
  have hfw : w.heap.size ≤ fb := by rw [hfb]; exact (hb0.trans (hb1.mono hb0.size)).size
  have y0 := on_cell hb2 y0
  have y2 := on_cell hb2 y2
  have y3 := on_cell hb2 y3
  have y4 := on_cell hb2 y4
  have y5 := on_cell hb2 y5
  have hobf : ob ≠ fb := by
    have h1 : ob < W1.heap.size := World.block_lt_of_cell? _ _ (‹W1.cell? ⟨ob, 0, none⟩ = some _›)
    omega
  rw [← hW2, ← hfb]
  clear hW2 hfb
  go_upto_if 25 with fail
  go_cut [] (fun wx => ∃ (P : Int) (a : Option Addr) (c : Nat) (xs : List Int), Hid (Below w.heap.size w wx ∧ IntsZ (fun _ => True) wx a c xs ∧ RowOk (P, xs) ∧ xs.length ≤ 1048576) ∧ wx.cell? ⟨fb, 0, none⟩ = some (.int .i64 P) ∧ wx.cell? ⟨fb, 1, none⟩ = some (.slice a xs.length c) ∧ wx.cell? ⟨ob, 0, none⟩ = some (.int .i64 4) ∧ wx.cell? ⟨ob, 3, none⟩ = some (.int .i64 n) ∧ wx.cell? ⟨ob, 4, none⟩ = some (.int .i64 place) ∧ wx.cell? ⟨ob, 5, none⟩ = some (.int .i64 id))
  case first =>
    by_cases hl0 : l = []
    · subst hl0
      obtain rfl : L = 0 := by rw [← HLl.out]; rfl
      go_wp2_with fail
      go_meet
      exact ⟨-1, none, 0, [], Lib.hid ⟨hb02, ⟨.inl rfl, fun _ => ⟨rfl, rfl⟩⟩, ⟨⟨by simp, by simp⟩, by simp, fun x hx => by cases hx⟩, by simp⟩, f0, f1, y0, y3, y4, y5⟩
    · obtain ⟨r, l', rfl⟩ := List.exists_cons_of_ne_nil hl0
      have hd0 : 0 < L := by rw [← HLl.out]; simp
      have hd : decide (0 < L) = true := by rw [decide_eq_true_eq]; exact hd0
      have hc1 : 1 ≤ rc := by omega
      have hra := HA.out r (List.mem_cons_self ..)
      have hrk := HO.out r (List.mem_cons_self ..)
      have hW2 : Below w0.heap.size w0 W2 := HE0.out.below.trans (hb02.mono HE0.out.below.size)
      have cD : Hid (Calls Try.prog 40 #[.slice ra 1 rc] W2 fun e w' => ∃ v cs vs, e = .returned v ∧ DRows W2.heap.size w' v [r] cs vs ∧ Below W2.heap.size W2 w') := Lib.hid (drows_any ra rc [r] W2 ((RowsZ.head HX.out).below hW2 (Nat.le_refl _)) (fun q hq => by rw [List.mem_singleton] at hq; subst hq; omega) (by simp))
      have s2 := hb02.size
      go_wp2_with (first | (go_at_call 40; with_reducible refine cD.out.mono ?_; rintro e W3 ⟨vg, cs, vs, rfl, hD, hb3⟩; obtain ⟨g, cg, ga, gc, rfl, d0, d1, hI⟩ := hD.one; have y0' := on_cell hb3 y0; have y3' := on_cell hb3 y3; have y4' := on_cell hb3 y4; have y5' := on_cell hb3 y5; have f0' := on_cell hb3 f0; have f1' := on_cell hb3 f1; have ff0' := (hb3.frozen (p := ⟨fb, 0, none⟩) (World.block_lt_of_cell? _ _ f0)).trans ff0; have ff1' := (hb3.frozen (p := ⟨fb, 1, none⟩) (World.block_lt_of_cell? _ _ f1)).trans ff1))
      go_meet
      have hb23 := hb02.trans (hb3.mono s2)
      have hlt0 : ¬ fb < w.heap.size := by omega
      obtain ⟨e0, e1, far⟩ := set_two (v0 := .int .i64 r.1) (v1 := .slice ga r.2.length gc) f0' f1'
      have hfb2 := World.block_lt_of_cell? _ _ f0
      exact ⟨r.1, ga, gc, r.2, Lib.hid ⟨(hb23.setCell (p := ⟨fb, 0, none⟩) hfw _).setCell (p := ⟨fb, 1, none⟩) hfw _, hI.out.keep (fun j hj hz => (Below.heap_setCell _ _ _ j (fun e => by have hz : W2.heap.size ≤ j := hz; have e : j = fb := e; simp only at hfb2; omega)).trans (Below.heap_setCell _ _ _ j (fun e => by have hz : W2.heap.size ≤ j := hz; have e : j = fb := e; simp only at hfb2; omega))) (fun _ _ _ => trivial), hrk, hra⟩, e0, e1, far hobf y0', far hobf y3', far hobf y4', far hobf y5'⟩
  case rest =>
    obtain ⟨P, a, c, xs, HF, f0, f1, y0, y3, y4, y5⟩ := hcut
    have hbx := HF.out.1
    have HEx := Lib.hid (HE0.out.stay hbx)
    obtain ⟨p, hp⟩ : ∃ p, β.ps[k]? = some p := ⟨_, List.getElem?_eq_getElem (by rw [HN.out]; exact hk)⟩
    have HmS : Hid (stE β.ar k p ∈ ents β.ar β.ps) := Lib.hid (mem_ents.2 ⟨k, p, hp, .inl rfl⟩)
    have HmR : Hid (rfE β.ar k p ∈ ents β.ar β.ps) := Lib.hid (mem_ents.2 ⟨k, p, hp, .inr rfl⟩)
    have hlp := HLm.out.rs p (List.mem_of_getElem? hp)
    have hprv : p.rows.length ≤ v := by rw [show p.rows.length = p.rs.length from List.length_map _]; omega
    have hpr : p.rows.length ≤ 1048576 := by omega
    obtain ⟨gS, cS, gR, cR, hvS, hvR, hLd⟩ := HB.out.leads HEx.out hp
    have s0 := hLd.s0
    have s1 := hLd.s1
    have r0 := hLd.r0
    have r1 := hLd.r1
    rw [HN.out] at s0 r0
    have HvS := Lib.hid hvS
    have HvR := Lib.hid hvR
    have Hp := Lib.hid hp
    have sx := hbx.size
    clear hLd hvS hvR hp
    have cA := Lib.hid (env_len_st (HEx.out.stay (Below.refl _ _).drew) HmS.out (by omega))
    have cB := Lib.hid (env_len_rf (HEx.out.stay (Below.refl _ _).drew) HmR.out)
    go_wp2_with fail
    go_region_held3 (fun w' => w'.cell? ⟨β.bk, 0, none⟩ = some (.slice (some ⟨gS, 0, none⟩) N cS) ∧ w'.cell? ⟨gS, k, none⟩ = some (.pointer (some ⟨p.sb, 0, none⟩)) ∧ w'.cell? ⟨β.bk, 1, none⟩ = some (.slice (some ⟨gR, 0, none⟩) N cR) ∧ w'.cell? ⟨gR, k, none⟩ = some (.pointer (some ⟨p.rb, 0, none⟩))) (first | assumption | exact ⟨s0, s1, r0, r1⟩ | go_keep) (first
      | (go_at_call 21
         with_reducible refine cA.out.mono ?_
         rintro e v5 ⟨rfl, rfl⟩)
      | (go_at_call 56
         with_reducible refine cB.out.mono ?_
         rintro e v6 ⟨rfl, rfl⟩))
    all_goals
      go_wp2_with fail
      go_ret
      exact ⟨rfl, β, τ, C, Step.ofMore HE0.out HB.out (HEx.out.stay (Below.refl _ _).drew) (fun x h => h) (Nat.le_trans sx (Nat.le_refl _)), BLater.refl HPP.out, HLm.out.mono (Nat.le_add_right _ _)⟩
end Go.Proofs.Ytgodidoibcomcaa.Bk

namespace Go.Proofs.Ytgodidoibcomcaa.Bk
open Go.RowKit Go.Proofs.Ytgodidoibcomcaa

set_option linter.unusedSimpArgs false in
set_option maxHeartbeats 16000000 in
set_option maxRecDepth 100000 in
theorem flat_Other {w0 : World} {τ : Own} {w : World} {β : Book} {C : List Box} {U u v : Nat} {Ops : Option Addr → Nat → Nat → Prop} (E : Env w0 τ w (ents β.ar β.ps) [] C) (B : BookOk β C) (HP : ∀ p ∈ β.ps, PrOk p) (x : OpD) (hx : OpIn Ops w0 x u) (hL : Lim U β v) (hU : v + u ≤ U) (hU2 : U ≤ 1048576) (hkind : (x.kind == 0) = false ∧ (x.kind == 1) = false ∧ (x.kind == 2) = false ∧ (x.kind == 3) = false ∧ (x.kind == 4) = false ∧ (x.kind == 5) = false ∧ (x.kind == 6) = false ∧ (x.kind == 7) = false ∧ (x.kind == 8) = false ∧ (x.kind == 11) = false ∧ (x.kind == 12) = false) :
    Calls Try.prog 26 #[.pointer (some ⟨β.bk, 0, none⟩), .agg x.cells] w (FlatEnd w0 β C U (v + u) w) := by
  have hu := hx.weigh
  obtain ⟨kind, on, ra, rc, l, n, place, id, ia, inn, ic, say⟩ := x
  obtain ⟨hx, hcap, hok, hargs, hrk, hrn, hrp, hri, -⟩ := hx
  simp only at hx hok hargs hu hcap hrn hrp hri hkind
  obtain ⟨hq0, hq1, hq2, hq3, hq4, hq5, hq6, hq7, hq8, hq11, hq12⟩ := hkind
  obtain ⟨L, hLl⟩ : ∃ L, l.length = L := ⟨_, rfl⟩
  have HLl := Lib.hid hLl
  rw [hLl] at hcap hu
  have hps := hL.ps
  have hmany := B.many
  have hpos := B.pos
  obtain ⟨N, hN⟩ : ∃ N, β.ps.length = N := ⟨_, rfl⟩
  rw [hN] at hps hmany hpos
  obtain ⟨W0, hW0⟩ : ∃ W, W = w.alloc (.cells (opCells kind on (.slice ra L rc) n place id (.slice ia inn ic) say) 54) := ⟨_, rfl⟩
  obtain ⟨ob, hob⟩ : ∃ b, b = w.heap.size := ⟨_, rfl⟩
  have hb0 : Below w.heap.size w W0 := by rw [hW0]; exact (Below.refl _ _).alloc (Nat.le_refl _) _
  have hbw0 : Below w0.heap.size w0 W0 := E.below.trans (hb0.mono E.below.size)
  have HE0 := Lib.hid E
  have Hob0 : Hid (τ ob = none) := Lib.hid (E.fresh ob (by omega))
  have HX := Lib.hid hx
  have HO := Lib.hid hok
  have HA := Lib.hid hargs
  have HB := Lib.hid B
  have HPP := Lib.hid HP
  have HLm := Lib.hid hL
  have hl6 : L ≤ 1048576 := by omega
  obtain ⟨gS, cS, gR, cR, hvS, hvR, hLd⟩ := B.leads (E.stay hb0) (k := 0) (p := β.ps[0]'(by rw [hN]; exact hpos)) (List.getElem?_eq_getElem _)
  have s0 := hLd.s0
  rw [hN] at s0 hvS hvR
  have cOn := Lib.hid (on_any s0 hpos hmany kind on ra L rc n place id ia inn ic say)
  have HN := Lib.hid hN
  have HvS := Lib.hid hvS
  have HvR := Lib.hid hvR
  have xall : ∀ (j : Nat) y, (opCells kind on (.slice ra L rc) n place id (.slice ia inn ic) say)[j]? = some y → W0.cell? ⟨ob, j, none⟩ = some y := fun j y hy => by rw [hW0, hob]; simp [hy]
  have z0 : W0.cell? ⟨ob, 0, none⟩ = some (.int .i64 kind) := xall 0 _ rfl
  have z1 : W0.cell? ⟨ob, 1, none⟩ = some (.int .i64 on) := xall 1 _ rfl
  have z2 : W0.cell? ⟨ob, 2, none⟩ = some (.slice ra L rc) := xall 2 _ rfl
  have z3 : W0.cell? ⟨ob, 3, none⟩ = some (.int .i64 n) := xall 3 _ rfl
  have z4 : W0.cell? ⟨ob, 4, none⟩ = some (.int .i64 place) := xall 4 _ rfl
  have z5 : W0.cell? ⟨ob, 5, none⟩ = some (.int .i64 id) := xall 5 _ rfl
  have z6 : W0.cell? ⟨ob, 6, none⟩ = some (.slice ia inn ic) := xall 6 _ rfl
  have z7 : W0.cell? ⟨ob, 7, none⟩ = some (.bool say) := xall 7 _ rfl
  unfold opCells at cOn hW0
  unfold OpD.cells opCells
  simp only
  rw [hLl]
  have HW0 := Lib.hid hW0
  have Hob := Lib.hid hob
  clear hLl hx hok hargs hL E B HP hvS hvR hN xall hW0 hob hLd s0
  go_enter Try.func26, Try.ntmps26
  go_upto_region 1 with fail
  rw [← HW0.out, ← Hob.out]
  go_upto_region 2 with (first | (go_at_call 50; with_reducible refine cOn.out.mono ?_; rintro e W1 ⟨k, hk, rfl, hb1⟩))
  have y0 := on_cell hb1 z0
  have y2 := on_cell hb1 z2
  have y3 := on_cell hb1 z3
  have y4 := on_cell hb1 z4
  have y5 := on_cell hb1 z5
  clear z0 z1 z2 z3 z4 z5 z6 z7 cOn
  go_upto_region 3 with fail
  obtain ⟨W2, hW2⟩ : ∃ W, W = W1.alloc (.cells #[.int .i64 (-1), .slice none 0 0] 28) := ⟨_, rfl⟩
  obtain ⟨fb, hfb⟩ : ∃ b, b = W1.heap.size := ⟨_, rfl⟩
  have hb2 : Below W1.heap.size W1 W2 := by rw [hW2]; exact (Below.refl _ _).alloc (Nat.le_refl _) _
  have f0 : W2.cell? ⟨fb, 0, none⟩ = some (.int .i64 (-1)) := by rw [hW2, hfb]; simp
  have f1 : W2.cell? ⟨fb, 1, none⟩ = some (.slice none 0 0) := by rw [hW2, hfb]; simp
  have ff0 : W2.frozen? ⟨fb, 0, none⟩ = false := by rw [hW2, hfb]; simp
  have ff1 : W2.frozen? ⟨fb, 1, none⟩ = false := by rw [hW2, hfb]; simp
  have hb02 : Below w.heap.size w W2 := (hb0.trans (hb1.mono hb0.size)).trans (hb2.mono (hb0.trans (hb1.mono hb0.size)).size)
  have hfw : w.heap.size ≤ fb := by rw [hfb]; exact (hb0.trans (hb1.mono hb0.size)).size
  have y0 := on_cell hb2 y0
  have y2 := on_cell hb2 y2
  have y3 := on_cell hb2 y3
  have y4 := on_cell hb2 y4
  have y5 := on_cell hb2 y5
  have hobf : ob ≠ fb := by
    have h1 : ob < W1.heap.size := World.block_lt_of_cell? _ _ (‹W1.cell? ⟨ob, 0, none⟩ = some _›)
    omega
  rw [← hW2, ← hfb]
  clear hW2 hfb
  go_upto_if 25 with fail
  go_cut [] (fun wx => ∃ (P : Int) (a : Option Addr) (c : Nat) (xs : List Int), Hid (Below w.heap.size w wx ∧ IntsZ (fun _ => True) wx a c xs ∧ RowOk (P, xs) ∧ xs.length ≤ 1048576) ∧ wx.cell? ⟨fb, 0, none⟩ = some (.int .i64 P) ∧ wx.cell? ⟨fb, 1, none⟩ = some (.slice a xs.length c) ∧ wx.cell? ⟨ob, 0, none⟩ = some (.int .i64 kind) ∧ wx.cell? ⟨ob, 3, none⟩ = some (.int .i64 n) ∧ wx.cell? ⟨ob, 4, none⟩ = some (.int .i64 place) ∧ wx.cell? ⟨ob, 5, none⟩ = some (.int .i64 id))
  case first =>
    by_cases hl0 : l = []
    · subst hl0
      obtain rfl : L = 0 := by rw [← HLl.out]; rfl
      go_wp2_with fail
      go_meet
      exact ⟨-1, none, 0, [], Lib.hid ⟨hb02, ⟨.inl rfl, fun _ => ⟨rfl, rfl⟩⟩, ⟨⟨by simp, by simp⟩, by simp, fun x hx => by cases hx⟩, by simp⟩, f0, f1, y0, y3, y4, y5⟩
    · obtain ⟨r, l', rfl⟩ := List.exists_cons_of_ne_nil hl0
      have hd0 : 0 < L := by rw [← HLl.out]; simp
      have hd : decide (0 < L) = true := by rw [decide_eq_true_eq]; exact hd0
      have hc1 : 1 ≤ rc := by omega
      have hra := HA.out r (List.mem_cons_self ..)
      have hrk := HO.out r (List.mem_cons_self ..)
      have hW2 : Below w0.heap.size w0 W2 := HE0.out.below.trans (hb02.mono HE0.out.below.size)
      have cD : Hid (Calls Try.prog 40 #[.slice ra 1 rc] W2 fun e w' => ∃ v cs vs, e = .returned v ∧ DRows W2.heap.size w' v [r] cs vs ∧ Below W2.heap.size W2 w') := Lib.hid (drows_any ra rc [r] W2 ((RowsZ.head HX.out).below hW2 (Nat.le_refl _)) (fun q hq => by rw [List.mem_singleton] at hq; subst hq; omega) (by simp))
      have s2 := hb02.size
      go_wp2_with (first | (go_at_call 40; with_reducible refine cD.out.mono ?_; rintro e W3 ⟨vg, cs, vs, rfl, hD, hb3⟩; obtain ⟨g, cg, ga, gc, rfl, d0, d1, hI⟩ := hD.one; have y0' := on_cell hb3 y0; have y3' := on_cell hb3 y3; have y4' := on_cell hb3 y4; have y5' := on_cell hb3 y5; have f0' := on_cell hb3 f0; have f1' := on_cell hb3 f1; have ff0' := (hb3.frozen (p := ⟨fb, 0, none⟩) (World.block_lt_of_cell? _ _ f0)).trans ff0; have ff1' := (hb3.frozen (p := ⟨fb, 1, none⟩) (World.block_lt_of_cell? _ _ f1)).trans ff1))
      go_meet
      have hb23 := hb02.trans (hb3.mono s2)
      have hlt0 : ¬ fb < w.heap.size := by omega
      obtain ⟨e0, e1, far⟩ := set_two (v0 := .int .i64 r.1) (v1 := .slice ga r.2.length gc) f0' f1'
      have hfb2 := World.block_lt_of_cell? _ _ f0
      exact ⟨r.1, ga, gc, r.2, Lib.hid ⟨(hb23.setCell (p := ⟨fb, 0, none⟩) hfw _).setCell (p := ⟨fb, 1, none⟩) hfw _, hI.out.keep (fun j hj hz => (Below.heap_setCell _ _ _ j (fun e => by have hz : W2.heap.size ≤ j := hz; have e : j = fb := e; simp only at hfb2; omega)).trans (Below.heap_setCell _ _ _ j (fun e => by have hz : W2.heap.size ≤ j := hz; have e : j = fb := e; simp only at hfb2; omega))) (fun _ _ _ => trivial), hrk, hra⟩, e0, e1, far hobf y0', far hobf y3', far hobf y4', far hobf y5'⟩
  case rest =>
    obtain ⟨P, a, c, xs, HF, f0, f1, y0, y3, y4, y5⟩ := hcut
    have hbx := HF.out.1
    have HEx := Lib.hid (HE0.out.stay hbx)
    obtain ⟨p, hp⟩ : ∃ p, β.ps[k]? = some p := ⟨_, List.getElem?_eq_getElem (by rw [HN.out]; exact hk)⟩
    have HmS : Hid (stE β.ar k p ∈ ents β.ar β.ps) := Lib.hid (mem_ents.2 ⟨k, p, hp, .inl rfl⟩)
    have HmR : Hid (rfE β.ar k p ∈ ents β.ar β.ps) := Lib.hid (mem_ents.2 ⟨k, p, hp, .inr rfl⟩)
    have hlp := HLm.out.rs p (List.mem_of_getElem? hp)
    have hprv : p.rows.length ≤ v := by rw [show p.rows.length = p.rs.length from List.length_map _]; omega
    have hpr : p.rows.length ≤ 1048576 := by omega
    obtain ⟨gS, cS, gR, cR, hvS, hvR, hLd⟩ := HB.out.leads HEx.out hp
    have s0 := hLd.s0
    have s1 := hLd.s1
    have r0 := hLd.r0
    have r1 := hLd.r1
    rw [HN.out] at s0 r0
    have HvS := Lib.hid hvS
    have HvR := Lib.hid hvR
    have Hp := Lib.hid hp
    have sx := hbx.size
    clear hLd hvS hvR hp
    go_wp2_with fail
    go_ret
    exact ⟨rfl, β, τ, C, Step.ofMore HE0.out HB.out (HEx.out.stay (Below.refl _ _)) (fun x h => h) (Nat.le_trans sx (Nat.le_refl _)), BLater.refl HPP.out, HLm.out.mono (Nat.le_add_right _ _)⟩
end Go.Proofs.Ytgodidoibcomcaa.Bk

namespace Go.Proofs.Ytgodidoibcomcaa.Bk
open Go.RowKit Go.Proofs.Ytgodidoibcomcaa

set_option linter.unusedSimpArgs false in
set_option maxHeartbeats 16000000 in
set_option maxRecDepth 100000 in
theorem flat_TryN {w0 : World} {τ : Own} {w : World} {β : Book} {C : List Box} {U u v : Nat} {Ops : Option Addr → Nat → Nat → Prop} (E : Env w0 τ w (ents β.ar β.ps) [] C) (B : BookOk β C) (HP : ∀ p ∈ β.ps, PrOk p) (x : OpD) (hx : OpIn Ops w0 x u) (hL : Lim U β v) (hU : v + u ≤ U) (hU2 : U ≤ 1048576) (hkind : x.kind = 11) :
    Calls Try.prog 26 #[.pointer (some ⟨β.bk, 0, none⟩), .agg x.cells] w (FlatEnd w0 β C U (v + u) w) := by
  have hu := hx.weigh
  obtain ⟨kind, on, ra, rc, l, n, place, id, ia, inn, ic, say⟩ := x
  obtain ⟨hx, hcap, hok, hargs, hrk, hrn, hrp, hri, -⟩ := hx
  simp only at hx hok hargs hu hcap hrn hrp hri hkind
  subst hkind
  obtain ⟨L, hLl⟩ : ∃ L, l.length = L := ⟨_, rfl⟩
  have HLl := Lib.hid hLl
  rw [hLl] at hcap hu
  have hps := hL.ps
  have hmany := B.many
  have hpos := B.pos
  obtain ⟨N, hN⟩ : ∃ N, β.ps.length = N := ⟨_, rfl⟩
  rw [hN] at hps hmany hpos
  obtain ⟨W0, hW0⟩ : ∃ W, W = w.alloc (.cells (opCells 11 on (.slice ra L rc) n place id (.slice ia inn ic) say) 54) := ⟨_, rfl⟩
  obtain ⟨ob, hob⟩ : ∃ b, b = w.heap.size := ⟨_, rfl⟩
  have hb0 : Below w.heap.size w W0 := by rw [hW0]; exact (Below.refl _ _).alloc (Nat.le_refl _) _
  have hbw0 : Below w0.heap.size w0 W0 := E.below.trans (hb0.mono E.below.size)
  have HE0 := Lib.hid E
  have Hob0 : Hid (τ ob = none) := Lib.hid (E.fresh ob (by omega))
  have HX := Lib.hid hx
  have HO := Lib.hid hok
  have HA := Lib.hid hargs
  have HB := Lib.hid B
  have HPP := Lib.hid HP
  have HLm := Lib.hid hL
  have hl6 : L ≤ 1048576 := by omega
  obtain ⟨gS, cS, gR, cR, hvS, hvR, hLd⟩ := B.leads (E.stay hb0) (k := 0) (p := β.ps[0]'(by rw [hN]; exact hpos)) (List.getElem?_eq_getElem _)
  have s0 := hLd.s0
  rw [hN] at s0 hvS hvR
  have cOn := Lib.hid (on_any s0 hpos hmany 11 on ra L rc n place id ia inn ic say)
  have HN := Lib.hid hN
  have HvS := Lib.hid hvS
  have HvR := Lib.hid hvR
  have xall : ∀ (j : Nat) y, (opCells 11 on (.slice ra L rc) n place id (.slice ia inn ic) say)[j]? = some y → W0.cell? ⟨ob, j, none⟩ = some y := fun j y hy => by rw [hW0, hob]; simp [hy]
  have z0 : W0.cell? ⟨ob, 0, none⟩ = some (.int .i64 11) := xall 0 _ rfl
  have z1 : W0.cell? ⟨ob, 1, none⟩ = some (.int .i64 on) := xall 1 _ rfl
  have z2 : W0.cell? ⟨ob, 2, none⟩ = some (.slice ra L rc) := xall 2 _ rfl
  have z3 : W0.cell? ⟨ob, 3, none⟩ = some (.int .i64 n) := xall 3 _ rfl
  have z4 : W0.cell? ⟨ob, 4, none⟩ = some (.int .i64 place) := xall 4 _ rfl
  have z5 : W0.cell? ⟨ob, 5, none⟩ = some (.int .i64 id) := xall 5 _ rfl
  have z6 : W0.cell? ⟨ob, 6, none⟩ = some (.slice ia inn ic) := xall 6 _ rfl
  have z7 : W0.cell? ⟨ob, 7, none⟩ = some (.bool say) := xall 7 _ rfl
  unfold opCells at cOn hW0
  unfold OpD.cells opCells
  simp only
  rw [hLl]
  have HW0 := Lib.hid hW0
  have Hob := Lib.hid hob
  clear hLl hx hok hargs hL E B HP hvS hvR hN xall hW0 hob hLd s0
  go_enter Try.func26, Try.ntmps26
  go_upto_region 1 with fail
  rw [← HW0.out, ← Hob.out]
  go_upto_region 2 with (first | (go_at_call 50; with_reducible refine cOn.out.mono ?_; rintro e W1 ⟨k, hk, rfl, hb1⟩))
  have y0 := on_cell hb1 z0
  have y2 := on_cell hb1 z2
  have y3 := on_cell hb1 z3
  have y4 := on_cell hb1 z4
  have y5 := on_cell hb1 z5
  clear z0 z1 z2 z3 z4 z5 z6 z7 cOn
  go_upto_region 3 with fail
  obtain ⟨W2, hW2⟩ : ∃ W, W = W1.alloc (.cells #[.int .i64 (-1), .slice none 0 0] 28) := ⟨_, rfl⟩
  obtain ⟨fb, hfb⟩ : ∃ b, b = W1.heap.size := ⟨_, rfl⟩
  have hb2 : Below W1.heap.size W1 W2 := by rw [hW2]; exact (Below.refl _ _).alloc (Nat.le_refl _) _
  have f0 : W2.cell? ⟨fb, 0, none⟩ = some (.int .i64 (-1)) := by rw [hW2, hfb]; simp
  have f1 : W2.cell? ⟨fb, 1, none⟩ = some (.slice none 0 0) := by rw [hW2, hfb]; simp
  have ff0 : W2.frozen? ⟨fb, 0, none⟩ = false := by rw [hW2, hfb]; simp
  have ff1 : W2.frozen? ⟨fb, 1, none⟩ = false := by rw [hW2, hfb]; simp
  have hb02 : Below w.heap.size w W2 := (hb0.trans (hb1.mono hb0.size)).trans (hb2.mono (hb0.trans (hb1.mono hb0.size)).size)
  have hfw : w.heap.size ≤ fb := by rw [hfb]; exact (hb0.trans (hb1.mono hb0.size)).size
  have y0 := on_cell hb2 y0
  have y2 := on_cell hb2 y2
  have y3 := on_cell hb2 y3
  have y4 := on_cell hb2 y4
  have y5 := on_cell hb2 y5
  have hobf : ob ≠ fb := by
    have h1 : ob < W1.heap.size := World.block_lt_of_cell? _ _ (‹W1.cell? ⟨ob, 0, none⟩ = some _›)
    omega
  rw [← hW2, ← hfb]
  clear hW2 hfb
  go_upto_if 25 with fail
  go_cut [] (fun wx => ∃ (P : Int) (a : Option Addr) (c : Nat) (xs : List Int), Hid (Below w.heap.size w wx ∧ IntsZ (fun _ => True) wx a c xs ∧ RowOk (P, xs) ∧ xs.length ≤ 1048576) ∧ wx.cell? ⟨fb, 0, none⟩ = some (.int .i64 P) ∧ wx.cell? ⟨fb, 1, none⟩ = some (.slice a xs.length c) ∧ wx.cell? ⟨ob, 0, none⟩ = some (.int .i64 11) ∧ wx.cell? ⟨ob, 3, none⟩ = some (.int .i64 n) ∧ wx.cell? ⟨ob, 4, none⟩ = some (.int .i64 place) ∧ wx.cell? ⟨ob, 5, none⟩ = some (.int .i64 id))
  case first =>
    by_cases hl0 : l = []
    · subst hl0
      obtain rfl : L = 0 := by rw [← HLl.out]; rfl
      go_wp2_with fail
      go_meet
      exact ⟨-1, none, 0, [], Lib.hid ⟨hb02, ⟨.inl rfl, fun _ => ⟨rfl, rfl⟩⟩, ⟨⟨by simp, by simp⟩, by simp, fun x hx => by cases hx⟩, by simp⟩, f0, f1, y0, y3, y4, y5⟩
    · obtain ⟨r, l', rfl⟩ := List.exists_cons_of_ne_nil hl0
      have hd0 : 0 < L := by rw [← HLl.out]; simp
      have hd : decide (0 < L) = true := by rw [decide_eq_true_eq]; exact hd0
      have hc1 : 1 ≤ rc := by omega
      have hra := HA.out r (List.mem_cons_self ..)
      have hrk := HO.out r (List.mem_cons_self ..)
      have hW2 : Below w0.heap.size w0 W2 := HE0.out.below.trans (hb02.mono HE0.out.below.size)
      have cD : Hid (Calls Try.prog 40 #[.slice ra 1 rc] W2 fun e w' => ∃ v cs vs, e = .returned v ∧ DRows W2.heap.size w' v [r] cs vs ∧ Below W2.heap.size W2 w') := Lib.hid (drows_any ra rc [r] W2 ((RowsZ.head HX.out).below hW2 (Nat.le_refl _)) (fun q hq => by rw [List.mem_singleton] at hq; subst hq; omega) (by simp))
      have s2 := hb02.size
      go_wp2_with (first | (go_at_call 40; with_reducible refine cD.out.mono ?_; rintro e W3 ⟨vg, cs, vs, rfl, hD, hb3⟩; obtain ⟨g, cg, ga, gc, rfl, d0, d1, hI⟩ := hD.one; have y0' := on_cell hb3 y0; have y3' := on_cell hb3 y3; have y4' := on_cell hb3 y4; have y5' := on_cell hb3 y5; have f0' := on_cell hb3 f0; have f1' := on_cell hb3 f1; have ff0' := (hb3.frozen (p := ⟨fb, 0, none⟩) (World.block_lt_of_cell? _ _ f0)).trans ff0; have ff1' := (hb3.frozen (p := ⟨fb, 1, none⟩) (World.block_lt_of_cell? _ _ f1)).trans ff1))
      go_meet
      have hb23 := hb02.trans (hb3.mono s2)
      have hlt0 : ¬ fb < w.heap.size := by omega
      obtain ⟨e0, e1, far⟩ := set_two (v0 := .int .i64 r.1) (v1 := .slice ga r.2.length gc) f0' f1'
      have hfb2 := World.block_lt_of_cell? _ _ f0
      exact ⟨r.1, ga, gc, r.2, Lib.hid ⟨(hb23.setCell (p := ⟨fb, 0, none⟩) hfw _).setCell (p := ⟨fb, 1, none⟩) hfw _, hI.out.keep (fun j hj hz => (Below.heap_setCell _ _ _ j (fun e => by have hz : W2.heap.size ≤ j := hz; have e : j = fb := e; simp only at hfb2; omega)).trans (Below.heap_setCell _ _ _ j (fun e => by have hz : W2.heap.size ≤ j := hz; have e : j = fb := e; simp only at hfb2; omega))) (fun _ _ _ => trivial), hrk, hra⟩, e0, e1, far hobf y0', far hobf y3', far hobf y4', far hobf y5'⟩
  case rest =>
    obtain ⟨P, a, c, xs, HF, f0, f1, y0, y3, y4, y5⟩ := hcut
    have hbx := HF.out.1
    have HEx := Lib.hid (HE0.out.stay hbx)
    obtain ⟨p, hp⟩ : ∃ p, β.ps[k]? = some p := ⟨_, List.getElem?_eq_getElem (by rw [HN.out]; exact hk)⟩
    have HmS : Hid (stE β.ar k p ∈ ents β.ar β.ps) := Lib.hid (mem_ents.2 ⟨k, p, hp, .inl rfl⟩)
    have HmR : Hid (rfE β.ar k p ∈ ents β.ar β.ps) := Lib.hid (mem_ents.2 ⟨k, p, hp, .inr rfl⟩)
    have hlp := HLm.out.rs p (List.mem_of_getElem? hp)
    have hprv : p.rows.length ≤ v := by rw [show p.rows.length = p.rs.length from List.length_map _]; omega
    have hpr : p.rows.length ≤ 1048576 := by omega
    obtain ⟨gS, cS, gR, cR, hvS, hvR, hLd⟩ := HB.out.leads HEx.out hp
    have s0 := hLd.s0
    have s1 := hLd.s1
    have r0 := hLd.r0
    have r1 := hLd.r1
    rw [HN.out] at s0 r0
    have HvS := Lib.hid hvS
    have HvR := Lib.hid hvR
    have Hp := Lib.hid hp
    have sx := hbx.size
    clear hLd hvS hvR hp
    have cT := Lib.hid (try_nilf (sb := p.sb) (w := wc))
    go_wp2_with (first | (go_at_call 23; with_reducible refine cT.out.mono ?_; rintro e V ⟨rfl, hbf⟩))
    go_ret
    exact ⟨rfl, β, τ, C, Step.ofMore HE0.out HB.out (HEx.out.stay hbf) (fun x h => h) (Nat.le_trans sx hbf.size), BLater.refl HPP.out, HLm.out.mono (Nat.le_add_right _ _)⟩
end Go.Proofs.Ytgodidoibcomcaa.Bk

namespace Go.Proofs.Ytgodidoibcomcaa.Bk
open Go.RowKit Go.Proofs.Ytgodidoibcomcaa

set_option linter.unusedSimpArgs false in
set_option maxHeartbeats 16000000 in
set_option maxRecDepth 100000 in
theorem flat_EachN {w0 : World} {τ : Own} {w : World} {β : Book} {C : List Box} {U u v : Nat} {Ops : Option Addr → Nat → Nat → Prop} (E : Env w0 τ w (ents β.ar β.ps) [] C) (B : BookOk β C) (HP : ∀ p ∈ β.ps, PrOk p) (x : OpD) (hx : OpIn Ops w0 x u) (hL : Lim U β v) (hU : v + u ≤ U) (hU2 : U ≤ 1048576) (hkind : x.kind = 12) :
    Calls Try.prog 26 #[.pointer (some ⟨β.bk, 0, none⟩), .agg x.cells] w (FlatEnd w0 β C U (v + u) w) := by
  have hu := hx.weigh
  obtain ⟨kind, on, ra, rc, l, n, place, id, ia, inn, ic, say⟩ := x
  obtain ⟨hx, hcap, hok, hargs, hrk, hrn, hrp, hri, -⟩ := hx
  simp only at hx hok hargs hu hcap hrn hrp hri hkind
  subst hkind
  obtain ⟨L, hLl⟩ : ∃ L, l.length = L := ⟨_, rfl⟩
  have HLl := Lib.hid hLl
  rw [hLl] at hcap hu
  have hps := hL.ps
  have hmany := B.many
  have hpos := B.pos
  obtain ⟨N, hN⟩ : ∃ N, β.ps.length = N := ⟨_, rfl⟩
  rw [hN] at hps hmany hpos
  obtain ⟨W0, hW0⟩ : ∃ W, W = w.alloc (.cells (opCells 12 on (.slice ra L rc) n place id (.slice ia inn ic) say) 54) := ⟨_, rfl⟩
  obtain ⟨ob, hob⟩ : ∃ b, b = w.heap.size := ⟨_, rfl⟩
  have hb0 : Below w.heap.size w W0 := by rw [hW0]; exact (Below.refl _ _).alloc (Nat.le_refl _) _
  have hbw0 : Below w0.heap.size w0 W0 := E.below.trans (hb0.mono E.below.size)
  have HE0 := Lib.hid E
  have Hob0 : Hid (τ ob = none) := Lib.hid (E.fresh ob (by omega))
  have HX := Lib.hid hx
  have HO := Lib.hid hok
  have HA := Lib.hid hargs
  have HB := Lib.hid B
  have HPP := Lib.hid HP
  have HLm := Lib.hid hL
  have hl6 : L ≤ 1048576 := by omega
  obtain ⟨gS, cS, gR, cR, hvS, hvR, hLd⟩ := B.leads (E.stay hb0) (k := 0) (p := β.ps[0]'(by rw [hN]; exact hpos)) (List.getElem?_eq_getElem _)
  have s0 := hLd.s0
  rw [hN] at s0 hvS hvR
  have cOn := Lib.hid (on_any s0 hpos hmany 12 on ra L rc n place id ia inn ic say)
  have HN := Lib.hid hN
  have HvS := Lib.hid hvS
  have HvR := Lib.hid hvR
  have xall : ∀ (j : Nat) y, (opCells 12 on (.slice ra L rc) n place id (.slice ia inn ic) say)[j]? = some y → W0.cell? ⟨ob, j, none⟩ = some y := fun j y hy => by rw [hW0, hob]; simp [hy]
  have z0 : W0.cell? ⟨ob, 0, none⟩ = some (.int .i64 12) := xall 0 _ rfl
  have z1 : W0.cell? ⟨ob, 1, none⟩ = some (.int .i64 on) := xall 1 _ rfl
  have z2 : W0.cell? ⟨ob, 2, none⟩ = some (.slice ra L rc) := xall 2 _ rfl
  have z3 : W0.cell? ⟨ob, 3, none⟩ = some (.int .i64 n) := xall 3 _ rfl
  have z4 : W0.cell? ⟨ob, 4, none⟩ = some (.int .i64 place) := xall 4 _ rfl
  have z5 : W0.cell? ⟨ob, 5, none⟩ = some (.int .i64 id) := xall 5 _ rfl
  have z6 : W0.cell? ⟨ob, 6, none⟩ = some (.slice ia inn ic) := xall 6 _ rfl
  have z7 : W0.cell? ⟨ob, 7, none⟩ = some (.bool say) := xall 7 _ rfl
  unfold opCells at cOn hW0
  unfold OpD.cells opCells
  simp only
  rw [hLl]
  have HW0 := Lib.hid hW0
  have Hob := Lib.hid hob
  clear hLl hx hok hargs hL E B HP hvS hvR hN xall hW0 hob hLd s0
  go_enter Try.func26, Try.ntmps26
  go_upto_region 1 with fail
  rw [← HW0.out, ← Hob.out]
  go_upto_region 2 with (first | (go_at_call 50; with_reducible refine cOn.out.mono ?_; rintro e W1 ⟨k, hk, rfl, hb1⟩))
  have y0 := on_cell hb1 z0
  have y2 := on_cell hb1 z2
  have y3 := on_cell hb1 z3
  have y4 := on_cell hb1 z4
  have y5 := on_cell hb1 z5
  clear z0 z1 z2 z3 z4 z5 z6 z7 cOn
  go_upto_region 3 with fail
  obtain ⟨W2, hW2⟩ : ∃ W, W = W1.alloc (.cells #[.int .i64 (-1), .slice none 0 0] 28) := ⟨_, rfl⟩
  obtain ⟨fb, hfb⟩ : ∃ b, b = W1.heap.size := ⟨_, rfl⟩
  have hb2 : Below W1.heap.size W1 W2 := by rw [hW2]; exact (Below.refl _ _).alloc (Nat.le_refl _) _
  have f0 : W2.cell? ⟨fb, 0, none⟩ = some (.int .i64 (-1)) := by rw [hW2, hfb]; simp
  have f1 : W2.cell? ⟨fb, 1, none⟩ = some (.slice none 0 0) := by rw [hW2, hfb]; simp
  have ff0 : W2.frozen? ⟨fb, 0, none⟩ = false := by rw [hW2, hfb]; simp
  have ff1 : W2.frozen? ⟨fb, 1, none⟩ = false := by rw [hW2, hfb]; simp
  have hb02 : Below w.heap.size w W2 := (hb0.trans (hb1.mono hb0.size)).trans (hb2.mono (hb0.trans (hb1.mono hb0.size)).size)
  have hfw : w.heap.size ≤ fb := by rw [hfb]; exact (hb0.trans (hb1.mono hb0.size)).size
  have y0 := on_cell hb2 y0
  have y2 := on_cell hb2 y2
  have y3 := on_cell hb2 y3
  have y4 := on_cell hb2 y4
  have y5 := on_cell hb2 y5
  have hobf : ob ≠ fb := by
    have h1 : ob < W1.heap.size := World.block_lt_of_cell? _ _ (‹W1.cell? ⟨ob, 0, none⟩ = some _›)
    omega
  rw [← hW2, ← hfb]
  clear hW2 hfb
  go_upto_if 25 with fail
  go_cut [] (fun wx => ∃ (P : Int) (a : Option Addr) (c : Nat) (xs : List Int), Hid (Below w.heap.size w wx ∧ IntsZ (fun _ => True) wx a c xs ∧ RowOk (P, xs) ∧ xs.length ≤ 1048576) ∧ wx.cell? ⟨fb, 0, none⟩ = some (.int .i64 P) ∧ wx.cell? ⟨fb, 1, none⟩ = some (.slice a xs.length c) ∧ wx.cell? ⟨ob, 0, none⟩ = some (.int .i64 12) ∧ wx.cell? ⟨ob, 3, none⟩ = some (.int .i64 n) ∧ wx.cell? ⟨ob, 4, none⟩ = some (.int .i64 place) ∧ wx.cell? ⟨ob, 5, none⟩ = some (.int .i64 id))
  case first =>
    by_cases hl0 : l = []
    · subst hl0
      obtain rfl : L = 0 := by rw [← HLl.out]; rfl
      go_wp2_with fail
      go_meet
      exact ⟨-1, none, 0, [], Lib.hid ⟨hb02, ⟨.inl rfl, fun _ => ⟨rfl, rfl⟩⟩, ⟨⟨by simp, by simp⟩, by simp, fun x hx => by cases hx⟩, by simp⟩, f0, f1, y0, y3, y4, y5⟩
    · obtain ⟨r, l', rfl⟩ := List.exists_cons_of_ne_nil hl0
      have hd0 : 0 < L := by rw [← HLl.out]; simp
      have hd : decide (0 < L) = true := by rw [decide_eq_true_eq]; exact hd0
      have hc1 : 1 ≤ rc := by omega
      have hra := HA.out r (List.mem_cons_self ..)
      have hrk := HO.out r (List.mem_cons_self ..)
      have hW2 : Below w0.heap.size w0 W2 := HE0.out.below.trans (hb02.mono HE0.out.below.size)
      have cD : Hid (Calls Try.prog 40 #[.slice ra 1 rc] W2 fun e w' => ∃ v cs vs, e = .returned v ∧ DRows W2.heap.size w' v [r] cs vs ∧ Below W2.heap.size W2 w') := Lib.hid (drows_any ra rc [r] W2 ((RowsZ.head HX.out).below hW2 (Nat.le_refl _)) (fun q hq => by rw [List.mem_singleton] at hq; subst hq; omega) (by simp))
      have s2 := hb02.size
      go_wp2_with (first | (go_at_call 40; with_reducible refine cD.out.mono ?_; rintro e W3 ⟨vg, cs, vs, rfl, hD, hb3⟩; obtain ⟨g, cg, ga, gc, rfl, d0, d1, hI⟩ := hD.one; have y0' := on_cell hb3 y0; have y3' := on_cell hb3 y3; have y4' := on_cell hb3 y4; have y5' := on_cell hb3 y5; have f0' := on_cell hb3 f0; have f1' := on_cell hb3 f1; have ff0' := (hb3.frozen (p := ⟨fb, 0, none⟩) (World.block_lt_of_cell? _ _ f0)).trans ff0; have ff1' := (hb3.frozen (p := ⟨fb, 1, none⟩) (World.block_lt_of_cell? _ _ f1)).trans ff1))
      go_meet
      have hb23 := hb02.trans (hb3.mono s2)
      have hlt0 : ¬ fb < w.heap.size := by omega
      obtain ⟨e0, e1, far⟩ := set_two (v0 := .int .i64 r.1) (v1 := .slice ga r.2.length gc) f0' f1'
      have hfb2 := World.block_lt_of_cell? _ _ f0
      exact ⟨r.1, ga, gc, r.2, Lib.hid ⟨(hb23.setCell (p := ⟨fb, 0, none⟩) hfw _).setCell (p := ⟨fb, 1, none⟩) hfw _, hI.out.keep (fun j hj hz => (Below.heap_setCell _ _ _ j (fun e => by have hz : W2.heap.size ≤ j := hz; have e : j = fb := e; simp only at hfb2; omega)).trans (Below.heap_setCell _ _ _ j (fun e => by have hz : W2.heap.size ≤ j := hz; have e : j = fb := e; simp only at hfb2; omega))) (fun _ _ _ => trivial), hrk, hra⟩, e0, e1, far hobf y0', far hobf y3', far hobf y4', far hobf y5'⟩
  case rest =>
    obtain ⟨P, a, c, xs, HF, f0, f1, y0, y3, y4, y5⟩ := hcut
    have hbx := HF.out.1
    have HEx := Lib.hid (HE0.out.stay hbx)
    obtain ⟨p, hp⟩ : ∃ p, β.ps[k]? = some p := ⟨_, List.getElem?_eq_getElem (by rw [HN.out]; exact hk)⟩
    have HmS : Hid (stE β.ar k p ∈ ents β.ar β.ps) := Lib.hid (mem_ents.2 ⟨k, p, hp, .inl rfl⟩)
    have HmR : Hid (rfE β.ar k p ∈ ents β.ar β.ps) := Lib.hid (mem_ents.2 ⟨k, p, hp, .inr rfl⟩)
    have hlp := HLm.out.rs p (List.mem_of_getElem? hp)
    have hprv : p.rows.length ≤ v := by rw [show p.rows.length = p.rs.length from List.length_map _]; omega
    have hpr : p.rows.length ≤ 1048576 := by omega
    obtain ⟨gS, cS, gR, cR, hvS, hvR, hLd⟩ := HB.out.leads HEx.out hp
    have s0 := hLd.s0
    have s1 := hLd.s1
    have r0 := hLd.r0
    have r1 := hLd.r1
    rw [HN.out] at s0 r0
    have HvS := Lib.hid hvS
    have HvR := Lib.hid hvR
    have Hp := Lib.hid hp
    have sx := hbx.size
    clear hLd hvS hvR hp
    have cT := Lib.hid (each_nilf (sb := p.sb) (w := wc.drew) n)
    go_wp2_with fail
    go_region_held3 (fun w' => w'.cell? ⟨β.bk, 0, none⟩ = some (.slice (some ⟨gS, 0, none⟩) N cS) ∧ w'.cell? ⟨gS, k, none⟩ = some (.pointer (some ⟨p.sb, 0, none⟩)) ∧ w'.cell? ⟨ob, 3, none⟩ = some (.int .i64 n)) (first | assumption | exact ⟨s0, s1, y3⟩ | go_keep) (first
      | (go_at_call 32
         with_reducible refine cT.out.mono ?_
         rintro e v5 ⟨rfl, rfl⟩))
    all_goals
      go_wp2_with fail
      go_ret
      exact ⟨rfl, β, τ, C, Step.ofMore HE0.out HB.out (HEx.out.stay (Below.refl _ _).drew) (fun x h => h) (Nat.le_trans sx (Nat.le_refl _)), BLater.refl HPP.out, HLm.out.mono (Nat.le_add_right _ _)⟩
end Go.Proofs.Ytgodidoibcomcaa.Bk

namespace Go.Proofs.Ytgodidoibcomcaa.Bk
open Go.RowKit Go.Proofs.Ytgodidoibcomcaa

set_option linter.unusedSimpArgs false in
set_option maxHeartbeats 16000000 in
set_option maxRecDepth 100000 in
theorem flat_Add {w0 : World} {τ : Own} {w : World} {β : Book} {C : List Box} {U u v : Nat} {Ops : Option Addr → Nat → Nat → Prop} (E : Env w0 τ w (ents β.ar β.ps) [] C) (B : BookOk β C) (HP : ∀ p ∈ β.ps, PrOk p) (x : OpD) (hx : OpIn Ops w0 x u) (hL : Lim U β v) (hU : v + u ≤ U) (hU2 : U ≤ 1048576) (hkind : x.kind = 0) :
    Calls Try.prog 26 #[.pointer (some ⟨β.bk, 0, none⟩), .agg x.cells] w (FlatEnd w0 β C U (v + u) w) := by
  have hu := hx.weigh
  obtain ⟨kind, on, ra, rc, l, n, place, id, ia, inn, ic, say⟩ := x
  obtain ⟨hx, hcap, hok, hargs, hrk, hrn, hrp, hri, -⟩ := hx
  simp only at hx hok hargs hu hcap hrn hrp hri hkind
  subst hkind
  obtain ⟨L, hLl⟩ : ∃ L, l.length = L := ⟨_, rfl⟩
  have HLl := Lib.hid hLl
  rw [hLl] at hcap hu
  have hps := hL.ps
  have hmany := B.many
  have hpos := B.pos
  obtain ⟨N, hN⟩ : ∃ N, β.ps.length = N := ⟨_, rfl⟩
  rw [hN] at hps hmany hpos
  obtain ⟨W0, hW0⟩ : ∃ W, W = w.alloc (.cells (opCells 0 on (.slice ra L rc) n place id (.slice ia inn ic) say) 54) := ⟨_, rfl⟩
  obtain ⟨ob, hob⟩ : ∃ b, b = w.heap.size := ⟨_, rfl⟩
  have hb0 : Below w.heap.size w W0 := by rw [hW0]; exact (Below.refl _ _).alloc (Nat.le_refl _) _
  have hbw0 : Below w0.heap.size w0 W0 := E.below.trans (hb0.mono E.below.size)
  have HE0 := Lib.hid E
  have Hob0 : Hid (τ ob = none) := Lib.hid (E.fresh ob (by omega))
  have HX := Lib.hid hx
  have HO := Lib.hid hok
  have HA := Lib.hid hargs
  have HB := Lib.hid B
  have HPP := Lib.hid HP
  have HLm := Lib.hid hL
  have hl6 : L ≤ 1048576 := by omega
  obtain ⟨gS, cS, gR, cR, hvS, hvR, hLd⟩ := B.leads (E.stay hb0) (k := 0) (p := β.ps[0]'(by rw [hN]; exact hpos)) (List.getElem?_eq_getElem _)
  have s0 := hLd.s0
  rw [hN] at s0 hvS hvR
  have cOn := Lib.hid (on_any s0 hpos hmany 0 on ra L rc n place id ia inn ic say)
  have HN := Lib.hid hN
  have HvS := Lib.hid hvS
  have HvR := Lib.hid hvR
  have xall : ∀ (j : Nat) y, (opCells 0 on (.slice ra L rc) n place id (.slice ia inn ic) say)[j]? = some y → W0.cell? ⟨ob, j, none⟩ = some y := fun j y hy => by rw [hW0, hob]; simp [hy]
  have z0 : W0.cell? ⟨ob, 0, none⟩ = some (.int .i64 0) := xall 0 _ rfl
  have z1 : W0.cell? ⟨ob, 1, none⟩ = some (.int .i64 on) := xall 1 _ rfl
  have z2 : W0.cell? ⟨ob, 2, none⟩ = some (.slice ra L rc) := xall 2 _ rfl
  have z3 : W0.cell? ⟨ob, 3, none⟩ = some (.int .i64 n) := xall 3 _ rfl
  have z4 : W0.cell? ⟨ob, 4, none⟩ = some (.int .i64 place) := xall 4 _ rfl
  have z5 : W0.cell? ⟨ob, 5, none⟩ = some (.int .i64 id) := xall 5 _ rfl
  have z6 : W0.cell? ⟨ob, 6, none⟩ = some (.slice ia inn ic) := xall 6 _ rfl
  have z7 : W0.cell? ⟨ob, 7, none⟩ = some (.bool say) := xall 7 _ rfl
  unfold opCells at cOn hW0
  unfold OpD.cells opCells
  simp only
  rw [hLl]
  have HW0 := Lib.hid hW0
  have Hob := Lib.hid hob
  clear hLl hx hok hargs hL E B HP hvS hvR hN xall hW0 hob hLd s0
  go_enter Try.func26, Try.ntmps26
  go_upto_region 1 with fail
  rw [← HW0.out, ← Hob.out]
  go_upto_region 2 with (first | (go_at_call 50; with_reducible refine cOn.out.mono ?_; rintro e W1 ⟨k, hk, rfl, hb1⟩))
  have y0 := on_cell hb1 z0
  have y2 := on_cell hb1 z2
  have y1 := on_cell hb1 z1
  have y6 := on_cell hb1 z6
  have y7 := on_cell hb1 z7
  have y3 := on_cell hb1 z3
  have y4 := on_cell hb1 z4
  have y5 := on_cell hb1 z5
  clear z0 z1 z2 z3 z4 z5 z6 z7 cOn
  go_upto_region 3 with fail
  obtain ⟨W2, hW2⟩ : ∃ W, W = W1.alloc (.cells #[.int .i64 (-1), .slice none 0 0] 28) := ⟨_, rfl⟩
  obtain ⟨fb, hfb⟩ : ∃ b, b = W1.heap.size := ⟨_, rfl⟩
  have hb2 : Below W1.heap.size W1 W2 := by rw [hW2]; exact (Below.refl _ _).alloc (Nat.le_refl _) _
  have f0 : W2.cell? ⟨fb, 0, none⟩ = some (.int .i64 (-1)) := by rw [hW2, hfb]; simp
  have f1 : W2.cell? ⟨fb, 1, none⟩ = some (.slice none 0 0) := by rw [hW2, hfb]; simp
  have ff0 : W2.frozen? ⟨fb, 0, none⟩ = false := by rw [hW2, hfb]; simp
  have ff1 : W2.frozen? ⟨fb, 1, none⟩ = false := by rw [hW2, hfb]; simp
  have hb02 : Below w.heap.size w W2 := (hb0.trans (hb1.mono hb0.size)).trans (hb2.mono (hb0.trans (hb1.mono hb0.size)).size)
  have hfw : w.heap.size ≤ fb := by rw [hfb]; exact (hb0.trans (hb1.mono hb0.size)).size
  have y0 := on_cell hb2 y0
  have y2 := on_cell hb2 y2
  have y1 := on_cell hb2 y1
  have y6 := on_cell hb2 y6
  have y7 := on_cell hb2 y7
  have y3 := on_cell hb2 y3
  have y4 := on_cell hb2 y4
  have y5 := on_cell hb2 y5
  have hobf : ob ≠ fb := by
    have h1 : ob < W1.heap.size := World.block_lt_of_cell? _ _ (‹W1.cell? ⟨ob, 0, none⟩ = some _›)
    omega
  rw [← hW2, ← hfb]
  clear hW2 hfb
  go_upto_if 25 with fail
  go_cut [] (fun wx => ∃ (P : Int) (a : Option Addr) (c : Nat) (xs : List Int), Hid (Below w.heap.size w wx ∧ IntsZ (fun _ => True) wx a c xs ∧ RowOk (P, xs) ∧ xs.length ≤ 1048576) ∧ wx.cell? ⟨fb, 0, none⟩ = some (.int .i64 P) ∧ wx.cell? ⟨fb, 1, none⟩ = some (.slice a xs.length c) ∧ wx.cell? ⟨ob, 0, none⟩ = some (.int .i64 0) ∧ wx.cell? ⟨ob, 3, none⟩ = some (.int .i64 n) ∧ wx.cell? ⟨ob, 4, none⟩ = some (.int .i64 place) ∧ wx.cell? ⟨ob, 5, none⟩ = some (.int .i64 id) ∧ wx.cell? ⟨ob, 1, none⟩ = some (.int .i64 on) ∧ wx.cell? ⟨ob, 2, none⟩ = some (.slice ra L rc) ∧ wx.cell? ⟨ob, 6, none⟩ = some (.slice ia inn ic) ∧ wx.cell? ⟨ob, 7, none⟩ = some (.bool say))
  case first =>
    by_cases hl0 : l = []
    · subst hl0
      obtain rfl : L = 0 := by rw [← HLl.out]; rfl
      go_wp2_with fail
      go_meet
      exact ⟨-1, none, 0, [], Lib.hid ⟨hb02, ⟨.inl rfl, fun _ => ⟨rfl, rfl⟩⟩, ⟨⟨by simp, by simp⟩, by simp, fun x hx => by cases hx⟩, by simp⟩, f0, f1, y0, y3, y4, y5, y1, y2, y6, y7⟩
    · obtain ⟨r, l', rfl⟩ := List.exists_cons_of_ne_nil hl0
      have hd0 : 0 < L := by rw [← HLl.out]; simp
      have hd : decide (0 < L) = true := by rw [decide_eq_true_eq]; exact hd0
      have hc1 : 1 ≤ rc := by omega
      have hra := HA.out r (List.mem_cons_self ..)
      have hrk := HO.out r (List.mem_cons_self ..)
      have hW2 : Below w0.heap.size w0 W2 := HE0.out.below.trans (hb02.mono HE0.out.below.size)
      have cD : Hid (Calls Try.prog 40 #[.slice ra 1 rc] W2 fun e w' => ∃ v cs vs, e = .returned v ∧ DRows W2.heap.size w' v [r] cs vs ∧ Below W2.heap.size W2 w') := Lib.hid (drows_any ra rc [r] W2 ((RowsZ.head HX.out).below hW2 (Nat.le_refl _)) (fun q hq => by rw [List.mem_singleton] at hq; subst hq; omega) (by simp))
      have s2 := hb02.size
      go_wp2_with (first | (go_at_call 40; with_reducible refine cD.out.mono ?_; rintro e W3 ⟨vg, cs, vs, rfl, hD, hb3⟩; obtain ⟨g, cg, ga, gc, rfl, d0, d1, hI⟩ := hD.one; have y0' := on_cell hb3 y0; have y3' := on_cell hb3 y3; have y4' := on_cell hb3 y4; have y5' := on_cell hb3 y5; have y1' := on_cell hb3 y1; have y2' := on_cell hb3 y2; have y6' := on_cell hb3 y6; have y7' := on_cell hb3 y7; have f0' := on_cell hb3 f0; have f1' := on_cell hb3 f1; have ff0' := (hb3.frozen (p := ⟨fb, 0, none⟩) (World.block_lt_of_cell? _ _ f0)).trans ff0; have ff1' := (hb3.frozen (p := ⟨fb, 1, none⟩) (World.block_lt_of_cell? _ _ f1)).trans ff1))
      go_meet
      have hb23 := hb02.trans (hb3.mono s2)
      have hlt0 : ¬ fb < w.heap.size := by omega
      obtain ⟨e0, e1, far⟩ := set_two (v0 := .int .i64 r.1) (v1 := .slice ga r.2.length gc) f0' f1'
      have hfb2 := World.block_lt_of_cell? _ _ f0
      exact ⟨r.1, ga, gc, r.2, Lib.hid ⟨(hb23.setCell (p := ⟨fb, 0, none⟩) hfw _).setCell (p := ⟨fb, 1, none⟩) hfw _, hI.out.keep (fun j hj hz => (Below.heap_setCell _ _ _ j (fun e => by have hz : W2.heap.size ≤ j := hz; have e : j = fb := e; simp only at hfb2; omega)).trans (Below.heap_setCell _ _ _ j (fun e => by have hz : W2.heap.size ≤ j := hz; have e : j = fb := e; simp only at hfb2; omega))) (fun _ _ _ => trivial), hrk, hra⟩, e0, e1, far hobf y0', far hobf y3', far hobf y4', far hobf y5', far hobf y1', far hobf y2', far hobf y6', far hobf y7'⟩
  case rest =>
    obtain ⟨P, a, c, xs, HF, f0, f1, y0, y3, y4, y5, y1, y2, y6, y7⟩ := hcut
    have hbx := HF.out.1
    have HEx := Lib.hid (HE0.out.stay hbx)
    obtain ⟨p, hp⟩ : ∃ p, β.ps[k]? = some p := ⟨_, List.getElem?_eq_getElem (by rw [HN.out]; exact hk)⟩
    have HmS : Hid (stE β.ar k p ∈ ents β.ar β.ps) := Lib.hid (mem_ents.2 ⟨k, p, hp, .inl rfl⟩)
    have HmR : Hid (rfE β.ar k p ∈ ents β.ar β.ps) := Lib.hid (mem_ents.2 ⟨k, p, hp, .inr rfl⟩)
    have hlp := HLm.out.rs p (List.mem_of_getElem? hp)
    have hprv : p.rows.length ≤ v := by rw [show p.rows.length = p.rs.length from List.length_map _]; omega
    have hpr : p.rows.length ≤ 1048576 := by omega
    obtain ⟨gS, cS, gR, cR, hvS, hvR, hLd⟩ := HB.out.leads HEx.out hp
    have s0 := hLd.s0
    have s1 := hLd.s1
    have r0 := hLd.r0
    have r1 := hLd.r1
    rw [HN.out] at s0 r0
    have HvS := Lib.hid hvS
    have HvR := Lib.hid hvR
    have Hp := Lib.hid hp
    have sx := hbx.size
    clear hLd hvS hvR hp
    have cAdd := add_any HEx.out HB.out HPP.out (⟨0, on, ra, rc, l, n, place, id, ia, inn, ic, say⟩ : OpD) HX.out HO.out HA.out HLm.out (by show l.length + 8 ≤ u; rw [HLl.out]; exact hu) hU hU2
    unfold OpD.cells opCells at cAdd
    simp only at cAdd
    rw [HLl.out] at cAdd
    have HAdd := Lib.hid cAdd
    clear cAdd
    go_wp2_with (first | (go_at_call 51; (with_reducible refine HAdd.out.mono ?_); rintro e V ⟨rfl, β', τ', C', ST, hl, hlim⟩))
    go_ret
    exact ⟨rfl, β', τ', C', ST.less (fun _ h => h) sx, hl, hlim⟩
end Go.Proofs.Ytgodidoibcomcaa.Bk
