/-
  The book of StoreScript, StoreTries, StoreEach: several of its texts in one.
-/
import Derived.Test.YtgodidoibcomcaaK3
namespace Go.Proofs.Ytgodidoibcomcaa.Bk
open Go.RowKit Go.Proofs.Ytgodidoibcomcaa

set_option linter.unusedSimpArgs false in
set_option maxHeartbeats 16000000 in
set_option maxRecDepth 100000 in
theorem flat_Where {w0 : World} {τ : Own} {w : World} {β : Book} {C : List Box} {U u v : Nat} {Ops : Option Addr → Nat → Nat → Prop} (E : Env w0 τ w (ents β.ar β.ps) [] C) (B : BookOk β C) (HP : ∀ p ∈ β.ps, PrOk p) (x : OpD) (hx : OpIn Ops w0 x u) (hL : Lim U β v) (hU : v + u ≤ U) (hU2 : U ≤ 1048576) (hkind : x.kind = 6) :
    Calls Try.prog 26 #[.pointer (some ⟨β.bk, 0, none⟩), .agg x.cells] w (FlatEnd w0 β C U (v + u) w) := by
  have hu := hx.weigh
  obtain ⟨kind, on, ra, rc, l, n, place, id, ia, inn, ic, say⟩ := x
  obtain ⟨hx, hcap, hok, hargs, hrk, hrn, hrp, hri, -⟩ := hx
  simp only at hx hok hargs hu hcap hrn hrp hri hkind
  subst hkind
  obtain ⟨L, hLl⟩ : ∃ L, l.length = L := ⟨_, rfl⟩
  have HLl := Lib.hid hLl
  rw [hLl] at hcap hu
  have hps := hL.ps
  have hmany := B.many
  have hpos := B.pos
  obtain ⟨N, hN⟩ : ∃ N, β.ps.length = N := ⟨_, rfl⟩
  rw [hN] at hps hmany hpos
  obtain ⟨W0, hW0⟩ : ∃ W, W = w.alloc (.cells (opCells 6 on (.slice ra L rc) n place id (.slice ia inn ic) say) 54) := ⟨_, rfl⟩
  obtain ⟨ob, hob⟩ : ∃ b, b = w.heap.size := ⟨_, rfl⟩
  have hb0 : Below w.heap.size w W0 := by rw [hW0]; exact (Below.refl _ _).alloc (Nat.le_refl _) _
  have hbw0 : Below w0.heap.size w0 W0 := E.below.trans (hb0.mono E.below.size)
  have HE0 := Lib.hid E
  have Hob0 : Hid (τ ob = none) := Lib.hid (E.fresh ob (by omega))
  have HX := Lib.hid hx
  have HO := Lib.hid hok
  have HA := Lib.hid hargs
  have HB := Lib.hid B
  have HPP := Lib.hid HP
  have HLm := Lib.hid hL
  have hl6 : L ≤ 1048576 := by omega
  obtain ⟨gS, cS, gR, cR, hvS, hvR, hLd⟩ := B.leads (E.stay hb0) (k := 0) (p := β.ps[0]'(by rw [hN]; exact hpos)) (List.getElem?_eq_getElem _)
  have s0 := hLd.s0
  rw [hN] at s0 hvS hvR
  have cOn := Lib.hid (on_any s0 hpos hmany 6 on ra L rc n place id ia inn ic say)
  have HN := Lib.hid hN
  have HvS := Lib.hid hvS
  have HvR := Lib.hid hvR
  have xall : ∀ (j : Nat) y, (opCells 6 on (.slice ra L rc) n place id (.slice ia inn ic) say)[j]? = some y → W0.cell? ⟨ob, j, none⟩ = some y := fun j y hy => by rw [hW0, hob]; simp [hy]
  have z0 : W0.cell? ⟨ob, 0, none⟩ = some (.int .i64 6) := xall 0 _ rfl
  have z1 : W0.cell? ⟨ob, 1, none⟩ = some (.int .i64 on) := xall 1 _ rfl
  have z2 : W0.cell? ⟨ob, 2, none⟩ = some (.slice ra L rc) := xall 2 _ rfl
  have z3 : W0.cell? ⟨ob, 3, none⟩ = some (.int .i64 n) := xall 3 _ rfl
  have z4 : W0.cell? ⟨ob, 4, none⟩ = some (.int .i64 place) := xall 4 _ rfl
  have z5 : W0.cell? ⟨ob, 5, none⟩ = some (.int .i64 id) := xall 5 _ rfl
  have z6 : W0.cell? ⟨ob, 6, none⟩ = some (.slice ia inn ic) := xall 6 _ rfl
  have z7 : W0.cell? ⟨ob, 7, none⟩ = some (.bool say) := xall 7 _ rfl
  unfold opCells at cOn hW0
  unfold OpD.cells opCells
  simp only
  rw [hLl]
  have HW0 := Lib.hid hW0
  have Hob := Lib.hid hob
  clear hLl hx hok hargs hL E B HP hvS hvR hN xall hW0 hob hLd s0
  go_enter Try.func26, Try.ntmps26
  go_upto_region 1 with fail
  rw [← HW0.out, ← Hob.out]
  go_upto_region 2 with (first | (go_at_call 50; with_reducible refine cOn.out.mono ?_; rintro e W1 ⟨k, hk, rfl, hb1⟩))
  have y0 := on_cell hb1 z0
  have y2 := on_cell hb1 z2
  have y3 := on_cell hb1 z3
  have y4 := on_cell hb1 z4
  have y5 := on_cell hb1 z5
  clear z0 z1 z2 z3 z4 z5 z6 z7 cOn
  go_upto_region 3 with fail
  obtain ⟨W2, hW2⟩ : ∃ W, W = W1.alloc (.cells #[.int .i64 (-1), .slice none 0 0] 28) := ⟨_, rfl⟩
  obtain ⟨fb, hfb⟩ : ∃ b, b = W1.heap.size := ⟨_, rfl⟩
  have hb2 : Below W1.heap.size W1 W2 := by rw [hW2]; exact (Below.refl _ _).alloc (Nat.le_refl _) _
  have f0 : W2.cell? ⟨fb, 0, none⟩ = some (.int .i64 (-1)) := by rw [hW2, hfb]; simp
  have f1 : W2.cell? ⟨fb, 1, none⟩ = some (.slice none 0 0) := by rw [hW2, hfb]; simp
  have ff0 : W2.frozen? ⟨fb, 0, none⟩ = false := by rw [hW2, hfb]; simp
  have ff1 : W2.frozen? ⟨fb, 1, none⟩ = false := by rw [hW2, hfb]; simp
  have hb02 : Below w.heap.size w W2 := (hb0.trans (hb1.mono hb0.size)).trans (hb2.mono (hb0.trans (hb1.mono hb0.size)).size)
  have hfw : w.heap.size ≤ fb := by rw [hfb]; exact (hb0.trans (hb1.mono hb0.size)).size
  have y0 := on_cell hb2 y0
  have y2 := on_cell hb2 y2
  have y3 := on_cell hb2 y3
  have y4 := on_cell hb2 y4
  have y5 := on_cell hb2 y5
  have hobf : ob ≠ fb := by
    have h1 : ob < W1.heap.size := World.block_lt_of_cell? _ _ (‹W1.cell? ⟨ob, 0, none⟩ = some _›)
    omega
  rw [← hW2, ← hfb]
  clear hW2 hfb
  go_upto_if 25 with fail
  go_cut [] (fun wx => ∃ (P : Int) (a : Option Addr) (c : Nat) (xs : List Int), Hid (Below w.heap.size w wx ∧ IntsZ (fun _ => True) wx a c xs ∧ RowOk (P, xs) ∧ xs.length ≤ 1048576) ∧ wx.cell? ⟨fb, 0, none⟩ = some (.int .i64 P) ∧ wx.cell? ⟨fb, 1, none⟩ = some (.slice a xs.length c) ∧ wx.cell? ⟨ob, 0, none⟩ = some (.int .i64 6) ∧ wx.cell? ⟨ob, 3, none⟩ = some (.int .i64 n) ∧ wx.cell? ⟨ob, 4, none⟩ = some (.int .i64 place) ∧ wx.cell? ⟨ob, 5, none⟩ = some (.int .i64 id))
  case first =>
    as_aux_lemma =>
      by_cases hl0 : l = []
      · subst hl0
        obtain rfl : L = 0 := by rw [← HLl.out]; rfl
        go_wp2_with fail
        go_meet
        exact ⟨-1, none, 0, [], Lib.hid ⟨hb02, ⟨.inl rfl, fun _ => ⟨rfl, rfl⟩⟩, ⟨⟨by simp, by simp⟩, by simp, fun x hx => by cases hx⟩, by simp⟩, f0, f1, y0, y3, y4, y5⟩
      · obtain ⟨r, l', rfl⟩ := List.exists_cons_of_ne_nil hl0
        have hd0 : 0 < L := by rw [← HLl.out]; simp
        have hd : decide (0 < L) = true := by rw [decide_eq_true_eq]; exact hd0
        have hc1 : 1 ≤ rc := by omega
        have hra := HA.out r (List.mem_cons_self ..)
        have hrk := HO.out r (List.mem_cons_self ..)
        have hW2 : Below w0.heap.size w0 W2 := HE0.out.below.trans (hb02.mono HE0.out.below.size)
        have cD : Hid (Calls Try.prog 40 #[.slice ra 1 rc] W2 fun e w' => ∃ v cs vs, e = .returned v ∧ DRows W2.heap.size w' v [r] cs vs ∧ Below W2.heap.size W2 w') := Lib.hid (drows_any ra rc [r] W2 ((RowsZ.head HX.out).below hW2 (Nat.le_refl _)) (fun q hq => by rw [List.mem_singleton] at hq; subst hq; omega) (by simp))
        have s2 := hb02.size
        go_wp2_with (first | (go_at_call 40; with_reducible refine cD.out.mono ?_; rintro e W3 ⟨vg, cs, vs, rfl, hD, hb3⟩; obtain ⟨g, cg, ga, gc, rfl, d0, d1, hI⟩ := hD.one; have y0' := on_cell hb3 y0; have y3' := on_cell hb3 y3; have y4' := on_cell hb3 y4; have y5' := on_cell hb3 y5; have f0' := on_cell hb3 f0; have f1' := on_cell hb3 f1; have ff0' := (hb3.frozen (p := ⟨fb, 0, none⟩) (World.block_lt_of_cell? _ _ f0)).trans ff0; have ff1' := (hb3.frozen (p := ⟨fb, 1, none⟩) (World.block_lt_of_cell? _ _ f1)).trans ff1))
        go_meet
        have hb23 := hb02.trans (hb3.mono s2)
        have hlt0 : ¬ fb < w.heap.size := by omega
        obtain ⟨e0, e1, far⟩ := set_two (v0 := .int .i64 r.1) (v1 := .slice ga r.2.length gc) f0' f1'
        have hfb2 := World.block_lt_of_cell? _ _ f0
        exact ⟨r.1, ga, gc, r.2, Lib.hid ⟨(hb23.setCell (p := ⟨fb, 0, none⟩) hfw _).setCell (p := ⟨fb, 1, none⟩) hfw _, hI.out.keep (fun j hj hz => (Below.heap_setCell _ _ _ j (fun e => by have hz : W2.heap.size ≤ j := hz; have e : j = fb := e; simp only at hfb2; omega)).trans (Below.heap_setCell _ _ _ j (fun e => by have hz : W2.heap.size ≤ j := hz; have e : j = fb := e; simp only at hfb2; omega))) (fun _ _ _ => trivial), hrk, hra⟩, e0, e1, far hobf y0', far hobf y3', far hobf y4', far hobf y5'⟩
  case rest =>
    as_aux_lemma =>
      obtain ⟨P, a, c, xs, HF, f0, f1, y0, y3, y4, y5⟩ := hcut
      have hbx := HF.out.1
      have HEx := Lib.hid (HE0.out.stay hbx)
      obtain ⟨p, hp⟩ : ∃ p, β.ps[k]? = some p := ⟨_, List.getElem?_eq_getElem (by rw [HN.out]; exact hk)⟩
      have HmS : Hid (stE β.ar k p ∈ ents β.ar β.ps) := Lib.hid (mem_ents.2 ⟨k, p, hp, .inl rfl⟩)
      have HmR : Hid (rfE β.ar k p ∈ ents β.ar β.ps) := Lib.hid (mem_ents.2 ⟨k, p, hp, .inr rfl⟩)
      have hlp := HLm.out.rs p (List.mem_of_getElem? hp)
      have hprv : p.rows.length ≤ v := by rw [show p.rows.length = p.rs.length from List.length_map _]; omega
      have hpr : p.rows.length ≤ 1048576 := by omega
      obtain ⟨gS, cS, gR, cR, hvS, hvR, hLd⟩ := HB.out.leads HEx.out hp
      have s0 := hLd.s0
      have s1 := hLd.s1
      have r0 := hLd.r0
      have r1 := hLd.r1
      rw [HN.out] at s0 r0
      have HvS := Lib.hid hvS
      have HvR := Lib.hid hvR
      have Hp := Lib.hid hp
      have sx := hbx.size
      clear hLd hvS hvR hp
      have hrm := wrap_rng (id - 1)
      obtain ⟨m, hm⟩ : ∃ m, IntKind.i64.wrap (id - 1) = m := ⟨_, rfl⟩
      rw [hm] at hrm
      have hnx := HLm.out.next
      have hnl := HLm.out.lists
      have hn0 := HLm.out.next0
      have hUb := U_next (show v ≤ U by omega) hU2
      have hUc := U_lists (show v ≤ U by omega) hU2
      have hOl := wh_len p.rows n place id
      have hOl1 := wh_len p.rows n place m
      obtain ⟨X, hX⟩ : ∃ X, whK p.rows (placeV n place id) = X := ⟨_, rfl⟩
      obtain ⟨Y, hY⟩ : ∃ Y, whK p.rows (placeV n place m) = Y := ⟨_, rfl⟩
      rw [hX] at hOl
      rw [hY] at hOl1
      have HX2 := Lib.hid hX
      have HY2 := Lib.hid hY
      clear hX hY
      have hbz_0 : Below wc.heap.size wc wc := Below.refl _ _
      have HE0x := HEx
      obtain ⟨C0, hC0⟩ : ∃ D, D = C := ⟨_, rfl⟩
      have c1 := Lib.hid (env_where_st (HEx.out.stay (Below.refl _ _).drew) HmS.out (by omega) (by omega) n place id hrn hrp hri)
      rw [HX2.out] at c1
      go_upto_region 29 with fail
      go_region_held3 (fun w' => w'.cell? ⟨β.bk, 0, none⟩ = some (.slice (some ⟨gS, 0, none⟩) N cS) ∧ w'.cell? ⟨gS, k, none⟩ = some (.pointer (some ⟨p.sb, 0, none⟩)) ∧ w'.cell? ⟨ob, 3, none⟩ = some (.int .i64 n) ∧ w'.cell? ⟨ob, 4, none⟩ = some (.int .i64 place) ∧ w'.cell? ⟨ob, 5, none⟩ = some (.int .i64 id)) (first | assumption | exact ⟨s0, s1, y3, y4, y5⟩ | go_keep) (first
        | (go_at_call 19
           with_reducible refine c1.out.mono ?_
           rintro e V1 ⟨v1, rfl, hO1, hb1'⟩
           have hb1 : Below wc.heap.size wc V1 := (Below.refl _ _).drew.trans hb1'
           have hO1 : V1.ownsRow wc.heap.size 3 1 v1 X.length (X.map (Value.int .i64)) := hO1
           have hS1 : V1.cell? ⟨β.bk, 0, none⟩ = some (.slice (some ⟨gS, 0, none⟩) N cS) ∧ V1.cell? ⟨gS, k, none⟩ = some (.pointer (some ⟨p.sb, 0, none⟩)) ∧ V1.cell? ⟨ob, 3, none⟩ = some (.int .i64 n) ∧ V1.cell? ⟨ob, 4, none⟩ = some (.int .i64 place) ∧ V1.cell? ⟨ob, 5, none⟩ = some (.int .i64 id) := ⟨on_cell hb1 s0, on_cell hb1 s1, on_cell hb1 y3, on_cell hb1 y4, on_cell hb1 y5⟩
           obtain ⟨a1, k1, rfl⟩ := owns_shape hO1))
      obtain ⟨t1, C1, E1, R1, sub1, new1⟩ := BoxRow.ofOwns HEx.out hb1 hO1 (Nat.le_refl _)
      have HE1 := Lib.hid E1
      have R1 := Lib.hid R1
      have Hsub1 := Lib.hid sub1
      have HO1 := Lib.hid hO1
      clear E1 sub1 new1 hO1
      have s0 := on_cell hb1 s0
      have s1 := on_cell hb1 s1
      have r0 := on_cell hb1 r0
      have r1 := on_cell hb1 r1
      have y3 := on_cell hb1 y3
      have y4 := on_cell hb1 y4
      have y5 := on_cell hb1 y5
      clear hS1 c1
      have c2 := Lib.hid (env_where_st (HE1.out.stay (Below.refl _ _).drew) HmS.out (by omega) (by omega) n place m hrn hrp hrm)
      rw [HY2.out] at c2
      go_upto_region 30 with fail
      go_region_held3 (fun w' => w'.cell? ⟨β.bk, 0, none⟩ = some (.slice (some ⟨gS, 0, none⟩) N cS) ∧ w'.cell? ⟨gS, k, none⟩ = some (.pointer (some ⟨p.sb, 0, none⟩)) ∧ w'.cell? ⟨ob, 3, none⟩ = some (.int .i64 n) ∧ w'.cell? ⟨ob, 4, none⟩ = some (.int .i64 place) ∧ w'.cell? ⟨ob, 5, none⟩ = some (.int .i64 id)) (first | assumption | exact ⟨s0, s1, y3, y4, y5⟩ | go_keep) (first
        | (go_at_call 19
           with_reducible refine c2.out.mono ?_
           rintro e V2 ⟨v2, rfl, hO2, hb2'⟩
           have hb2 : Below V1.heap.size V1 V2 := (Below.refl _ _).drew.trans hb2'
           have hO2 : V2.ownsRow V1.heap.size 3 1 v2 Y.length (Y.map (Value.int .i64)) := hO2
           have hS2 : V2.cell? ⟨β.bk, 0, none⟩ = some (.slice (some ⟨gS, 0, none⟩) N cS) ∧ V2.cell? ⟨gS, k, none⟩ = some (.pointer (some ⟨p.sb, 0, none⟩)) ∧ V2.cell? ⟨ob, 3, none⟩ = some (.int .i64 n) ∧ V2.cell? ⟨ob, 4, none⟩ = some (.int .i64 place) ∧ V2.cell? ⟨ob, 5, none⟩ = some (.int .i64 id) := ⟨on_cell hb2 s0, on_cell hb2 s1, on_cell hb2 y3, on_cell hb2 y4, on_cell hb2 y5⟩
           obtain ⟨a2, k2, rfl⟩ := owns_shape hO2))
      obtain ⟨t2, C2, E2, R2, sub2, new2⟩ := BoxRow.ofOwns HE1.out hb2 hO2 (Nat.le_refl _)
      have HE2 := Lib.hid E2
      have R2 := Lib.hid R2
      have Hsub2 := Lib.hid sub2
      have HO2 := Lib.hid hO2
      clear E2 sub2 new2 hO2
      have s0 := on_cell hb2 s0
      have s1 := on_cell hb2 s1
      have r0 := on_cell hb2 r0
      have r1 := on_cell hb2 r1
      have y3 := on_cell hb2 y3
      have y4 := on_cell hb2 y4
      have y5 := on_cell hb2 y5
      clear hS2 c2
      have c3 := Lib.hid (env_where_st (HE2.out.stay (Below.refl _ _).drew) HmS.out (by omega) (by omega) n place id hrn hrp hri)
      rw [HX2.out] at c3
      go_upto_region 31 with fail
      go_region_held3 (fun w' => w'.cell? ⟨β.bk, 0, none⟩ = some (.slice (some ⟨gS, 0, none⟩) N cS) ∧ w'.cell? ⟨gS, k, none⟩ = some (.pointer (some ⟨p.sb, 0, none⟩)) ∧ w'.cell? ⟨ob, 3, none⟩ = some (.int .i64 n) ∧ w'.cell? ⟨ob, 4, none⟩ = some (.int .i64 place) ∧ w'.cell? ⟨ob, 5, none⟩ = some (.int .i64 id)) (first | assumption | exact ⟨s0, s1, y3, y4, y5⟩ | go_keep) (first
        | (go_at_call 19
           with_reducible refine c3.out.mono ?_
           rintro e V3 ⟨v3, rfl, hO3, hb3'⟩
           have hb3 : Below V2.heap.size V2 V3 := (Below.refl _ _).drew.trans hb3'
           have hO3 : V3.ownsRow V2.heap.size 3 1 v3 X.length (X.map (Value.int .i64)) := hO3
           have hS3 : V3.cell? ⟨β.bk, 0, none⟩ = some (.slice (some ⟨gS, 0, none⟩) N cS) ∧ V3.cell? ⟨gS, k, none⟩ = some (.pointer (some ⟨p.sb, 0, none⟩)) ∧ V3.cell? ⟨ob, 3, none⟩ = some (.int .i64 n) ∧ V3.cell? ⟨ob, 4, none⟩ = some (.int .i64 place) ∧ V3.cell? ⟨ob, 5, none⟩ = some (.int .i64 id) := ⟨on_cell hb3 s0, on_cell hb3 s1, on_cell hb3 y3, on_cell hb3 y4, on_cell hb3 y5⟩
           obtain ⟨a3, k3, rfl⟩ := owns_shape hO3))
      obtain ⟨t3, C3, E3, R3, sub3, new3⟩ := BoxRow.ofOwns HE2.out hb3 hO3 (Nat.le_refl _)
      have HE3 := Lib.hid E3
      have R3 := Lib.hid R3
      have Hsub3 := Lib.hid sub3
      have HO3 := Lib.hid hO3
      clear E3 sub3 new3 hO3
      have s0 := on_cell hb3 s0
      have s1 := on_cell hb3 s1
      have r0 := on_cell hb3 r0
      have r1 := on_cell hb3 r1
      have y3 := on_cell hb3 y3
      have y4 := on_cell hb3 y4
      have y5 := on_cell hb3 y5
      clear hS3 c3
      have c4 := Lib.hid (env_where_rf (HE3.out.stay (Below.refl _ _).drew) HmR.out n place id)
      rw [HX2.out] at c4
      go_upto_region 32 with fail
      go_region_held3 (fun w' => w'.cell? ⟨β.bk, 1, none⟩ = some (.slice (some ⟨gR, 0, none⟩) N cR) ∧ w'.cell? ⟨gR, k, none⟩ = some (.pointer (some ⟨p.rb, 0, none⟩)) ∧ w'.cell? ⟨ob, 3, none⟩ = some (.int .i64 n) ∧ w'.cell? ⟨ob, 4, none⟩ = some (.int .i64 place) ∧ w'.cell? ⟨ob, 5, none⟩ = some (.int .i64 id)) (first | assumption | exact ⟨r0, r1, y3, y4, y5⟩ | go_keep) (first
        | (go_at_call 59
           with_reducible refine c4.out.mono ?_
           rintro e V4 ⟨v4, rfl, hO4, hb4'⟩
           have hb4 : Below V3.heap.size V3 V4 := (Below.refl _ _).drew.trans hb4'
           have hO4 : V4.ownsRow V3.heap.size 3 1 v4 X.length (X.map (Value.int .i64)) := hO4
           have hS4 : V4.cell? ⟨β.bk, 1, none⟩ = some (.slice (some ⟨gR, 0, none⟩) N cR) ∧ V4.cell? ⟨gR, k, none⟩ = some (.pointer (some ⟨p.rb, 0, none⟩)) ∧ V4.cell? ⟨ob, 3, none⟩ = some (.int .i64 n) ∧ V4.cell? ⟨ob, 4, none⟩ = some (.int .i64 place) ∧ V4.cell? ⟨ob, 5, none⟩ = some (.int .i64 id) := ⟨on_cell hb4 r0, on_cell hb4 r1, on_cell hb4 y3, on_cell hb4 y4, on_cell hb4 y5⟩
           obtain ⟨a4, k4, rfl⟩ := owns_shape hO4))
      have HO4 := Lib.hid hO4
      clear hO4
      have s0 := on_cell hb4 s0
      have s1 := on_cell hb4 s1
      have r0 := on_cell hb4 r0
      have r1 := on_cell hb4 r1
      have y3 := on_cell hb4 y3
      have y4 := on_cell hb4 y4
      have y5 := on_cell hb4 y5
      clear hS4 c4
      have HE4 := Lib.hid (HE3.out.stay hb4)
      have R1 := Lib.hid (((R1.out).mono (fun x hx _ => Hsub2.out x hx)).mono (fun x hx _ => Hsub3.out x hx))
      have R2 := Lib.hid ((R2.out).mono (fun x hx _ => Hsub3.out x hx))
      have R3 := Lib.hid (R3.out)
      have hQ4 := (intsZ_of_row HO4.out)
      obtain ⟨a4', k4', hq4, hZ4⟩ := hQ4
      simp only [Value.slice.injEq, true_and] at hq4
      obtain ⟨rfl, rfl⟩ := hq4
      have HZ4 := Lib.hid hZ4
      clear hZ4
      have e1 := Lib.hid (fun (W : World) (hW : Below V4.heap.size V4 W) => equalInts_any a1 a4 k1 k4 X X W ((R1.out.ints HE4.out rfl).below hW) (HZ4.out.below hW (Nat.le_refl _)).ints (by omega))
      have e2 := Lib.hid (fun (W : World) (hW : Below V4.heap.size V4 W) => equalInts_any a3 a4 k3 k4 X X W ((R3.out.ints HE4.out rfl).below hW) (HZ4.out.below hW (Nat.le_refl _)).ints (by omega))
      have e3 := Lib.hid (fun (W : World) (hW : Below V4.heap.size V4 W) => env_where_rf (HE4.out.stay hW) HmR.out n place m)
      have e4 := Lib.hid (fun (a : Option Addr) (c : Nat) (W : World) (hW : Below V4.heap.size V4 W) (hz : Ints W a Y) => equalInts_any a2 a k2 c Y Y W ((R2.out.ints HE4.out rfl).below hW) hz (by omega))
      rw [HY2.out] at e3
      simp only [decide_true] at e1 e2 e4
      go_upto_region 33 with fail
      go_region_held3 (fun w' => Below V4.heap.size V4 w' ∧ w'.cell? ⟨β.bk, 1, none⟩ = some (.slice (some ⟨gR, 0, none⟩) N cR) ∧ w'.cell? ⟨gR, k, none⟩ = some (.pointer (some ⟨p.rb, 0, none⟩)) ∧ w'.cell? ⟨ob, 3, none⟩ = some (.int .i64 n) ∧ w'.cell? ⟨ob, 4, none⟩ = some (.int .i64 place) ∧ w'.cell? ⟨ob, 5, none⟩ = some (.int .i64 id)) (first | assumption | exact ⟨(Below.refl _ _).drew, r0, r1, y3, y4, y5⟩ | go_keep) (first
        | (go_at_call 18
           with_reducible refine (e1.out _ (Below.refl _ _).drew).mono ?_
           rintro e V5 ⟨rfl, n5, rfl⟩
           have hb5 : Below V4.heap.size V4 (V4.drew.drewN n5) := below_drewN (Below.refl _ _).drew n5
           generalize V4.drew.drewN n5 = V5 at hb5 ⊢
           have hS5 : Below V4.heap.size V4 V5 ∧ V5.cell? ⟨β.bk, 1, none⟩ = some (.slice (some ⟨gR, 0, none⟩) N cR) ∧ V5.cell? ⟨gR, k, none⟩ = some (.pointer (some ⟨p.rb, 0, none⟩)) ∧ V5.cell? ⟨ob, 3, none⟩ = some (.int .i64 n) ∧ V5.cell? ⟨ob, 4, none⟩ = some (.int .i64 place) ∧ V5.cell? ⟨ob, 5, none⟩ = some (.int .i64 id) := ⟨hb5, on_cell hb5 r0, on_cell hb5 r1, on_cell hb5 y3, on_cell hb5 y4, on_cell hb5 y5⟩)
        | (go_at_call 18
           with_reducible refine (e2.out _ hb5).mono ?_
           rintro e V6 ⟨rfl, n6, rfl⟩
           have hb6 : Below V4.heap.size V4 (V5.drewN n6) := below_drewN hb5 n6
           generalize V5.drewN n6 = V6 at hb6 ⊢
           have hS6 : Below V4.heap.size V4 V6 ∧ V6.cell? ⟨β.bk, 1, none⟩ = some (.slice (some ⟨gR, 0, none⟩) N cR) ∧ V6.cell? ⟨gR, k, none⟩ = some (.pointer (some ⟨p.rb, 0, none⟩)) ∧ V6.cell? ⟨ob, 3, none⟩ = some (.int .i64 n) ∧ V6.cell? ⟨ob, 4, none⟩ = some (.int .i64 place) ∧ V6.cell? ⟨ob, 5, none⟩ = some (.int .i64 id) := ⟨hb6, on_cell hb6 r0, on_cell hb6 r1, on_cell hb6 y3, on_cell hb6 y4, on_cell hb6 y5⟩)
        | (go_at_call 59
           with_reducible refine (e3.out _ hb6).mono ?_
           rintro e V7 ⟨v7, rfl, hO7, hb7'⟩
           obtain ⟨a7, k7, rfl, hZ7⟩ := intsZ_of_row hO7
           have hb7 := hb6.trans (hb7'.mono hb6.size)
           have HZ7 := Lib.hid hZ7.ints
           clear hO7 hZ7
           have hS7 : Below V4.heap.size V4 V7 ∧ V7.cell? ⟨β.bk, 1, none⟩ = some (.slice (some ⟨gR, 0, none⟩) N cR) ∧ V7.cell? ⟨gR, k, none⟩ = some (.pointer (some ⟨p.rb, 0, none⟩)) ∧ V7.cell? ⟨ob, 3, none⟩ = some (.int .i64 n) ∧ V7.cell? ⟨ob, 4, none⟩ = some (.int .i64 place) ∧ V7.cell? ⟨ob, 5, none⟩ = some (.int .i64 id) := ⟨hb7, on_cell hb7 r0, on_cell hb7 r1, on_cell hb7 y3, on_cell hb7 y4, on_cell hb7 y5⟩)
        | (go_at_call 18
           with_reducible refine (e4.out a7 k7 _ hb7 HZ7.out).mono ?_
           rintro e V8 ⟨rfl, n8, rfl⟩
           have hb8 : Below V4.heap.size V4 (V7.drewN n8) := below_drewN hb7 n8
           generalize V7.drewN n8 = V8 at hb8 ⊢
           have hS8 : Below V4.heap.size V4 V8 ∧ V8.cell? ⟨β.bk, 1, none⟩ = some (.slice (some ⟨gR, 0, none⟩) N cR) ∧ V8.cell? ⟨gR, k, none⟩ = some (.pointer (some ⟨p.rb, 0, none⟩)) ∧ V8.cell? ⟨ob, 3, none⟩ = some (.int .i64 n) ∧ V8.cell? ⟨ob, 4, none⟩ = some (.int .i64 place) ∧ V8.cell? ⟨ob, 5, none⟩ = some (.int .i64 id) := ⟨hb8, on_cell hb8 r0, on_cell hb8 r1, on_cell hb8 y3, on_cell hb8 y4, on_cell hb8 y5⟩))
      have E8 := HE4.out.stay hb8
      have Hsub := Lib.hid (fun (x : Box) (hx : x ∈ C) => (Hsub3.out x (Hsub2.out x (Hsub1.out x hx)) : x ∈ C3))
      have sv1 := hb1.size
      have sv2 := hb2.size
      have sv3 := hb3.size
      have sv4 := hb4.size
      have s8 := hb8.size
      have hsz8 : w.heap.size ≤ V8.heap.size := by omega
      have HST8 := Lib.hid (Step.ofMore HE0.out HB.out E8 Hsub.out hsz8)
      clear E8 e1 e2 e3 e4
      have Hoff1 := Lib.hid (off_new HEx.out HB.out (v := .slice a1 X.length k1) (fun g e => by have := (HO1.out.lt g e).1; omega))
      have Hnv1 : Hid (∀ g, (Value.slice a1 X.length k1).ownBlock = some g → w.heap.size ≤ g) := Lib.hid (fun g e => by have h1 := (HO1.out.lt _ e).1; omega)
      have Hoff2 := Lib.hid (off_new HEx.out HB.out (v := .slice a2 Y.length k2) (fun g e => by have := (HO2.out.lt g e).1; omega))
      have Hnv2 : Hid (∀ g, (Value.slice a2 Y.length k2).ownBlock = some g → w.heap.size ≤ g) := Lib.hid (fun g e => by have h1 := (HO2.out.lt _ e).1; omega)
      have Hoff3 := Lib.hid (off_new HEx.out HB.out (v := .slice a3 X.length k3) (fun g e => by have := (HO3.out.lt g e).1; omega))
      have Hnv3 : Hid (∀ g, (Value.slice a3 X.length k3).ownBlock = some g → w.heap.size ≤ g) := Lib.hid (fun g e => by have h1 := (HO3.out.lt _ e).1; omega)
      have cK1 := Lib.hid (keep_any HST8.out.E ents_ne HST8.out.ok X R1.out Hoff1.out (by omega) (by exact hn0) (by omega) (by omega))
      (try dsimp only at cK1)
      go_upto_region 36 with (first | (go_at_call 58; with_reducible refine cK1.out.mono ?_; intro e V9 hk9; obtain ⟨rfl, t9', C9', L9', l9', ST9, hl9, sz9, old9, off9⟩ := KeepEnd.after HST8.out hk9 Hnv1.out HE0.out))
      have HST9 := Lib.hid ST9
      have vb2_1 : ∀ g, (Value.slice a2 Y.length k2).ownBlock = some g → (Value.slice a1 X.length k1).ownBlock ≠ some g := fun g e1 e2 => by have h1 := (HO2.out.lt _ e1).1; have h2 := (HO1.out.lt _ e2).2; omega
      have R2_1 := Lib.hid ((R2.out).mono (fun x hx hb => old9 x hx (fun e => (R2.out).apartHead HST8.out.ok.head HST8.out.E (by decide) (by rw [hb, e])) (fun e => vb2_1 _ hb e) (fun e => (R2.out).apart HST8.out.ok.ls HST8.out.E (by decide) hb e)))
      have Hof2_1 := Lib.hid (off9 _ Hoff2.out (fun g e => ⟨by have := (HO2.out.lt _ e).2; omega, vb2_1 g e⟩))
      clear vb2_1
      have vb3_1 : ∀ g, (Value.slice a3 X.length k3).ownBlock = some g → (Value.slice a1 X.length k1).ownBlock ≠ some g := fun g e1 e2 => by have h1 := (HO3.out.lt _ e1).1; have h2 := (HO1.out.lt _ e2).2; omega
      have R3_1 := Lib.hid ((R3.out).mono (fun x hx hb => old9 x hx (fun e => (R3.out).apartHead HST8.out.ok.head HST8.out.E (by decide) (by rw [hb, e])) (fun e => vb3_1 _ hb e) (fun e => (R3.out).apart HST8.out.ok.ls HST8.out.E (by decide) hb e)))
      have Hof3_1 := Lib.hid (off9 _ Hoff3.out (fun g e => ⟨by have := (HO3.out.lt _ e).2; omega, vb3_1 g e⟩))
      clear vb3_1
      clear ST9 old9 off9 cK1
      have cK2 := Lib.hid (keep_any HST9.out.E ents_ne HST9.out.ok Y R2_1.out Hof2_1.out (by omega) (by dsimp only; omega) (by dsimp only; omega) (by dsimp only at hl9 ⊢; omega))
      (try dsimp only at cK2)
      go_upto_region 37 with (first | (go_at_call 58; with_reducible refine cK2.out.mono ?_; intro e V10 hk10; obtain ⟨rfl, t10', C10', L10', l10', ST10, hl10, sz10, old10, off10⟩ := KeepEnd.after HST9.out hk10 Hnv2.out HE0.out))
      have HST10 := Lib.hid ST10
      have vb3_2 : ∀ g, (Value.slice a3 X.length k3).ownBlock = some g → (Value.slice a2 Y.length k2).ownBlock ≠ some g := fun g e1 e2 => by have h1 := (HO3.out.lt _ e1).1; have h2 := (HO2.out.lt _ e2).2; omega
      have R3_2 := Lib.hid ((R3_1.out).mono (fun x hx hb => old10 x hx (fun e => (R3_1.out).apartHead HST9.out.ok.head HST9.out.E (by decide) (by rw [hb, e])) (fun e => vb3_2 _ hb e) (fun e => (R3_1.out).apart HST9.out.ok.ls HST9.out.E (by decide) hb e)))
      have Hof3_2 := Lib.hid (off10 _ Hof3_1.out (fun g e => ⟨by have := (HO3.out.lt _ e).2; omega, vb3_2 g e⟩))
      clear vb3_2
      clear ST10 old10 off10 cK2
      have cK3 := Lib.hid (keep_any HST10.out.E ents_ne HST10.out.ok X R3_2.out Hof3_2.out (by omega) (by dsimp only; omega) (by dsimp only; omega) (by dsimp only at hl10 ⊢; omega))
      (try dsimp only at cK3)
      go_wp2_with (first | (go_at_call 58; with_reducible refine cK3.out.mono ?_; intro e V11 hk11; obtain ⟨rfl, t11', C11', L11', l11', ST11, hl11, sz11, old11, off11⟩ := KeepEnd.after HST10.out hk11 Hnv3.out HE0.out))
      have HST11 := Lib.hid ST11
      clear ST11 old11 off11 cK3
      go_ret
      exact ⟨rfl, _, _, _, HST11.out, BLater.same HPP.out rfl, HLm.out.keeps (by omega) hU2 (by omega) (by omega) (d := 6) (by omega) (Nat.le_refl _)⟩
end Go.Proofs.Ytgodidoibcomcaa.Bk
