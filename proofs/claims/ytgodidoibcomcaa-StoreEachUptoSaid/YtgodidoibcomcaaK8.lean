/-
  The book of StoreScript, StoreTries, StoreEach: several of its texts in one.
-/
import Derived.Test.YtgodidoibcomcaaK3
namespace Go.Proofs.Ytgodidoibcomcaa.Bk
open Go.RowKit Go.Proofs.Ytgodidoibcomcaa

set_option linter.unusedSimpArgs false in
set_option maxHeartbeats 16000000 in
set_option maxRecDepth 100000 in
theorem flat_Undo {w0 : World} {τ : Own} {w : World} {β : Book} {C : List Box} {U u v : Nat} {Ops : Option Addr → Nat → Nat → Prop} (E : Env w0 τ w (ents β.ar β.ps) [] C) (B : BookOk β C) (HP : ∀ p ∈ β.ps, PrOk p) (x : OpD) (hx : OpIn Ops w0 x u) (hL : Lim U β v) (hU : v + u ≤ U) (hU2 : U ≤ 1048576) (hkind : x.kind = 7) :
    Calls Try.prog 26 #[.pointer (some ⟨β.bk, 0, none⟩), .agg x.cells] w (FlatEnd w0 β C U (v + u) w) := by
  have hu := hx.weigh
  obtain ⟨kind, on, ra, rc, l, n, place, id, ia, inn, ic, say⟩ := x
  obtain ⟨hx, hcap, hok, hargs, hrk, hrn, hrp, hri, -⟩ := hx
  simp only at hx hok hargs hu hcap hrn hrp hri hkind
  subst hkind
  obtain ⟨L, hLl⟩ : ∃ L, l.length = L := ⟨_, rfl⟩
  have HLl := Lib.hid hLl
  rw [hLl] at hcap hu
  have hps := hL.ps
  have hmany := B.many
  have hpos := B.pos
  obtain ⟨N, hN⟩ : ∃ N, β.ps.length = N := ⟨_, rfl⟩
  rw [hN] at hps hmany hpos
  obtain ⟨W0, hW0⟩ : ∃ W, W = w.alloc (.cells (opCells 7 on (.slice ra L rc) n place id (.slice ia inn ic) say) 54) := ⟨_, rfl⟩
  obtain ⟨ob, hob⟩ : ∃ b, b = w.heap.size := ⟨_, rfl⟩
  have hb0 : Below w.heap.size w W0 := by rw [hW0]; exact (Below.refl _ _).alloc (Nat.le_refl _) _
  have hbw0 : Below w0.heap.size w0 W0 := E.below.trans (hb0.mono E.below.size)
  have HE0 := Lib.hid E
  have Hob0 : Hid (τ ob = none) := Lib.hid (E.fresh ob (by omega))
  have HX := Lib.hid hx
  have HO := Lib.hid hok
  have HA := Lib.hid hargs
  have HB := Lib.hid B
  have HPP := Lib.hid HP
  have HLm := Lib.hid hL
  have hl6 : L ≤ 1048576 := by omega
  obtain ⟨gS, cS, gR, cR, hvS, hvR, hLd⟩ := B.leads (E.stay hb0) (k := 0) (p := β.ps[0]'(by rw [hN]; exact hpos)) (List.getElem?_eq_getElem _)
  have s0 := hLd.s0
  rw [hN] at s0 hvS hvR
  have cOn := Lib.hid (on_any s0 hpos hmany 7 on ra L rc n place id ia inn ic say)
  have HN := Lib.hid hN
  have HvS := Lib.hid hvS
  have HvR := Lib.hid hvR
  have xall : ∀ (j : Nat) y, (opCells 7 on (.slice ra L rc) n place id (.slice ia inn ic) say)[j]? = some y → W0.cell? ⟨ob, j, none⟩ = some y := fun j y hy => by rw [hW0, hob]; simp [hy]
  have z0 : W0.cell? ⟨ob, 0, none⟩ = some (.int .i64 7) := xall 0 _ rfl
  have z1 : W0.cell? ⟨ob, 1, none⟩ = some (.int .i64 on) := xall 1 _ rfl
  have z2 : W0.cell? ⟨ob, 2, none⟩ = some (.slice ra L rc) := xall 2 _ rfl
  have z3 : W0.cell? ⟨ob, 3, none⟩ = some (.int .i64 n) := xall 3 _ rfl
  have z4 : W0.cell? ⟨ob, 4, none⟩ = some (.int .i64 place) := xall 4 _ rfl
  have z5 : W0.cell? ⟨ob, 5, none⟩ = some (.int .i64 id) := xall 5 _ rfl
  have z6 : W0.cell? ⟨ob, 6, none⟩ = some (.slice ia inn ic) := xall 6 _ rfl
  have z7 : W0.cell? ⟨ob, 7, none⟩ = some (.bool say) := xall 7 _ rfl
  unfold opCells at cOn hW0
  unfold OpD.cells opCells
  simp only
  rw [hLl]
  have HW0 := Lib.hid hW0
  have Hob := Lib.hid hob
  clear hLl hx hok hargs hL E B HP hvS hvR hN xall hW0 hob hLd s0
  go_enter Try.func26, Try.ntmps26
  go_upto_region 1 with fail
  rw [← HW0.out, ← Hob.out]
  go_upto_region 2 with (first | (go_at_call 50; with_reducible refine cOn.out.mono ?_; rintro e W1 ⟨k, hk, rfl, hb1⟩))
  have y0 := on_cell hb1 z0
  have y2 := on_cell hb1 z2
  have y3 := on_cell hb1 z3
  have y4 := on_cell hb1 z4
  have y5 := on_cell hb1 z5
  clear z0 z1 z2 z3 z4 z5 z6 z7 cOn
  go_upto_region 3 with fail
  obtain ⟨W2, hW2⟩ : ∃ W, W = W1.alloc (.cells #[.int .i64 (-1), .slice none 0 0] 28) := ⟨_, rfl⟩
  obtain ⟨fb, hfb⟩ : ∃ b, b = W1.heap.size := ⟨_, rfl⟩
  have hb2 : Below W1.heap.size W1 W2 := by rw [hW2]; exact (Below.refl _ _).alloc (Nat.le_refl _) _
  have f0 : W2.cell? ⟨fb, 0, none⟩ = some (.int .i64 (-1)) := by rw [hW2, hfb]; simp
  have f1 : W2.cell? ⟨fb, 1, none⟩ = some (.slice none 0 0) := by rw [hW2, hfb]; simp
  have ff0 : W2.frozen? ⟨fb, 0, none⟩ = false := by rw [hW2, hfb]; simp
  have ff1 : W2.frozen? ⟨fb, 1, none⟩ = false := by rw [hW2, hfb]; simp
  have hb02 : Below w.heap.size w W2 := (hb0.trans (hb1.mono hb0.size)).trans (hb2.mono (hb0.trans (hb1.mono hb0.size)).size)
  have hfw : w.heap.size ≤ fb := by rw [hfb]; exact (hb0.trans (hb1.mono hb0.size)).size
  have y0 := on_cell hb2 y0
  have y2 := on_cell hb2 y2
  have y3 := on_cell hb2 y3
  have y4 := on_cell hb2 y4
  have y5 := on_cell hb2 y5
  have hobf : ob ≠ fb := by
    have h1 : ob < W1.heap.size := World.block_lt_of_cell? _ _ (‹W1.cell? ⟨ob, 0, none⟩ = some _›)
    omega
  rw [← hW2, ← hfb]
  clear hW2 hfb
  go_upto_if 25 with fail
  go_cut [] (fun wx => ∃ (P : Int) (a : Option Addr) (c : Nat) (xs : List Int), Hid (Below w.heap.size w wx ∧ IntsZ (fun _ => True) wx a c xs ∧ RowOk (P, xs) ∧ xs.length ≤ 1048576) ∧ wx.cell? ⟨fb, 0, none⟩ = some (.int .i64 P) ∧ wx.cell? ⟨fb, 1, none⟩ = some (.slice a xs.length c) ∧ wx.cell? ⟨ob, 0, none⟩ = some (.int .i64 7) ∧ wx.cell? ⟨ob, 3, none⟩ = some (.int .i64 n) ∧ wx.cell? ⟨ob, 4, none⟩ = some (.int .i64 place) ∧ wx.cell? ⟨ob, 5, none⟩ = some (.int .i64 id))
  case first =>
    by_cases hl0 : l = []
    · subst hl0
      obtain rfl : L = 0 := by rw [← HLl.out]; rfl
      go_wp2_with fail
      go_meet
      exact ⟨-1, none, 0, [], Lib.hid ⟨hb02, ⟨.inl rfl, fun _ => ⟨rfl, rfl⟩⟩, ⟨⟨by simp, by simp⟩, by simp, fun x hx => by cases hx⟩, by simp⟩, f0, f1, y0, y3, y4, y5⟩
    · obtain ⟨r, l', rfl⟩ := List.exists_cons_of_ne_nil hl0
      have hd0 : 0 < L := by rw [← HLl.out]; simp
      have hd : decide (0 < L) = true := by rw [decide_eq_true_eq]; exact hd0
      have hc1 : 1 ≤ rc := by omega
      have hra := HA.out r (List.mem_cons_self ..)
      have hrk := HO.out r (List.mem_cons_self ..)
      have hW2 : Below w0.heap.size w0 W2 := HE0.out.below.trans (hb02.mono HE0.out.below.size)
      have cD : Hid (Calls Try.prog 40 #[.slice ra 1 rc] W2 fun e w' => ∃ v cs vs, e = .returned v ∧ DRows W2.heap.size w' v [r] cs vs ∧ Below W2.heap.size W2 w') := Lib.hid (drows_any ra rc [r] W2 ((RowsZ.head HX.out).below hW2 (Nat.le_refl _)) (fun q hq => by rw [List.mem_singleton] at hq; subst hq; omega) (by simp))
      have s2 := hb02.size
      go_wp2_with (first | (go_at_call 40; with_reducible refine cD.out.mono ?_; rintro e W3 ⟨vg, cs, vs, rfl, hD, hb3⟩; obtain ⟨g, cg, ga, gc, rfl, d0, d1, hI⟩ := hD.one; have y0' := on_cell hb3 y0; have y3' := on_cell hb3 y3; have y4' := on_cell hb3 y4; have y5' := on_cell hb3 y5; have f0' := on_cell hb3 f0; have f1' := on_cell hb3 f1; have ff0' := (hb3.frozen (p := ⟨fb, 0, none⟩) (World.block_lt_of_cell? _ _ f0)).trans ff0; have ff1' := (hb3.frozen (p := ⟨fb, 1, none⟩) (World.block_lt_of_cell? _ _ f1)).trans ff1))
      go_meet
      have hb23 := hb02.trans (hb3.mono s2)
      have hlt0 : ¬ fb < w.heap.size := by omega
      obtain ⟨e0, e1, far⟩ := set_two (v0 := .int .i64 r.1) (v1 := .slice ga r.2.length gc) f0' f1'
      have hfb2 := World.block_lt_of_cell? _ _ f0
      exact ⟨r.1, ga, gc, r.2, Lib.hid ⟨(hb23.setCell (p := ⟨fb, 0, none⟩) hfw _).setCell (p := ⟨fb, 1, none⟩) hfw _, hI.out.keep (fun j hj hz => (Below.heap_setCell _ _ _ j (fun e => by have hz : W2.heap.size ≤ j := hz; have e : j = fb := e; simp only at hfb2; omega)).trans (Below.heap_setCell _ _ _ j (fun e => by have hz : W2.heap.size ≤ j := hz; have e : j = fb := e; simp only at hfb2; omega))) (fun _ _ _ => trivial), hrk, hra⟩, e0, e1, far hobf y0', far hobf y3', far hobf y4', far hobf y5'⟩
  case rest =>
    obtain ⟨P, a, c, xs, HF, f0, f1, y0, y3, y4, y5⟩ := hcut
    have hbx := HF.out.1
    have HEx := Lib.hid (HE0.out.stay hbx)
    obtain ⟨p, hp⟩ : ∃ p, β.ps[k]? = some p := ⟨_, List.getElem?_eq_getElem (by rw [HN.out]; exact hk)⟩
    have HmS : Hid (stE β.ar k p ∈ ents β.ar β.ps) := Lib.hid (mem_ents.2 ⟨k, p, hp, .inl rfl⟩)
    have HmR : Hid (rfE β.ar k p ∈ ents β.ar β.ps) := Lib.hid (mem_ents.2 ⟨k, p, hp, .inr rfl⟩)
    have hlp := HLm.out.rs p (List.mem_of_getElem? hp)
    have hprv : p.rows.length ≤ v := by rw [show p.rows.length = p.rs.length from List.length_map _]; omega
    have hpr : p.rows.length ≤ 1048576 := by omega
    obtain ⟨gS, cS, gR, cR, hvS, hvR, hLd⟩ := HB.out.leads HEx.out hp
    have s0 := hLd.s0
    have s1 := hLd.s1
    have r0 := hLd.r0
    have r1 := hLd.r1
    rw [HN.out] at s0 r0
    have HvS := Lib.hid hvS
    have HvR := Lib.hid hvR
    have Hp := Lib.hid hp
    have sx := hbx.size
    clear hLd hvS hvR hp
    have hnu := hlp.2.1
    have hmanyp := HB.out.many
    by_cases hv : 0 ≤ n ∧ n ≤ (p.rs.length : Int)
    · obtain ⟨m, rfl⟩ := Int.eq_ofNat_of_zero_le hv.1
      have hm : m ≤ p.rs.length := by omega
      have cA := Lib.hid (env_undo_st (HEx.out.stay (Below.refl _ _).drew) HmS.out (by omega) m hm (by omega))
      clear hv
      go_upto_region 39 with fail
      go_region_held3 (fun w' => w'.cell? ⟨β.bk, 0, none⟩ = some (.slice (some ⟨gS, 0, none⟩) N cS) ∧ w'.cell? ⟨gS, k, none⟩ = some (.pointer (some ⟨p.sb, 0, none⟩)) ∧ w'.cell? ⟨β.bk, 1, none⟩ = some (.slice (some ⟨gR, 0, none⟩) N cR) ∧ w'.cell? ⟨gR, k, none⟩ = some (.pointer (some ⟨p.rb, 0, none⟩)) ∧ w'.cell? ⟨ob, 3, none⟩ = some (.int .i64 (m : Int))) (first | assumption | exact ⟨s0, s1, r0, r1, y3⟩ | go_keep) (first
        | (go_at_call 20
           with_reducible refine cA.out.mono ?_
           rintro e V5 ⟨rfl, τ5, T5, E5⟩
           have T5' : Turn (2 * k + 1) (fun _ => True) τ τ5 wc V5 := (Turn.of_below (Below.refl _ _).drew HEx.out.fresh).trans T5
           obtain ⟨gS5, cS5, gR5, cR5, hvS5, hvR5, hLd5⟩ := HB.out.leads E5 Hp.out
           have hq := hvR5.symm.trans HvR.out
           have hq2 := hvS5.symm.trans HvS.out
           simp only [Value.slice.injEq, Option.some.injEq, Addr.mk.injEq, and_true, true_and] at hq hq2
           obtain ⟨rfl, rfl⟩ := hq
           obtain ⟨rfl, rfl⟩ := hq2
           have q0 := hLd5.s0
           have q1 := hLd5.s1
           have q2 := hLd5.r0
           have q3 := hLd5.r1
           rw [HN.out] at q0 q2
           have ht5 : τ5 ob = none := (T5'.own ob (World.block_lt_of_cell? _ _ y3)).trans Hob0.out
           have z3 := T5'.cell y3 (fun r e => by rw [Hob0.out] at e; cases e)
           have hS5 : V5.cell? ⟨β.bk, 0, none⟩ = some (.slice (some ⟨gS5, 0, none⟩) N cS5) ∧ V5.cell? ⟨gS5, k, none⟩ = some (.pointer (some ⟨p.sb, 0, none⟩)) ∧ V5.cell? ⟨β.bk, 1, none⟩ = some (.slice (some ⟨gR5, 0, none⟩) N cR5) ∧ V5.cell? ⟨gR5, k, none⟩ = some (.pointer (some ⟨p.rb, 0, none⟩)) ∧ V5.cell? ⟨ob, 3, none⟩ = some (.int .i64 (m : Int)) := ⟨q0, q1, q2, q3, z3⟩
           have HE5 := Lib.hid E5
           have HT5 := Lib.hid T5'
           have HR5 : Hid (rfE β.ar k p ∈ (⟨2 * k + 1, p.sb, β.ar, p.rs.take m, lowTo m p.lows, p.n⟩ : Ent) :: others (ents β.ar β.ps) (2 * k + 1)) := Lib.hid (List.mem_cons_of_mem _ (mem_others.2 ⟨HmR.out, by show refS + k ≠ 2 * k + 1; unfold refS; omega⟩))
           have cB := Lib.hid (env_undo_rf HE5.out HR5.out m hm)
           clear E5 T5 T5' hvS5 hvR5 hLd5 q0 q1 q2 q3)
        | (go_at_call 60
           with_reducible refine cB.out.mono ?_
           rintro e V6 ⟨rfl, τ6, T6, E6⟩
           obtain ⟨gS6, cS6, gR6, cR6, hvS6, hvR6, hLd6⟩ := HB.out.leads E6 Hp.out
           have hq := hvR6.symm.trans HvR.out
           have hq2 := hvS6.symm.trans HvS.out
           simp only [Value.slice.injEq, Option.some.injEq, Addr.mk.injEq, and_true, true_and] at hq hq2
           obtain ⟨rfl, rfl⟩ := hq
           obtain ⟨rfl, rfl⟩ := hq2
           have q0 := hLd6.s0
           have q1 := hLd6.s1
           have q2 := hLd6.r0
           have q3 := hLd6.r1
           rw [HN.out] at q0 q2
           have z4 := T6.cell z3 (fun r e => by rw [ht5] at e; cases e)
           have hS6 : V6.cell? ⟨β.bk, 0, none⟩ = some (.slice (some ⟨gS6, 0, none⟩) N cS6) ∧ V6.cell? ⟨gS6, k, none⟩ = some (.pointer (some ⟨p.sb, 0, none⟩)) ∧ V6.cell? ⟨β.bk, 1, none⟩ = some (.slice (some ⟨gR6, 0, none⟩) N cR6) ∧ V6.cell? ⟨gR6, k, none⟩ = some (.pointer (some ⟨p.rb, 0, none⟩)) ∧ V6.cell? ⟨ob, 3, none⟩ = some (.int .i64 (m : Int)) := ⟨q0, q1, q2, q3, z4⟩
           have HE6 := Lib.hid E6
           have HT6 := Lib.hid T6
           clear E6 T6 hvS6 hvR6 hLd6 q0 q1 q2 q3))
      all_goals
        have hL := Lib.hid (Later.cut (p := p) hm)
        have EF : Env w0 τ6 V6 (ents β.ar (β.ps.set k { p with rs := p.rs.take m, born := p.born.take m, lows := lowTo m p.lows })) [] C := by
          refine ents_two HB.out.many (by rw [HN.out]; exact hk) HE6.out ?_ ?_ (fun x hx h1 h2 => ?_)
          · exact List.mem_cons_of_mem _ (mem_others.2 ⟨List.mem_cons_self .., by show 2 * k + 1 ≠ refS + k; unfold refS; omega⟩)
          · exact List.mem_cons_self ..
          · exact List.mem_cons_of_mem _ (mem_others.2 ⟨List.mem_cons_of_mem _ (mem_others.2 ⟨hx, h1⟩), h2⟩)
        have HEF := Lib.hid EF
        have hsf : w.heap.size ≤ V6.heap.size := Nat.le_trans sx (Nat.le_trans HT5.out.size HT6.out.size)
        have hrl : (p.rs.take m).length ≤ v + u := by rw [List.length_take]; omega
        have hnl : p.n ≤ v + u ∧ p.clock ≤ v + u := by omega
        clear EF
        go_wp2_with fail
        go_ret
        exact ⟨rfl, _, _, _, Step.put HB.out Hp.out hL.out HEF.out hsf, BLater.set HPP.out Hp.out hL.out rfl, HLm.out.put (Nat.le_add_right _ _) ⟨hrl, hnl⟩⟩
    · have hbad : n < 0 ∨ (p.rs.length : Int) < n := by omega
      have cA := Lib.hid (env_undo_st_bad (HEx.out.stay (Below.refl _ _).drew) HmS.out (by omega) n hbad)
      have cB := Lib.hid (env_undo_rf_bad (HEx.out.stay (Below.refl _ _).drew) HmR.out n hbad)
      clear hv hbad
      go_upto_region 39 with fail
      go_region_held3 (fun w' => w'.cell? ⟨β.bk, 0, none⟩ = some (.slice (some ⟨gS, 0, none⟩) N cS) ∧ w'.cell? ⟨gS, k, none⟩ = some (.pointer (some ⟨p.sb, 0, none⟩)) ∧ w'.cell? ⟨β.bk, 1, none⟩ = some (.slice (some ⟨gR, 0, none⟩) N cR) ∧ w'.cell? ⟨gR, k, none⟩ = some (.pointer (some ⟨p.rb, 0, none⟩)) ∧ w'.cell? ⟨ob, 3, none⟩ = some (.int .i64 n)) (first | assumption | exact ⟨s0, s1, r0, r1, y3⟩ | go_keep) (first
        | (go_at_call 20
           with_reducible refine cA.out.mono ?_
           rintro e v5 ⟨rfl, rfl⟩)
        | (go_at_call 60
           with_reducible refine cB.out.mono ?_
           rintro e v6 ⟨rfl, rfl⟩))
      all_goals
        go_wp2_with fail
        go_ret
        exact ⟨rfl, β, τ, C, Step.ofMore HE0.out HB.out (HEx.out.stay (Below.refl _ _).drew) (fun x h => h) (Nat.le_trans sx (Nat.le_refl _)), BLater.refl HPP.out, HLm.out.mono (Nat.le_add_right _ _)⟩
end Go.Proofs.Ytgodidoibcomcaa.Bk
