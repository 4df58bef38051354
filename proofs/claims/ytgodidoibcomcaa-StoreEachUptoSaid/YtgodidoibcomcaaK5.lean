/-
  The book of StoreScript, StoreTries, StoreEach: several of its texts in one.
-/
import Derived.Test.YtgodidoibcomcaaK3
namespace Go.Proofs.Ytgodidoibcomcaa.Bk
open Go.RowKit Go.Proofs.Ytgodidoibcomcaa

set_option linter.unusedSimpArgs false in
set_option maxHeartbeats 16000000 in
set_option maxRecDepth 100000 in
theorem flat_Has {w0 : World} {τ : Own} {w : World} {β : Book} {C : List Box} {U u v : Nat} {Ops : Option Addr → Nat → Nat → Prop} (E : Env w0 τ w (ents β.ar β.ps) [] C) (B : BookOk β C) (HP : ∀ p ∈ β.ps, PrOk p) (x : OpD) (hx : OpIn Ops w0 x u) (hL : Lim U β v) (hU : v + u ≤ U) (hU2 : U ≤ 1048576) (hkind : x.kind = 1) :
    Calls Try.prog 26 #[.pointer (some ⟨β.bk, 0, none⟩), .agg x.cells] w (FlatEnd w0 β C U (v + u) w) := by
  have hu := hx.weigh
  obtain ⟨kind, on, ra, rc, l, n, place, id, ia, inn, ic, say⟩ := x
  obtain ⟨hx, hcap, hok, hargs, hrk, hrn, hrp, hri, -⟩ := hx
  simp only at hx hok hargs hu hcap hrn hrp hri hkind
  subst hkind
  obtain ⟨L, hLl⟩ : ∃ L, l.length = L := ⟨_, rfl⟩
  have HLl := Lib.hid hLl
  rw [hLl] at hcap hu
  have hps := hL.ps
  have hmany := B.many
  have hpos := B.pos
  obtain ⟨N, hN⟩ : ∃ N, β.ps.length = N := ⟨_, rfl⟩
  rw [hN] at hps hmany hpos
  obtain ⟨W0, hW0⟩ : ∃ W, W = w.alloc (.cells (opCells 1 on (.slice ra L rc) n place id (.slice ia inn ic) say) 54) := ⟨_, rfl⟩
  obtain ⟨ob, hob⟩ : ∃ b, b = w.heap.size := ⟨_, rfl⟩
  have hb0 : Below w.heap.size w W0 := by rw [hW0]; exact (Below.refl _ _).alloc (Nat.le_refl _) _
  have hbw0 : Below w0.heap.size w0 W0 := E.below.trans (hb0.mono E.below.size)
  have HE0 := Lib.hid E
  have Hob0 : Hid (τ ob = none) := Lib.hid (E.fresh ob (by omega))
  have HX := Lib.hid hx
  have HO := Lib.hid hok
  have HA := Lib.hid hargs
  have HB := Lib.hid B
  have HPP := Lib.hid HP
  have HLm := Lib.hid hL
  have hl6 : L ≤ 1048576 := by omega
  obtain ⟨gS, cS, gR, cR, hvS, hvR, hLd⟩ := B.leads (E.stay hb0) (k := 0) (p := β.ps[0]'(by rw [hN]; exact hpos)) (List.getElem?_eq_getElem _)
  have s0 := hLd.s0
  rw [hN] at s0 hvS hvR
  have cOn := Lib.hid (on_any s0 hpos hmany 1 on ra L rc n place id ia inn ic say)
  have HN := Lib.hid hN
  have HvS := Lib.hid hvS
  have HvR := Lib.hid hvR
  have xall : ∀ (j : Nat) y, (opCells 1 on (.slice ra L rc) n place id (.slice ia inn ic) say)[j]? = some y → W0.cell? ⟨ob, j, none⟩ = some y := fun j y hy => by rw [hW0, hob]; simp [hy]
  have z0 : W0.cell? ⟨ob, 0, none⟩ = some (.int .i64 1) := xall 0 _ rfl
  have z1 : W0.cell? ⟨ob, 1, none⟩ = some (.int .i64 on) := xall 1 _ rfl
  have z2 : W0.cell? ⟨ob, 2, none⟩ = some (.slice ra L rc) := xall 2 _ rfl
  have z3 : W0.cell? ⟨ob, 3, none⟩ = some (.int .i64 n) := xall 3 _ rfl
  have z4 : W0.cell? ⟨ob, 4, none⟩ = some (.int .i64 place) := xall 4 _ rfl
  have z5 : W0.cell? ⟨ob, 5, none⟩ = some (.int .i64 id) := xall 5 _ rfl
  have z6 : W0.cell? ⟨ob, 6, none⟩ = some (.slice ia inn ic) := xall 6 _ rfl
  have z7 : W0.cell? ⟨ob, 7, none⟩ = some (.bool say) := xall 7 _ rfl
  unfold opCells at cOn hW0
  unfold OpD.cells opCells
  simp only
  rw [hLl]
  have HW0 := Lib.hid hW0
  have Hob := Lib.hid hob
  clear hLl hx hok hargs hL E B HP hvS hvR hN xall hW0 hob hLd s0
  go_enter Try.func26, Try.ntmps26
  go_upto_region 1 with fail
  rw [← HW0.out, ← Hob.out]
  go_upto_region 2 with (first | (go_at_call 50; with_reducible refine cOn.out.mono ?_; rintro e W1 ⟨k, hk, rfl, hb1⟩))
  have y0 := on_cell hb1 z0
  have y2 := on_cell hb1 z2
  have y3 := on_cell hb1 z3
  have y4 := on_cell hb1 z4
  have y5 := on_cell hb1 z5
  clear z0 z1 z2 z3 z4 z5 z6 z7 cOn
  go_upto_region 3 with fail
  obtain ⟨W2, hW2⟩ : ∃ W, W = W1.alloc (.cells #[.int .i64 (-1), .slice none 0 0] 28) := ⟨_, rfl⟩
  obtain ⟨fb, hfb⟩ : ∃ b, b = W1.heap.size := ⟨_, rfl⟩
  have hb2 : Below W1.heap.size W1 W2 := by rw [hW2]; exact (Below.refl _ _).alloc (Nat.le_refl _) _
  have f0 : W2.cell? ⟨fb, 0, none⟩ = some (.int .i64 (-1)) := by rw [hW2, hfb]; simp
  have f1 : W2.cell? ⟨fb, 1, none⟩ = some (.slice none 0 0) := by rw [hW2, hfb]; simp
  have ff0 : W2.frozen? ⟨fb, 0, none⟩ = false := by rw [hW2, hfb]; simp
  have ff1 : W2.frozen? ⟨fb, 1, none⟩ = false := by rw [hW2, hfb]; simp
  have hb02 : Below w.heap.size w W2 := (hb0.trans (hb1.mono hb0.size)).trans (hb2.mono (hb0.trans (hb1.mono hb0.size)).size)
  have hfw : w.heap.size ≤ fb := by rw [hfb]; exact (hb0.trans (hb1.mono hb0.size)).size
  have y0 := on_cell hb2 y0
  have y2 := on_cell hb2 y2
  have y3 := on_cell hb2 y3
  have y4 := on_cell hb2 y4
  have y5 := on_cell hb2 y5
  have hobf : ob ≠ fb := by
    have h1 : ob < W1.heap.size := World.block_lt_of_cell? _ _ (‹W1.cell? ⟨ob, 0, none⟩ = some _›)
    omega
  rw [← hW2, ← hfb]
  clear hW2 hfb
  go_upto_if 25 with fail
  go_cut [] (fun wx => ∃ (P : Int) (a : Option Addr) (c : Nat) (xs : List Int), Hid (Below w.heap.size w wx ∧ IntsZ (fun _ => True) wx a c xs ∧ RowOk (P, xs) ∧ xs.length ≤ 1048576) ∧ wx.cell? ⟨fb, 0, none⟩ = some (.int .i64 P) ∧ wx.cell? ⟨fb, 1, none⟩ = some (.slice a xs.length c) ∧ wx.cell? ⟨ob, 0, none⟩ = some (.int .i64 1) ∧ wx.cell? ⟨ob, 3, none⟩ = some (.int .i64 n) ∧ wx.cell? ⟨ob, 4, none⟩ = some (.int .i64 place) ∧ wx.cell? ⟨ob, 5, none⟩ = some (.int .i64 id))
  case first =>
    by_cases hl0 : l = []
    · subst hl0
      obtain rfl : L = 0 := by rw [← HLl.out]; rfl
      go_wp2_with fail
      go_meet
      exact ⟨-1, none, 0, [], Lib.hid ⟨hb02, ⟨.inl rfl, fun _ => ⟨rfl, rfl⟩⟩, ⟨⟨by simp, by simp⟩, by simp, fun x hx => by cases hx⟩, by simp⟩, f0, f1, y0, y3, y4, y5⟩
    · obtain ⟨r, l', rfl⟩ := List.exists_cons_of_ne_nil hl0
      have hd0 : 0 < L := by rw [← HLl.out]; simp
      have hd : decide (0 < L) = true := by rw [decide_eq_true_eq]; exact hd0
      have hc1 : 1 ≤ rc := by omega
      have hra := HA.out r (List.mem_cons_self ..)
      have hrk := HO.out r (List.mem_cons_self ..)
      have hW2 : Below w0.heap.size w0 W2 := HE0.out.below.trans (hb02.mono HE0.out.below.size)
      have cD : Hid (Calls Try.prog 40 #[.slice ra 1 rc] W2 fun e w' => ∃ v cs vs, e = .returned v ∧ DRows W2.heap.size w' v [r] cs vs ∧ Below W2.heap.size W2 w') := Lib.hid (drows_any ra rc [r] W2 ((RowsZ.head HX.out).below hW2 (Nat.le_refl _)) (fun q hq => by rw [List.mem_singleton] at hq; subst hq; omega) (by simp))
      have s2 := hb02.size
      go_wp2_with (first | (go_at_call 40; with_reducible refine cD.out.mono ?_; rintro e W3 ⟨vg, cs, vs, rfl, hD, hb3⟩; obtain ⟨g, cg, ga, gc, rfl, d0, d1, hI⟩ := hD.one; have y0' := on_cell hb3 y0; have y3' := on_cell hb3 y3; have y4' := on_cell hb3 y4; have y5' := on_cell hb3 y5; have f0' := on_cell hb3 f0; have f1' := on_cell hb3 f1; have ff0' := (hb3.frozen (p := ⟨fb, 0, none⟩) (World.block_lt_of_cell? _ _ f0)).trans ff0; have ff1' := (hb3.frozen (p := ⟨fb, 1, none⟩) (World.block_lt_of_cell? _ _ f1)).trans ff1))
      go_meet
      have hb23 := hb02.trans (hb3.mono s2)
      have hlt0 : ¬ fb < w.heap.size := by omega
      obtain ⟨e0, e1, far⟩ := set_two (v0 := .int .i64 r.1) (v1 := .slice ga r.2.length gc) f0' f1'
      have hfb2 := World.block_lt_of_cell? _ _ f0
      exact ⟨r.1, ga, gc, r.2, Lib.hid ⟨(hb23.setCell (p := ⟨fb, 0, none⟩) hfw _).setCell (p := ⟨fb, 1, none⟩) hfw _, hI.out.keep (fun j hj hz => (Below.heap_setCell _ _ _ j (fun e => by have hz : W2.heap.size ≤ j := hz; have e : j = fb := e; simp only at hfb2; omega)).trans (Below.heap_setCell _ _ _ j (fun e => by have hz : W2.heap.size ≤ j := hz; have e : j = fb := e; simp only at hfb2; omega))) (fun _ _ _ => trivial), hrk, hra⟩, e0, e1, far hobf y0', far hobf y3', far hobf y4', far hobf y5'⟩
  case rest =>
    obtain ⟨P, a, c, xs, HF, f0, f1, y0, y3, y4, y5⟩ := hcut
    have hbx := HF.out.1
    have HEx := Lib.hid (HE0.out.stay hbx)
    obtain ⟨p, hp⟩ : ∃ p, β.ps[k]? = some p := ⟨_, List.getElem?_eq_getElem (by rw [HN.out]; exact hk)⟩
    have HmS : Hid (stE β.ar k p ∈ ents β.ar β.ps) := Lib.hid (mem_ents.2 ⟨k, p, hp, .inl rfl⟩)
    have HmR : Hid (rfE β.ar k p ∈ ents β.ar β.ps) := Lib.hid (mem_ents.2 ⟨k, p, hp, .inr rfl⟩)
    have hlp := HLm.out.rs p (List.mem_of_getElem? hp)
    have hprv : p.rows.length ≤ v := by rw [show p.rows.length = p.rs.length from List.length_map _]; omega
    have hpr : p.rows.length ≤ 1048576 := by omega
    obtain ⟨gS, cS, gR, cR, hvS, hvR, hLd⟩ := HB.out.leads HEx.out hp
    have s0 := hLd.s0
    have s1 := hLd.s1
    have r0 := hLd.r0
    have r1 := hLd.r1
    rw [HN.out] at s0 r0
    have HvS := Lib.hid hvS
    have HvR := Lib.hid hvR
    have Hp := Lib.hid hp
    have sx := hbx.size
    clear hLd hvS hvR hp
    obtain ⟨W3, hW3⟩ : ∃ W, W = wc.alloc (.cells #[.int .i64 P, .slice a xs.length c] 28) := ⟨_, rfl⟩
    obtain ⟨tb, htb⟩ : ∃ b, b = wc.heap.size := ⟨_, rfl⟩
    have hb3 : Below wc.heap.size wc W3 := by rw [hW3]; exact (Below.refl _ _).alloc (Nat.le_refl _) _
    obtain ⟨hF1, hI, hRk, hx8⟩ := HF.out
    have cD : Hid (Calls Try.prog 40 #[.slice (some ⟨tb, 0, none⟩) 1 1] W3 fun e w' => ∃ v cs vs, e = .returned v ∧ DRows W3.heap.size w' v [(P, xs)] cs vs ∧ Below W3.heap.size W3 w') := Lib.hid (drows_any (some ⟨tb, 0, none⟩) 1 [(P, xs)] W3 (Z := fun _ => True) ⟨.inr ⟨tb, 0, rfl, trivial, fun i hi => by
      have : i = 0 := by simp at hi; omega
      subst this
      refine ⟨by rw [hW3, htb]; simp, a, c, by rw [hW3, htb]; simp, hI.below hb3 (Nat.le_refl _)⟩⟩, fun h => by cases h⟩ (fun q hq => by rw [List.mem_singleton] at hq; subst hq; simp only; omega) (by simp))
    have HI := Lib.hid hI
    have HRk := Lib.hid hRk
    have HW3 := Lib.hid hW3
    have Htb := Lib.hid htb
    clear hF1 hI hRk hW3 htb
    go_wp2_with (first | (go_at_call 40; rw [← HW3.out, ← Htb.out]; with_reducible refine cD.out.mono ?_; rintro e W4 ⟨vg, cs, vs, rfl, hD, hb4⟩; obtain ⟨g, cg, ga, gc, rfl, d0, d1, hJ⟩ := hD.one; have hb34 := hb3.trans (hb4.mono hb3.size); have s0' := on_cell hb34 s0; have s1' := on_cell hb34 s1; have r0' := on_cell hb34 r0; have r1' := on_cell hb34 r1; have f0' := on_cell hb34 f0; have f1' := on_cell hb34 f1))
    obtain ⟨W5, hW5⟩ : ∃ W, W = W4.alloc (.cells #[.int .i64 P, .slice ga xs.length gc] 28) := ⟨_, rfl⟩
    obtain ⟨ow, how⟩ : ∃ b, b = W4.heap.size := ⟨_, rfl⟩
    have hb5 : Below W4.heap.size W4 W5 := by rw [hW5]; exact (Below.refl _ _).alloc (Nat.le_refl _) _
    have x0 : W5.cell? ⟨ow, 0, none⟩ = some (.int .i64 P) := by rw [hW5, how]; simp
    have x1 : W5.cell? ⟨ow, 1, none⟩ = some (.slice ga xs.length gc) := by rw [hW5, how]; simp
    rw [← hW5, ← how]
    have hb35 : Below wc.heap.size wc W5 := hb34.trans (hb5.mono hb34.size)
    have s0 := on_cell hb35 s0
    have s1 := on_cell hb35 s1
    have r0 := on_cell hb35 r0
    have r1 := on_cell hb35 r1
    have f0 := on_cell hb35 f0
    have f1 := on_cell hb35 f1
    have cA := Lib.hid (env_has_st (HEx.out.stay (hb35.trans ((Below.refl _ _).drew.mono hb35.size))) HmS.out (by omega) P ga gc xs ((hJ.out.below hb5 (Nat.le_refl _)).below (Below.refl _ _).drew (Nat.le_refl _)) HRk.out)
    have cB := Lib.hid (fun (W : World) (hW : Below W5.heap.size W5 W) => env_has_rf (HEx.out.stay (hb35.trans (hW.mono hb35.size))) HmR.out P a c xs ((HI.out.below hb35 (Nat.le_refl _)).below hW (Nat.le_refl _)).ints)
    have cC := Lib.hid (fun (W : World) (hW : Below W5.heap.size W5 W) => requal_any P P ga a gc c xs xs W ((hJ.out.below hb5 (Nat.le_refl _)).below hW (Nat.le_refl _)).ints ((HI.out.below hb35 (Nat.le_refl _)).below hW (Nat.le_refl _)).ints (by omega))
    simp only [decide_true] at cC
    obtain ⟨R, hR⟩ : ∃ R, decide (0 ≤ numI p.rows (P, xs)) = R := ⟨_, rfl⟩
    rw [hR] at cA cB
    clear hR hW5 how s0' s1' r0' r1' f0' f1' hD hJ d0 d1 hb4 hb34
    go_region_held3 (fun w' => Below W5.heap.size W5 w' ∧ w'.cell? ⟨β.bk, 0, none⟩ = some (.slice (some ⟨gS, 0, none⟩) N cS) ∧ w'.cell? ⟨gS, k, none⟩ = some (.pointer (some ⟨p.sb, 0, none⟩)) ∧ w'.cell? ⟨β.bk, 1, none⟩ = some (.slice (some ⟨gR, 0, none⟩) N cR) ∧ w'.cell? ⟨gR, k, none⟩ = some (.pointer (some ⟨p.rb, 0, none⟩)) ∧ w'.cell? ⟨ow, 0, none⟩ = some (.int .i64 P) ∧ w'.cell? ⟨ow, 1, none⟩ = some (.slice ga xs.length gc) ∧ w'.cell? ⟨fb, 0, none⟩ = some (.int .i64 P) ∧ w'.cell? ⟨fb, 1, none⟩ = some (.slice a xs.length c)) (first | assumption | exact ⟨(Below.refl _ _).drew, s0, s1, r0, r1, x0, x1, f0, f1⟩ | go_keep) (first
      | (go_at_call 46
         with_reducible refine cA.out.mono ?_
         rintro e V6 ⟨rfl, hb6'⟩
         have hb6 : Below W5.heap.size W5 V6 := (Below.refl _ _).drew.trans hb6'
         have hS6 : Below W5.heap.size W5 V6 ∧ V6.cell? ⟨β.bk, 0, none⟩ = some (.slice (some ⟨gS, 0, none⟩) N cS) ∧ V6.cell? ⟨gS, k, none⟩ = some (.pointer (some ⟨p.sb, 0, none⟩)) ∧ V6.cell? ⟨β.bk, 1, none⟩ = some (.slice (some ⟨gR, 0, none⟩) N cR) ∧ V6.cell? ⟨gR, k, none⟩ = some (.pointer (some ⟨p.rb, 0, none⟩)) ∧ V6.cell? ⟨ow, 0, none⟩ = some (.int .i64 P) ∧ V6.cell? ⟨ow, 1, none⟩ = some (.slice ga xs.length gc) ∧ V6.cell? ⟨fb, 0, none⟩ = some (.int .i64 P) ∧ V6.cell? ⟨fb, 1, none⟩ = some (.slice a xs.length c) := ⟨hb6, on_cell hb6 s0, on_cell hb6 s1, on_cell hb6 r0, on_cell hb6 r1, on_cell hb6 x0, on_cell hb6 x1, on_cell hb6 f0, on_cell hb6 f1⟩)
      | (go_at_call 52
         with_reducible refine (cB.out _ hb6).mono ?_
         rintro e V7 ⟨rfl, hb7'⟩
         have hb7 := hb6.trans (hb7'.mono hb6.size)
         have hS7 : Below W5.heap.size W5 V7 ∧ V7.cell? ⟨β.bk, 0, none⟩ = some (.slice (some ⟨gS, 0, none⟩) N cS) ∧ V7.cell? ⟨gS, k, none⟩ = some (.pointer (some ⟨p.sb, 0, none⟩)) ∧ V7.cell? ⟨β.bk, 1, none⟩ = some (.slice (some ⟨gR, 0, none⟩) N cR) ∧ V7.cell? ⟨gR, k, none⟩ = some (.pointer (some ⟨p.rb, 0, none⟩)) ∧ V7.cell? ⟨ow, 0, none⟩ = some (.int .i64 P) ∧ V7.cell? ⟨ow, 1, none⟩ = some (.slice ga xs.length gc) ∧ V7.cell? ⟨fb, 0, none⟩ = some (.int .i64 P) ∧ V7.cell? ⟨fb, 1, none⟩ = some (.slice a xs.length c) := ⟨hb7, on_cell hb7 s0, on_cell hb7 s1, on_cell hb7 r0, on_cell hb7 r1, on_cell hb7 x0, on_cell hb7 x1, on_cell hb7 f0, on_cell hb7 f1⟩)
      | (go_at_call 53
         with_reducible refine (cC.out _ hb7).mono ?_
         rintro e V8 ⟨rfl, hb8'⟩
         have hb8 := hb7.trans (hb8'.mono hb7.size)
         have hS8 : Below W5.heap.size W5 V8 ∧ V8.cell? ⟨β.bk, 0, none⟩ = some (.slice (some ⟨gS, 0, none⟩) N cS) ∧ V8.cell? ⟨gS, k, none⟩ = some (.pointer (some ⟨p.sb, 0, none⟩)) ∧ V8.cell? ⟨β.bk, 1, none⟩ = some (.slice (some ⟨gR, 0, none⟩) N cR) ∧ V8.cell? ⟨gR, k, none⟩ = some (.pointer (some ⟨p.rb, 0, none⟩)) ∧ V8.cell? ⟨ow, 0, none⟩ = some (.int .i64 P) ∧ V8.cell? ⟨ow, 1, none⟩ = some (.slice ga xs.length gc) ∧ V8.cell? ⟨fb, 0, none⟩ = some (.int .i64 P) ∧ V8.cell? ⟨fb, 1, none⟩ = some (.slice a xs.length c) := ⟨hb8, on_cell hb8 s0, on_cell hb8 s1, on_cell hb8 r0, on_cell hb8 r1, on_cell hb8 x0, on_cell hb8 x1, on_cell hb8 f0, on_cell hb8 f1⟩))
    all_goals
      have hbf : Below wc.heap.size wc V8 := hb35.trans (hb8.mono hb35.size)
      go_wp2_with fail
      go_ret
      exact ⟨rfl, β, τ, C, Step.ofMore HE0.out HB.out (HEx.out.stay hbf) (fun x h => h) (Nat.le_trans sx hbf.size), BLater.refl HPP.out, HLm.out.mono (Nat.le_add_right _ _)⟩
end Go.Proofs.Ytgodidoibcomcaa.Bk

namespace Go.Proofs.Ytgodidoibcomcaa.Bk
open Go.RowKit Go.Proofs.Ytgodidoibcomcaa

set_option linter.unusedSimpArgs false in
set_option maxHeartbeats 16000000 in
set_option maxRecDepth 100000 in
theorem flat_Num {w0 : World} {τ : Own} {w : World} {β : Book} {C : List Box} {U u v : Nat} {Ops : Option Addr → Nat → Nat → Prop} (E : Env w0 τ w (ents β.ar β.ps) [] C) (B : BookOk β C) (HP : ∀ p ∈ β.ps, PrOk p) (x : OpD) (hx : OpIn Ops w0 x u) (hL : Lim U β v) (hU : v + u ≤ U) (hU2 : U ≤ 1048576) (hkind : x.kind = 2) :
    Calls Try.prog 26 #[.pointer (some ⟨β.bk, 0, none⟩), .agg x.cells] w (FlatEnd w0 β C U (v + u) w) := by
  have hu := hx.weigh
  obtain ⟨kind, on, ra, rc, l, n, place, id, ia, inn, ic, say⟩ := x
  obtain ⟨hx, hcap, hok, hargs, hrk, hrn, hrp, hri, -⟩ := hx
  simp only at hx hok hargs hu hcap hrn hrp hri hkind
  subst hkind
  obtain ⟨L, hLl⟩ : ∃ L, l.length = L := ⟨_, rfl⟩
  have HLl := Lib.hid hLl
  rw [hLl] at hcap hu
  have hps := hL.ps
  have hmany := B.many
  have hpos := B.pos
  obtain ⟨N, hN⟩ : ∃ N, β.ps.length = N := ⟨_, rfl⟩
  rw [hN] at hps hmany hpos
  obtain ⟨W0, hW0⟩ : ∃ W, W = w.alloc (.cells (opCells 2 on (.slice ra L rc) n place id (.slice ia inn ic) say) 54) := ⟨_, rfl⟩
  obtain ⟨ob, hob⟩ : ∃ b, b = w.heap.size := ⟨_, rfl⟩
  have hb0 : Below w.heap.size w W0 := by rw [hW0]; exact (Below.refl _ _).alloc (Nat.le_refl _) _
  have hbw0 : Below w0.heap.size w0 W0 := E.below.trans (hb0.mono E.below.size)
  have HE0 := Lib.hid E
  have Hob0 : Hid (τ ob = none) := Lib.hid (E.fresh ob (by omega))
  have HX := Lib.hid hx
  have HO := Lib.hid hok
  have HA := Lib.hid hargs
  have HB := Lib.hid B
  have HPP := Lib.hid HP
  have HLm := Lib.hid hL
  have hl6 : L ≤ 1048576 := by omega
  obtain ⟨gS, cS, gR, cR, hvS, hvR, hLd⟩ := B.leads (E.stay hb0) (k := 0) (p := β.ps[0]'(by rw [hN]; exact hpos)) (List.getElem?_eq_getElem _)
  have s0 := hLd.s0
  rw [hN] at s0 hvS hvR
  have cOn := Lib.hid (on_any s0 hpos hmany 2 on ra L rc n place id ia inn ic say)
  have HN := Lib.hid hN
  have HvS := Lib.hid hvS
  have HvR := Lib.hid hvR
  have xall : ∀ (j : Nat) y, (opCells 2 on (.slice ra L rc) n place id (.slice ia inn ic) say)[j]? = some y → W0.cell? ⟨ob, j, none⟩ = some y := fun j y hy => by rw [hW0, hob]; simp [hy]
  have z0 : W0.cell? ⟨ob, 0, none⟩ = some (.int .i64 2) := xall 0 _ rfl
  have z1 : W0.cell? ⟨ob, 1, none⟩ = some (.int .i64 on) := xall 1 _ rfl
  have z2 : W0.cell? ⟨ob, 2, none⟩ = some (.slice ra L rc) := xall 2 _ rfl
  have z3 : W0.cell? ⟨ob, 3, none⟩ = some (.int .i64 n) := xall 3 _ rfl
  have z4 : W0.cell? ⟨ob, 4, none⟩ = some (.int .i64 place) := xall 4 _ rfl
  have z5 : W0.cell? ⟨ob, 5, none⟩ = some (.int .i64 id) := xall 5 _ rfl
  have z6 : W0.cell? ⟨ob, 6, none⟩ = some (.slice ia inn ic) := xall 6 _ rfl
  have z7 : W0.cell? ⟨ob, 7, none⟩ = some (.bool say) := xall 7 _ rfl
  unfold opCells at cOn hW0
  unfold OpD.cells opCells
  simp only
  rw [hLl]
  have HW0 := Lib.hid hW0
  have Hob := Lib.hid hob
  clear hLl hx hok hargs hL E B HP hvS hvR hN xall hW0 hob hLd s0
  go_enter Try.func26, Try.ntmps26
  go_upto_region 1 with fail
  rw [← HW0.out, ← Hob.out]
  go_upto_region 2 with (first | (go_at_call 50; with_reducible refine cOn.out.mono ?_; rintro e W1 ⟨k, hk, rfl, hb1⟩))
  have y0 := on_cell hb1 z0
  have y2 := on_cell hb1 z2
  have y3 := on_cell hb1 z3
  have y4 := on_cell hb1 z4
  have y5 := on_cell hb1 z5
  clear z0 z1 z2 z3 z4 z5 z6 z7 cOn
  go_upto_region 3 with fail
  obtain ⟨W2, hW2⟩ : ∃ W, W = W1.alloc (.cells #[.int .i64 (-1), .slice none 0 0] 28) := ⟨_, rfl⟩
  obtain ⟨fb, hfb⟩ : ∃ b, b = W1.heap.size := ⟨_, rfl⟩
  have hb2 : Below W1.heap.size W1 W2 := by rw [hW2]; exact (Below.refl _ _).alloc (Nat.le_refl _) _
  have f0 : W2.cell? ⟨fb, 0, none⟩ = some (.int .i64 (-1)) := by rw [hW2, hfb]; simp
  have f1 : W2.cell? ⟨fb, 1, none⟩ = some (.slice none 0 0) := by rw [hW2, hfb]; simp
  have ff0 : W2.frozen? ⟨fb, 0, none⟩ = false := by rw [hW2, hfb]; simp
  have ff1 : W2.frozen? ⟨fb, 1, none⟩ = false := by rw [hW2, hfb]; simp
  have hb02 : Below w.heap.size w W2 := (hb0.trans (hb1.mono hb0.size)).trans (hb2.mono (hb0.trans (hb1.mono hb0.size)).size)
  have hfw : w.heap.size ≤ fb := by rw [hfb]; exact (hb0.trans (hb1.mono hb0.size)).size
  have y0 := on_cell hb2 y0
  have y2 := on_cell hb2 y2
  have y3 := on_cell hb2 y3
  have y4 := on_cell hb2 y4
  have y5 := on_cell hb2 y5
  have hobf : ob ≠ fb := by
    have h1 : ob < W1.heap.size := World.block_lt_of_cell? _ _ (‹W1.cell? ⟨ob, 0, none⟩ = some _›)
    omega
  rw [← hW2, ← hfb]
  clear hW2 hfb
  go_upto_if 25 with fail
  go_cut [] (fun wx => ∃ (P : Int) (a : Option Addr) (c : Nat) (xs : List Int), Hid (Below w.heap.size w wx ∧ IntsZ (fun _ => True) wx a c xs ∧ RowOk (P, xs) ∧ xs.length ≤ 1048576) ∧ wx.cell? ⟨fb, 0, none⟩ = some (.int .i64 P) ∧ wx.cell? ⟨fb, 1, none⟩ = some (.slice a xs.length c) ∧ wx.cell? ⟨ob, 0, none⟩ = some (.int .i64 2) ∧ wx.cell? ⟨ob, 3, none⟩ = some (.int .i64 n) ∧ wx.cell? ⟨ob, 4, none⟩ = some (.int .i64 place) ∧ wx.cell? ⟨ob, 5, none⟩ = some (.int .i64 id))
  case first =>
    by_cases hl0 : l = []
    · subst hl0
      obtain rfl : L = 0 := by rw [← HLl.out]; rfl
      go_wp2_with fail
      go_meet
      exact ⟨-1, none, 0, [], Lib.hid ⟨hb02, ⟨.inl rfl, fun _ => ⟨rfl, rfl⟩⟩, ⟨⟨by simp, by simp⟩, by simp, fun x hx => by cases hx⟩, by simp⟩, f0, f1, y0, y3, y4, y5⟩
    · obtain ⟨r, l', rfl⟩ := List.exists_cons_of_ne_nil hl0
      have hd0 : 0 < L := by rw [← HLl.out]; simp
      have hd : decide (0 < L) = true := by rw [decide_eq_true_eq]; exact hd0
      have hc1 : 1 ≤ rc := by omega
      have hra := HA.out r (List.mem_cons_self ..)
      have hrk := HO.out r (List.mem_cons_self ..)
      have hW2 : Below w0.heap.size w0 W2 := HE0.out.below.trans (hb02.mono HE0.out.below.size)
      have cD : Hid (Calls Try.prog 40 #[.slice ra 1 rc] W2 fun e w' => ∃ v cs vs, e = .returned v ∧ DRows W2.heap.size w' v [r] cs vs ∧ Below W2.heap.size W2 w') := Lib.hid (drows_any ra rc [r] W2 ((RowsZ.head HX.out).below hW2 (Nat.le_refl _)) (fun q hq => by rw [List.mem_singleton] at hq; subst hq; omega) (by simp))
      have s2 := hb02.size
      go_wp2_with (first | (go_at_call 40; with_reducible refine cD.out.mono ?_; rintro e W3 ⟨vg, cs, vs, rfl, hD, hb3⟩; obtain ⟨g, cg, ga, gc, rfl, d0, d1, hI⟩ := hD.one; have y0' := on_cell hb3 y0; have y3' := on_cell hb3 y3; have y4' := on_cell hb3 y4; have y5' := on_cell hb3 y5; have f0' := on_cell hb3 f0; have f1' := on_cell hb3 f1; have ff0' := (hb3.frozen (p := ⟨fb, 0, none⟩) (World.block_lt_of_cell? _ _ f0)).trans ff0; have ff1' := (hb3.frozen (p := ⟨fb, 1, none⟩) (World.block_lt_of_cell? _ _ f1)).trans ff1))
      go_meet
      have hb23 := hb02.trans (hb3.mono s2)
      have hlt0 : ¬ fb < w.heap.size := by omega
      obtain ⟨e0, e1, far⟩ := set_two (v0 := .int .i64 r.1) (v1 := .slice ga r.2.length gc) f0' f1'
      have hfb2 := World.block_lt_of_cell? _ _ f0
      exact ⟨r.1, ga, gc, r.2, Lib.hid ⟨(hb23.setCell (p := ⟨fb, 0, none⟩) hfw _).setCell (p := ⟨fb, 1, none⟩) hfw _, hI.out.keep (fun j hj hz => (Below.heap_setCell _ _ _ j (fun e => by have hz : W2.heap.size ≤ j := hz; have e : j = fb := e; simp only at hfb2; omega)).trans (Below.heap_setCell _ _ _ j (fun e => by have hz : W2.heap.size ≤ j := hz; have e : j = fb := e; simp only at hfb2; omega))) (fun _ _ _ => trivial), hrk, hra⟩, e0, e1, far hobf y0', far hobf y3', far hobf y4', far hobf y5'⟩
  case rest =>
    obtain ⟨P, a, c, xs, HF, f0, f1, y0, y3, y4, y5⟩ := hcut
    have hbx := HF.out.1
    have HEx := Lib.hid (HE0.out.stay hbx)
    obtain ⟨p, hp⟩ : ∃ p, β.ps[k]? = some p := ⟨_, List.getElem?_eq_getElem (by rw [HN.out]; exact hk)⟩
    have HmS : Hid (stE β.ar k p ∈ ents β.ar β.ps) := Lib.hid (mem_ents.2 ⟨k, p, hp, .inl rfl⟩)
    have HmR : Hid (rfE β.ar k p ∈ ents β.ar β.ps) := Lib.hid (mem_ents.2 ⟨k, p, hp, .inr rfl⟩)
    have hlp := HLm.out.rs p (List.mem_of_getElem? hp)
    have hprv : p.rows.length ≤ v := by rw [show p.rows.length = p.rs.length from List.length_map _]; omega
    have hpr : p.rows.length ≤ 1048576 := by omega
    obtain ⟨gS, cS, gR, cR, hvS, hvR, hLd⟩ := HB.out.leads HEx.out hp
    have s0 := hLd.s0
    have s1 := hLd.s1
    have r0 := hLd.r0
    have r1 := hLd.r1
    rw [HN.out] at s0 r0
    have HvS := Lib.hid hvS
    have HvR := Lib.hid hvR
    have Hp := Lib.hid hp
    have sx := hbx.size
    clear hLd hvS hvR hp
    obtain ⟨W3, hW3⟩ : ∃ W, W = wc.alloc (.cells #[.int .i64 P, .slice a xs.length c] 28) := ⟨_, rfl⟩
    obtain ⟨tb, htb⟩ : ∃ b, b = wc.heap.size := ⟨_, rfl⟩
    have hb3 : Below wc.heap.size wc W3 := by rw [hW3]; exact (Below.refl _ _).alloc (Nat.le_refl _) _
    obtain ⟨hF1, hI, hRk, hx8⟩ := HF.out
    have cD : Hid (Calls Try.prog 40 #[.slice (some ⟨tb, 0, none⟩) 1 1] W3 fun e w' => ∃ v cs vs, e = .returned v ∧ DRows W3.heap.size w' v [(P, xs)] cs vs ∧ Below W3.heap.size W3 w') := Lib.hid (drows_any (some ⟨tb, 0, none⟩) 1 [(P, xs)] W3 (Z := fun _ => True) ⟨.inr ⟨tb, 0, rfl, trivial, fun i hi => by
      have : i = 0 := by simp at hi; omega
      subst this
      refine ⟨by rw [hW3, htb]; simp, a, c, by rw [hW3, htb]; simp, hI.below hb3 (Nat.le_refl _)⟩⟩, fun h => by cases h⟩ (fun q hq => by rw [List.mem_singleton] at hq; subst hq; simp only; omega) (by simp))
    have HI := Lib.hid hI
    have HRk := Lib.hid hRk
    have HW3 := Lib.hid hW3
    have Htb := Lib.hid htb
    clear hF1 hI hRk hW3 htb
    go_wp2_with (first | (go_at_call 40; rw [← HW3.out, ← Htb.out]; with_reducible refine cD.out.mono ?_; rintro e W4 ⟨vg, cs, vs, rfl, hD, hb4⟩; obtain ⟨g, cg, ga, gc, rfl, d0, d1, hJ⟩ := hD.one; have hb34 := hb3.trans (hb4.mono hb3.size); have s0' := on_cell hb34 s0; have s1' := on_cell hb34 s1; have r0' := on_cell hb34 r0; have r1' := on_cell hb34 r1; have f0' := on_cell hb34 f0; have f1' := on_cell hb34 f1))
    obtain ⟨W5, hW5⟩ : ∃ W, W = W4.alloc (.cells #[.int .i64 P, .slice ga xs.length gc] 28) := ⟨_, rfl⟩
    obtain ⟨ow, how⟩ : ∃ b, b = W4.heap.size := ⟨_, rfl⟩
    have hb5 : Below W4.heap.size W4 W5 := by rw [hW5]; exact (Below.refl _ _).alloc (Nat.le_refl _) _
    have x0 : W5.cell? ⟨ow, 0, none⟩ = some (.int .i64 P) := by rw [hW5, how]; simp
    have x1 : W5.cell? ⟨ow, 1, none⟩ = some (.slice ga xs.length gc) := by rw [hW5, how]; simp
    rw [← hW5, ← how]
    have hb35 : Below wc.heap.size wc W5 := hb34.trans (hb5.mono hb34.size)
    have s0 := on_cell hb35 s0
    have s1 := on_cell hb35 s1
    have r0 := on_cell hb35 r0
    have r1 := on_cell hb35 r1
    have f0 := on_cell hb35 f0
    have f1 := on_cell hb35 f1
    have cA := Lib.hid (env_num_st (HEx.out.stay (hb35.trans ((Below.refl _ _).drew.mono hb35.size))) HmS.out (by omega) P ga gc xs ((hJ.out.below hb5 (Nat.le_refl _)).below (Below.refl _ _).drew (Nat.le_refl _)) HRk.out)
    have cB := Lib.hid (fun (W : World) (hW : Below W5.heap.size W5 W) => env_num_rf (HEx.out.stay (hb35.trans (hW.mono hb35.size))) HmR.out P a c xs ((HI.out.below hb35 (Nat.le_refl _)).below hW (Nat.le_refl _)).ints)
    have cC := Lib.hid (fun (W : World) (hW : Below W5.heap.size W5 W) => requal_any P P ga a gc c xs xs W ((hJ.out.below hb5 (Nat.le_refl _)).below hW (Nat.le_refl _)).ints ((HI.out.below hb35 (Nat.le_refl _)).below hW (Nat.le_refl _)).ints (by omega))
    simp only [decide_true] at cC
    obtain ⟨R, hR⟩ : ∃ R, numI p.rows (P, xs) = R := ⟨_, rfl⟩
    rw [hR] at cA cB
    clear hR hW5 how s0' s1' r0' r1' f0' f1' hD hJ d0 d1 hb4 hb34
    go_region_held3 (fun w' => Below W5.heap.size W5 w' ∧ w'.cell? ⟨β.bk, 0, none⟩ = some (.slice (some ⟨gS, 0, none⟩) N cS) ∧ w'.cell? ⟨gS, k, none⟩ = some (.pointer (some ⟨p.sb, 0, none⟩)) ∧ w'.cell? ⟨β.bk, 1, none⟩ = some (.slice (some ⟨gR, 0, none⟩) N cR) ∧ w'.cell? ⟨gR, k, none⟩ = some (.pointer (some ⟨p.rb, 0, none⟩)) ∧ w'.cell? ⟨ow, 0, none⟩ = some (.int .i64 P) ∧ w'.cell? ⟨ow, 1, none⟩ = some (.slice ga xs.length gc) ∧ w'.cell? ⟨fb, 0, none⟩ = some (.int .i64 P) ∧ w'.cell? ⟨fb, 1, none⟩ = some (.slice a xs.length c)) (first | assumption | exact ⟨(Below.refl _ _).drew, s0, s1, r0, r1, x0, x1, f0, f1⟩ | go_keep) (first
      | (go_at_call 39
         with_reducible refine cA.out.mono ?_
         rintro e V6 ⟨rfl, hb6'⟩
         have hb6 : Below W5.heap.size W5 V6 := (Below.refl _ _).drew.trans hb6'
         have hS6 : Below W5.heap.size W5 V6 ∧ V6.cell? ⟨β.bk, 0, none⟩ = some (.slice (some ⟨gS, 0, none⟩) N cS) ∧ V6.cell? ⟨gS, k, none⟩ = some (.pointer (some ⟨p.sb, 0, none⟩)) ∧ V6.cell? ⟨β.bk, 1, none⟩ = some (.slice (some ⟨gR, 0, none⟩) N cR) ∧ V6.cell? ⟨gR, k, none⟩ = some (.pointer (some ⟨p.rb, 0, none⟩)) ∧ V6.cell? ⟨ow, 0, none⟩ = some (.int .i64 P) ∧ V6.cell? ⟨ow, 1, none⟩ = some (.slice ga xs.length gc) ∧ V6.cell? ⟨fb, 0, none⟩ = some (.int .i64 P) ∧ V6.cell? ⟨fb, 1, none⟩ = some (.slice a xs.length c) := ⟨hb6, on_cell hb6 s0, on_cell hb6 s1, on_cell hb6 r0, on_cell hb6 r1, on_cell hb6 x0, on_cell hb6 x1, on_cell hb6 f0, on_cell hb6 f1⟩)
      | (go_at_call 54
         with_reducible refine (cB.out _ hb6).mono ?_
         rintro e V7 ⟨rfl, hb7'⟩
         have hb7 := hb6.trans (hb7'.mono hb6.size)
         have hS7 : Below W5.heap.size W5 V7 ∧ V7.cell? ⟨β.bk, 0, none⟩ = some (.slice (some ⟨gS, 0, none⟩) N cS) ∧ V7.cell? ⟨gS, k, none⟩ = some (.pointer (some ⟨p.sb, 0, none⟩)) ∧ V7.cell? ⟨β.bk, 1, none⟩ = some (.slice (some ⟨gR, 0, none⟩) N cR) ∧ V7.cell? ⟨gR, k, none⟩ = some (.pointer (some ⟨p.rb, 0, none⟩)) ∧ V7.cell? ⟨ow, 0, none⟩ = some (.int .i64 P) ∧ V7.cell? ⟨ow, 1, none⟩ = some (.slice ga xs.length gc) ∧ V7.cell? ⟨fb, 0, none⟩ = some (.int .i64 P) ∧ V7.cell? ⟨fb, 1, none⟩ = some (.slice a xs.length c) := ⟨hb7, on_cell hb7 s0, on_cell hb7 s1, on_cell hb7 r0, on_cell hb7 r1, on_cell hb7 x0, on_cell hb7 x1, on_cell hb7 f0, on_cell hb7 f1⟩)
      | (go_at_call 53
         with_reducible refine (cC.out _ hb7).mono ?_
         rintro e V8 ⟨rfl, hb8'⟩
         have hb8 := hb7.trans (hb8'.mono hb7.size)
         have hS8 : Below W5.heap.size W5 V8 ∧ V8.cell? ⟨β.bk, 0, none⟩ = some (.slice (some ⟨gS, 0, none⟩) N cS) ∧ V8.cell? ⟨gS, k, none⟩ = some (.pointer (some ⟨p.sb, 0, none⟩)) ∧ V8.cell? ⟨β.bk, 1, none⟩ = some (.slice (some ⟨gR, 0, none⟩) N cR) ∧ V8.cell? ⟨gR, k, none⟩ = some (.pointer (some ⟨p.rb, 0, none⟩)) ∧ V8.cell? ⟨ow, 0, none⟩ = some (.int .i64 P) ∧ V8.cell? ⟨ow, 1, none⟩ = some (.slice ga xs.length gc) ∧ V8.cell? ⟨fb, 0, none⟩ = some (.int .i64 P) ∧ V8.cell? ⟨fb, 1, none⟩ = some (.slice a xs.length c) := ⟨hb8, on_cell hb8 s0, on_cell hb8 s1, on_cell hb8 r0, on_cell hb8 r1, on_cell hb8 x0, on_cell hb8 x1, on_cell hb8 f0, on_cell hb8 f1⟩))
    all_goals
      have hbf : Below wc.heap.size wc V8 := hb35.trans (hb8.mono hb35.size)
      go_wp2_with fail
      go_ret
      exact ⟨rfl, β, τ, C, Step.ofMore HE0.out HB.out (HEx.out.stay hbf) (fun x h => h) (Nat.le_trans sx hbf.size), BLater.refl HPP.out, HLm.out.mono (Nat.le_add_right _ _)⟩
end Go.Proofs.Ytgodidoibcomcaa.Bk
