/-
  The book of StoreScript, StoreTries, StoreEach: several of its texts in one.
-/
import Derived.Test.YtgodidoibcomcaaK3
namespace Go.Proofs.Ytgodidoibcomcaa.Bk
open Go.RowKit Go.Proofs.Ytgodidoibcomcaa

set_option linter.unusedSimpArgs false in
set_option maxHeartbeats 16000000 in
set_option maxRecDepth 100000 in
theorem flat_Copy {w0 : World} {τ : Own} {w : World} {β : Book} {C : List Box} {U u v : Nat} {Ops : Option Addr → Nat → Nat → Prop} (E : Env w0 τ w (ents β.ar β.ps) [] C) (B : BookOk β C) (HP : ∀ p ∈ β.ps, PrOk p) (x : OpD) (hx : OpIn Ops w0 x u) (hL : Lim U β v) (hU : v + u ≤ U) (hU2 : U ≤ 1048576) (hkind : x.kind = 8) :
    Calls Try.prog 26 #[.pointer (some ⟨β.bk, 0, none⟩), .agg x.cells] w (FlatEnd w0 β C U (v + u) w) := by
  have hu := hx.weigh
  obtain ⟨kind, on, ra, rc, l, n, place, id, ia, inn, ic, say⟩ := x
  obtain ⟨hx, hcap, hok, hargs, hrk, hrn, hrp, hri, -⟩ := hx
  simp only at hx hok hargs hu hcap hrn hrp hri hkind
  subst hkind
  obtain ⟨L, hLl⟩ : ∃ L, l.length = L := ⟨_, rfl⟩
  have HLl := Lib.hid hLl
  rw [hLl] at hcap hu
  have hps := hL.ps
  have hmany := B.many
  have hpos := B.pos
  obtain ⟨N, hN⟩ : ∃ N, β.ps.length = N := ⟨_, rfl⟩
  rw [hN] at hps hmany hpos
  obtain ⟨W0, hW0⟩ : ∃ W, W = w.alloc (.cells (opCells 8 on (.slice ra L rc) n place id (.slice ia inn ic) say) 54) := ⟨_, rfl⟩
  obtain ⟨ob, hob⟩ : ∃ b, b = w.heap.size := ⟨_, rfl⟩
  have hb0 : Below w.heap.size w W0 := by rw [hW0]; exact (Below.refl _ _).alloc (Nat.le_refl _) _
  have hbw0 : Below w0.heap.size w0 W0 := E.below.trans (hb0.mono E.below.size)
  have HE0 := Lib.hid E
  have Hob0 : Hid (τ ob = none) := Lib.hid (E.fresh ob (by omega))
  have HX := Lib.hid hx
  have HO := Lib.hid hok
  have HA := Lib.hid hargs
  have HB := Lib.hid B
  have HPP := Lib.hid HP
  have HLm := Lib.hid hL
  have hl6 : L ≤ 1048576 := by omega
  obtain ⟨gS, cS, gR, cR, hvS, hvR, hLd⟩ := B.leads (E.stay hb0) (k := 0) (p := β.ps[0]'(by rw [hN]; exact hpos)) (List.getElem?_eq_getElem _)
  have s0 := hLd.s0
  rw [hN] at s0 hvS hvR
  have cOn := Lib.hid (on_any s0 hpos hmany 8 on ra L rc n place id ia inn ic say)
  have HN := Lib.hid hN
  have HvS := Lib.hid hvS
  have HvR := Lib.hid hvR
  have xall : ∀ (j : Nat) y, (opCells 8 on (.slice ra L rc) n place id (.slice ia inn ic) say)[j]? = some y → W0.cell? ⟨ob, j, none⟩ = some y := fun j y hy => by rw [hW0, hob]; simp [hy]
  have z0 : W0.cell? ⟨ob, 0, none⟩ = some (.int .i64 8) := xall 0 _ rfl
  have z1 : W0.cell? ⟨ob, 1, none⟩ = some (.int .i64 on) := xall 1 _ rfl
  have z2 : W0.cell? ⟨ob, 2, none⟩ = some (.slice ra L rc) := xall 2 _ rfl
  have z3 : W0.cell? ⟨ob, 3, none⟩ = some (.int .i64 n) := xall 3 _ rfl
  have z4 : W0.cell? ⟨ob, 4, none⟩ = some (.int .i64 place) := xall 4 _ rfl
  have z5 : W0.cell? ⟨ob, 5, none⟩ = some (.int .i64 id) := xall 5 _ rfl
  have z6 : W0.cell? ⟨ob, 6, none⟩ = some (.slice ia inn ic) := xall 6 _ rfl
  have z7 : W0.cell? ⟨ob, 7, none⟩ = some (.bool say) := xall 7 _ rfl
  unfold opCells at cOn hW0
  unfold OpD.cells opCells
  simp only
  rw [hLl]
  have HW0 := Lib.hid hW0
  have Hob := Lib.hid hob
  clear hLl hx hok hargs hL E B HP hvS hvR hN xall hW0 hob hLd s0
  go_enter Try.func26, Try.ntmps26
  go_upto_region 1 with fail
  rw [← HW0.out, ← Hob.out]
  go_upto_region 2 with (first | (go_at_call 50; with_reducible refine cOn.out.mono ?_; rintro e W1 ⟨k, hk, rfl, hb1⟩))
  have y0 := on_cell hb1 z0
  have y2 := on_cell hb1 z2
  have y3 := on_cell hb1 z3
  have y4 := on_cell hb1 z4
  have y5 := on_cell hb1 z5
  clear z0 z1 z2 z3 z4 z5 z6 z7 cOn
  go_upto_region 3 with fail
  obtain ⟨W2, hW2⟩ : ∃ W, W = W1.alloc (.cells #[.int .i64 (-1), .slice none 0 0] 28) := ⟨_, rfl⟩
  obtain ⟨fb, hfb⟩ : ∃ b, b = W1.heap.size := ⟨_, rfl⟩
  have hb2 : Below W1.heap.size W1 W2 := by rw [hW2]; exact (Below.refl _ _).alloc (Nat.le_refl _) _
  have f0 : W2.cell? ⟨fb, 0, none⟩ = some (.int .i64 (-1)) := by rw [hW2, hfb]; simp
  have f1 : W2.cell? ⟨fb, 1, none⟩ = some (.slice none 0 0) := by rw [hW2, hfb]; simp
  have ff0 : W2.frozen? ⟨fb, 0, none⟩ = false := by rw [hW2, hfb]; simp
  have ff1 : W2.frozen? ⟨fb, 1, none⟩ = false := by rw [hW2, hfb]; simp
  have hb02 : Below w.heap.size w W2 := (hb0.trans (hb1.mono hb0.size)).trans (hb2.mono (hb0.trans (hb1.mono hb0.size)).size)
  have hfw : w.heap.size ≤ fb := by rw [hfb]; exact (hb0.trans (hb1.mono hb0.size)).size
  have y0 := on_cell hb2 y0
  have y2 := on_cell hb2 y2
  have y3 := on_cell hb2 y3
  have y4 := on_cell hb2 y4
  have y5 := on_cell hb2 y5
  have hobf : ob ≠ fb := by
    have h1 : ob < W1.heap.size := World.block_lt_of_cell? _ _ (‹W1.cell? ⟨ob, 0, none⟩ = some _›)
    omega
  rw [← hW2, ← hfb]
  clear hW2 hfb
  go_upto_if 25 with fail
  go_cut [] (fun wx => ∃ (P : Int) (a : Option Addr) (c : Nat) (xs : List Int), Hid (Below w.heap.size w wx ∧ IntsZ (fun _ => True) wx a c xs ∧ RowOk (P, xs) ∧ xs.length ≤ 1048576) ∧ wx.cell? ⟨fb, 0, none⟩ = some (.int .i64 P) ∧ wx.cell? ⟨fb, 1, none⟩ = some (.slice a xs.length c) ∧ wx.cell? ⟨ob, 0, none⟩ = some (.int .i64 8) ∧ wx.cell? ⟨ob, 3, none⟩ = some (.int .i64 n) ∧ wx.cell? ⟨ob, 4, none⟩ = some (.int .i64 place) ∧ wx.cell? ⟨ob, 5, none⟩ = some (.int .i64 id))
  case first =>
    by_cases hl0 : l = []
    · subst hl0
      obtain rfl : L = 0 := by rw [← HLl.out]; rfl
      go_wp2_with fail
      go_meet
      exact ⟨-1, none, 0, [], Lib.hid ⟨hb02, ⟨.inl rfl, fun _ => ⟨rfl, rfl⟩⟩, ⟨⟨by simp, by simp⟩, by simp, fun x hx => by cases hx⟩, by simp⟩, f0, f1, y0, y3, y4, y5⟩
    · obtain ⟨r, l', rfl⟩ := List.exists_cons_of_ne_nil hl0
      have hd0 : 0 < L := by rw [← HLl.out]; simp
      have hd : decide (0 < L) = true := by rw [decide_eq_true_eq]; exact hd0
      have hc1 : 1 ≤ rc := by omega
      have hra := HA.out r (List.mem_cons_self ..)
      have hrk := HO.out r (List.mem_cons_self ..)
      have hW2 : Below w0.heap.size w0 W2 := HE0.out.below.trans (hb02.mono HE0.out.below.size)
      have cD : Hid (Calls Try.prog 40 #[.slice ra 1 rc] W2 fun e w' => ∃ v cs vs, e = .returned v ∧ DRows W2.heap.size w' v [r] cs vs ∧ Below W2.heap.size W2 w') := Lib.hid (drows_any ra rc [r] W2 ((RowsZ.head HX.out).below hW2 (Nat.le_refl _)) (fun q hq => by rw [List.mem_singleton] at hq; subst hq; omega) (by simp))
      have s2 := hb02.size
      go_wp2_with (first | (go_at_call 40; with_reducible refine cD.out.mono ?_; rintro e W3 ⟨vg, cs, vs, rfl, hD, hb3⟩; obtain ⟨g, cg, ga, gc, rfl, d0, d1, hI⟩ := hD.one; have y0' := on_cell hb3 y0; have y3' := on_cell hb3 y3; have y4' := on_cell hb3 y4; have y5' := on_cell hb3 y5; have f0' := on_cell hb3 f0; have f1' := on_cell hb3 f1; have ff0' := (hb3.frozen (p := ⟨fb, 0, none⟩) (World.block_lt_of_cell? _ _ f0)).trans ff0; have ff1' := (hb3.frozen (p := ⟨fb, 1, none⟩) (World.block_lt_of_cell? _ _ f1)).trans ff1))
      go_meet
      have hb23 := hb02.trans (hb3.mono s2)
      have hlt0 : ¬ fb < w.heap.size := by omega
      obtain ⟨e0, e1, far⟩ := set_two (v0 := .int .i64 r.1) (v1 := .slice ga r.2.length gc) f0' f1'
      have hfb2 := World.block_lt_of_cell? _ _ f0
      exact ⟨r.1, ga, gc, r.2, Lib.hid ⟨(hb23.setCell (p := ⟨fb, 0, none⟩) hfw _).setCell (p := ⟨fb, 1, none⟩) hfw _, hI.out.keep (fun j hj hz => (Below.heap_setCell _ _ _ j (fun e => by have hz : W2.heap.size ≤ j := hz; have e : j = fb := e; simp only at hfb2; omega)).trans (Below.heap_setCell _ _ _ j (fun e => by have hz : W2.heap.size ≤ j := hz; have e : j = fb := e; simp only at hfb2; omega))) (fun _ _ _ => trivial), hrk, hra⟩, e0, e1, far hobf y0', far hobf y3', far hobf y4', far hobf y5'⟩
  case rest =>
    obtain ⟨P, a, c, xs, HF, f0, f1, y0, y3, y4, y5⟩ := hcut
    have hbx := HF.out.1
    have HEx := Lib.hid (HE0.out.stay hbx)
    obtain ⟨p, hp⟩ : ∃ p, β.ps[k]? = some p := ⟨_, List.getElem?_eq_getElem (by rw [HN.out]; exact hk)⟩
    have HmS : Hid (stE β.ar k p ∈ ents β.ar β.ps) := Lib.hid (mem_ents.2 ⟨k, p, hp, .inl rfl⟩)
    have HmR : Hid (rfE β.ar k p ∈ ents β.ar β.ps) := Lib.hid (mem_ents.2 ⟨k, p, hp, .inr rfl⟩)
    have hlp := HLm.out.rs p (List.mem_of_getElem? hp)
    have hprv : p.rows.length ≤ v := by rw [show p.rows.length = p.rs.length from List.length_map _]; omega
    have hpr : p.rows.length ≤ 1048576 := by omega
    obtain ⟨gS, cS, gR, cR, hvS, hvR, hLd⟩ := HB.out.leads HEx.out hp
    have s0 := hLd.s0
    have s1 := hLd.s1
    have r0 := hLd.r0
    have r1 := hLd.r1
    rw [HN.out] at s0 r0
    have HvS := Lib.hid hvS
    have HvR := Lib.hid hvR
    have Hp := Lib.hid hp
    have sx := hbx.size
    clear hLd hvS hvR hp
    have hne1 : Hid (∀ z ∈ ents β.ar β.ps, z.s ≠ 2 * N + 1) := Lib.hid (fun z hz e => by
      obtain ⟨j, q, hq, rfl | rfl⟩ := mem_ents.1 hz
      · have h1 : 2 * j + 1 = 2 * N + 1 := e
        have h2 := (List.getElem?_eq_some_iff.1 hq).1
        have h3 := HN.out
        omega
      · have h1 : refS + j = 2 * N + 1 := e
        unfold refS at h1
        omega)
    have cA := Lib.hid (env_copy_st HEx.out HmS.out (by omega) N hne1.out (by omega) (by omega))
    go_upto_region 46 with (first | (go_at_call 22; (with_reducible refine cA.out.mono ?_); rintro e V1 ⟨cb, τ1, rs', rfl, hrs, hbi, T1, E1⟩))
    have Hrs := Lib.hid hrs
    have Hbi := Lib.hid hbi
    have HE1 := Lib.hid E1
    have hs1 := T1.size
    obtain ⟨S1, hS1⟩ : ∃ S, S = (⟨2 * N + 1, cb, β.ar, rs', [], p.rs.length⟩ : Ent) :: ents β.ar β.ps := ⟨_, rfl⟩
    have HS1 := Lib.hid hS1
    rw [← hS1] at HE1
    have Hn1 : Hid (∀ z ∈ S1, z.s ≠ boxS) := Lib.hid (by
      intro z hz
      rw [HS1.out] at hz
      rcases List.mem_cons.1 hz with rfl | hz
      · show 2 * N + 1 ≠ 0
        omega
      · exact ents_ne z hz)
    have hB1 := HB.out.parts
    obtain ⟨xS, hxS⟩ : ∃ l, l = β.ps.map (fun p => Value.pointer (some ⟨p.sb, 0, none⟩)) := ⟨_, rfl⟩
    obtain ⟨xR, hxR⟩ : ∃ l, l = β.ps.map (fun p => Value.pointer (some ⟨p.rb, 0, none⟩)) := ⟨_, rfl⟩
    rw [← hxS, ← hxR] at hB1
    have HlS : Hid (xS.length = N) := Lib.hid (by rw [hxS, List.length_map]; exact HN.out)
    have HlR : Hid (xR.length = N) := Lib.hid (by rw [hxR, List.length_map]; exact HN.out)
    have HxS := Lib.hid hxS
    have HxR := Lib.hid hxR
    have HB1 := Lib.hid hB1
    have hoS := hB1.st.owns HE1.out
    rw [HlS.out, HvS.out, HN.out] at hoS
    have HoS := Lib.hid hoS
    have q0 := (HE1.out.cellAt hB1.head (j := 0) rfl).1
    have q0f := (HE1.out.cellAt hB1.head (j := 0) rfl).2
    rw [show (#[β.vS, β.vR, β.vL, Value.int .i64 β.next] : Array Value)[0] = β.vS from rfl, HvS.out, HN.out] at q0
    have Hg0 : Hid ((Value.slice (some ⟨gS, 0, none⟩) N cS).ownBlock ≠ some β.bk) := Lib.hid (by have h := HB1.out.st.apartHead HB1.out.head HE1.out (by decide); rw [HvS.out, HN.out] at h; exact h)
    clear hrs hbi E1 hS1 hB1 hxS hxR hoS cA s0 s1 r0 r1 y0 y3 y4 y5 f0 f1 T1
    go_upto_region 48 with fail
    go_upto_region 49 with (first | (at_builtin; refine wpList_append_two elemStoreP _ rfl _ _ rfl 0 (.slice (some ⟨gS, 0, none⟩) N cS) N xS rfl (HoS.out.alloc _) ⟨V1.heap.size, 0, none⟩ 1 1 [.pointer (some ⟨cb, 0, none⟩)] rfl (cells_new V1 [.pointer (some ⟨cb, 0, none⟩)] 25) rfl (by simp [Value.oneCell']) (by unfold maxLen; omega) (by omega) (Nat.zero_le _) ?_; intro v2 W2 hown2 hg2; obtain ⟨d0, d0f⟩ := grow_cell hg2 (on_cell ((Below.refl V1.heap.size V1).alloc (Nat.le_refl _) (.cells #[.pointer (some ⟨cb, 0, none⟩)] 25)) q0) Hg0.out; have d0g := (d0f.trans (((Below.refl V1.heap.size V1).alloc (Nat.le_refl _) (.cells #[.pointer (some ⟨cb, 0, none⟩)] 25)).frozen (p := ⟨β.bk, 0, none⟩) (World.block_lt_of_cell? _ _ q0))).trans q0f; clear d0f; obtain ⟨a2, c2, rfl⟩ := owns_shape hown2))
    obtain ⟨τ3, C3, E3, B3, sub3, gS3, sz3⟩ := HB1.out.growS HE1.out Hn1.out ((Below.refl V1.heap.size V1).alloc (Nat.le_refl _) (.cells #[.pointer (some ⟨cb, 0, none⟩)] 25)) (u := .pointer (some ⟨cb, 0, none⟩)) (v' := .slice a2 (N + 1) c2) (by rw [HlS.out]; exact hown2) (by rw [HlS.out, HvS.out, HN.out]; exact hg2)
    generalize W2.setCell ⟨β.bk, 0, none⟩ (.slice a2 (N + 1) c2) = W3 at E3 sz3 ⊢
    have HE3 := Lib.hid E3
    have HB3 := Lib.hid B3
    have Hsub3 := Lib.hid sub3
    have HgS3 := Lib.hid gS3
    have HmR3 : Hid (rfE β.ar k p ∈ S1) := Lib.hid (by rw [HS1.out]; exact List.mem_cons_of_mem _ HmR.out)
    have hne3 : Hid (∀ z ∈ S1, z.s ≠ refS + N) := Lib.hid (fun z hz e => by
      rw [HS1.out] at hz
      rcases List.mem_cons.1 hz with rfl | hz
      · have h1 : 2 * N + 1 = refS + N := e
        unfold refS at h1
        omega
      · obtain ⟨j, q, hq, rfl | rfl⟩ := mem_ents.1 hz
        · have h1 : 2 * j + 1 = refS + N := e
          have h2 := (List.getElem?_eq_some_iff.1 hq).1
          have h3 := HN.out
          unfold refS at h1
          omega
        · have h1 : refS + j = refS + N := e
          have h2 := (List.getElem?_eq_some_iff.1 hq).1
          have h3 := HN.out
          omega)
    have q1 := (E3.cellAt B3.head (j := 1) rfl).1
    rw [show (#[Value.slice a2 (N + 1) c2, β.vR, β.vL, Value.int .i64 β.next] : Array Value)[1] = β.vR from rfl, HvR.out, HN.out] at q1
    have q2 : W3.cell? ⟨gR, k, none⟩ = some (.pointer (some ⟨p.rb, 0, none⟩)) := by
      obtain ⟨g, cap, e, hc⟩ := B3.rf.cells E3 (k := k) (by rw [HlR.out]; exact hk)
      rw [HvR.out] at e
      simp only [Value.slice.injEq, Option.some.injEq, Addr.mk.injEq, and_true] at e
      obtain ⟨rfl, -, -⟩ := e
      exact hc k _ (by rw [HxR.out, List.getElem?_map, Hp.out]; rfl)
    have cC := Lib.hid (env_copy_rf (HE3.out.stay (Below.refl _ _).drew) HmR3.out N hne3.out Hrs.out)
    have HgR0 : Hid ((Value.slice (some ⟨gR, 0, none⟩) N cR).ownBlock ≠ some β.bk) := Lib.hid (by have h := HB3.out.rf.apartHead HB3.out.head HE3.out (by decide); rw [HvR.out, HN.out] at h; exact h)
    clear E3 B3 sub3 gS3 hown2 hg2 d0 d0g q0 q0f
    refine wp_region_noPanic ?_
    refine wp_region_held_drew (S := (fun _ => True)) (by kernel_rfl) ?_ (fun hHeld => ?_)
    · exact trivial
    refine wpAnyH_take (i := 0) (oi := ⟨some 371, _, _, _, _, _⟩) (v := ?_) rfl (by kernel_rfl) (by kernel_rfl) (by kernel_rfl) (fun _ _ _ h => h) (Or.inl ⟨by rfl, ?_⟩) (by assumption) ?_
    rotate_left 1
    · intro w hSw
      (try dsimp only at hSw)
      go_simp
      all_goals with_reducible rfl
    (try simp only [Act.put, List.setIfInBounds_toArray, List.set_cons_zero, List.set_cons_succ])
    refine wpAnyH_take (i := 1) (oi := ⟨some 372, _, _, _, _, _⟩) (v := ?_) rfl (by kernel_rfl) (by kernel_rfl) (by kernel_rfl) (fun _ _ _ h => h) (Or.inl ⟨by rfl, ?_⟩) (by assumption) ?_
    rotate_left 1
    · intro w hSw
      (try dsimp only at hSw)
      go_simp
      all_goals with_reducible rfl
    (try simp only [Act.put, List.setIfInBounds_toArray, List.set_cons_zero, List.set_cons_succ])
    refine wpAnyH_take (i := 2) (oi := ⟨some 373, _, _, _, _, _⟩) (v := ?_) rfl (by kernel_rfl) (by kernel_rfl) (by kernel_rfl) (fun _ _ _ h => h) (Or.inl ⟨by rfl, ?_⟩) (by assumption) ?_
    rotate_left 1
    · intro w hSw
      (try dsimp only at hSw)
      go_simp
      all_goals with_reducible rfl
    (try simp only [Act.put, List.setIfInBounds_toArray, List.set_cons_zero, List.set_cons_succ])
    refine wpAnyH_take (i := 3) (oi := ⟨some 374, _, _, _, _, _⟩) (v := ?_) rfl (by kernel_rfl) (by kernel_rfl) (by kernel_rfl) (fun _ _ _ h => h) (Or.inl ⟨by rfl, ?_⟩) (by assumption) ?_
    rotate_left 1
    · intro w hSw
      (try dsimp only at hSw)
      go_simp
      all_goals with_reducible rfl
    (try simp only [Act.put, List.setIfInBounds_toArray, List.set_cons_zero, List.set_cons_succ])
    refine wpAnyH_take (i := 5) (oi := ⟨some 376, _, _, _, _, _⟩) (v := ?_) rfl (by kernel_rfl) (by kernel_rfl) (by kernel_rfl) (fun _ _ _ h => h) (Or.inl ⟨by rfl, ?_⟩) (by assumption) ?_
    rotate_left 1
    · intro w hSw
      (try dsimp only at hSw)
      go_simp
      all_goals with_reducible rfl
    (try simp only [Act.put, List.setIfInBounds_toArray, List.set_cons_zero, List.set_cons_succ])
    refine wpAnyH_take (i := 6) (oi := ⟨some 377, _, _, _, _, _⟩) (v := ?_) rfl (by kernel_rfl) (by kernel_rfl) (by kernel_rfl) (fun _ _ _ h => h) (Or.inl ⟨by rfl, ?_⟩) (by assumption) ?_
    rotate_left 1
    · intro w hSw
      (try dsimp only at hSw)
      go_simp
      all_goals with_reducible rfl
    (try simp only [Act.put, List.setIfInBounds_toArray, List.set_cons_zero, List.set_cons_succ])
    refine wpAnyH_take (i := 7) (oi := ⟨some 378, _, _, _, _, _⟩) (v := ?_) rfl (by kernel_rfl) (by kernel_rfl) (by kernel_rfl) (fun _ _ _ h => h) (Or.inl ⟨by rfl, ?_⟩) (by assumption) ?_
    rotate_left 1
    · intro w hSw
      (try dsimp only at hSw)
      go_simp
      all_goals with_reducible rfl
    (try simp only [Act.put, List.setIfInBounds_toArray, List.set_cons_zero, List.set_cons_succ])
    refine wpAnyH_take (i := 9) (oi := ⟨some 380, _, _, _, _, _⟩) (v := ?_) rfl (by kernel_rfl) (by kernel_rfl) (by kernel_rfl) (fun _ _ _ h => h) (Or.inl ⟨by rfl, ?_⟩) (by assumption) ?_
    rotate_left 1
    · intro w hSw
      (try dsimp only at hSw)
      go_simp
      all_goals with_reducible rfl
    (try simp only [Act.put, List.setIfInBounds_toArray, List.set_cons_zero, List.set_cons_succ])
    refine wpAnyH_ready (rs := [4, 8]) (by kernel_rfl) (by simp) ?_
    refine AllReadyH.cons (o := _) rfl (fun K hK => ?_) ?_
    · go_simp
      refine hK.out _ _ ?_ (fun hHeld => ?_)
      · exact trivial
      clear hK K
      (try simp only [Act.put, List.setIfInBounds_toArray, List.set_cons_zero, List.set_cons_succ])
      refine wpAnyH_ready (rs := [8]) (by kernel_rfl) (by simp) ?_
      refine AllReadyH.cons (o := _) rfl (fun K hK => ?_) ?_
      · go_simp
        refine hK.out _ _ ?_ (fun hHeld => ?_)
        · exact trivial
        clear hK K
        (try simp only [Act.put, List.setIfInBounds_toArray, List.set_cons_zero, List.set_cons_succ])
        refine wpAnyH_take (i := 10) (oi := ⟨some 381, _, _, _, _, _⟩) (v := ?_) rfl (by kernel_rfl) (by kernel_rfl) (by kernel_rfl) (fun _ _ _ h => h) (Or.inl ⟨by rfl, ?_⟩) (by assumption) ?_
        rotate_left 1
        · intro w hSw
          (try dsimp only at hSw)
          go_simp
          all_goals with_reducible rfl
        (try simp only [Act.put, List.setIfInBounds_toArray, List.set_cons_zero, List.set_cons_succ])
        refine wpAnyH_ready (rs := [11]) (by kernel_rfl) (by simp) ?_
        refine AllReadyH.cons (o := _) rfl (fun K hK => ?_) ?_
        · go_simp
          refine hK.out _ _ ?_ (fun hHeld => ?_)
          · exact trivial
          clear hK K
          (try simp only [Act.put, List.setIfInBounds_toArray, List.set_cons_zero, List.set_cons_succ])
          refine wpAnyH_ready (rs := [12]) (by kernel_rfl) (by simp) ?_
          refine AllReadyH.cons (o := _) rfl (fun K hK => ?_) ?_
          · go_simp
            with_reducible refine cC.out.mono ?_
            rintro e Vx4 ⟨cb2, τx4, rfl, Tx4, Ex4⟩
            have HTx4 := Lib.hid Tx4
            have HEx4 := Lib.hid Ex4
            have hd1x4 := (Ex4.cellAt HB3.out.head (j := 1) rfl)
            have d1x4 := hd1x4.1
            have f1x4 := hd1x4.2
            rw [show (#[Value.slice a2 (N + 1) c2, β.vR, β.vL, Value.int .i64 β.next] : Array Value)[1] = β.vR from rfl, HvR.out, HN.out] at d1x4
            have hox4 := HB3.out.rf.owns Ex4
            rw [HlR.out, HvR.out, HN.out] at hox4
            have Hox4 := Lib.hid hox4
            clear Tx4 Ex4 hd1x4 hox4
            refine hK.out _ _ ?_ (fun hHeld => ?_)
            · exact trivial
            clear hK K
            (try simp only [Act.put, List.setIfInBounds_toArray, List.set_cons_zero, List.set_cons_succ])
            refine wpAnyH_ready (rs := [13]) (by kernel_rfl) (by simp) ?_
            refine AllReadyH.cons (o := _) rfl (fun K hK => ?_) ?_
            · go_simp
              obtain ⟨Vx5, hVx5⟩ : ∃ W, W = Vx4.alloc (.cells #[.pointer (some ⟨cb2, 0, none⟩)] 89) := ⟨_, rfl⟩
              obtain ⟨qx5, hqx5⟩ : ∃ b, b = Vx4.heap.size := ⟨_, rfl⟩
              rw [← hVx5, ← hqx5]
              have hbx5 : Below Vx4.heap.size Vx4 Vx5 := by rw [hVx5]; exact (Below.refl _ _).alloc (Nat.le_refl _) _
              have srcx5 : ∀ j u, [Value.pointer (some ⟨cb2, 0, none⟩)][j]? = some u → Vx5.cell? ((⟨qx5, 0, none⟩ : Addr).add j) = some u := by rw [hVx5, hqx5]; exact cells_new Vx4 [.pointer (some ⟨cb2, 0, none⟩)] 89
              have Hsrcx5 := Lib.hid srcx5
              have dx5 := on_cell hbx5 d1x4
              have fx5 := (hbx5.frozen (p := ⟨β.bk, 1, none⟩) (World.block_lt_of_cell? _ _ d1x4)).trans f1x4
              clear hVx5 hqx5 srcx5
              refine hK.out _ _ ?_ (fun hHeld => ?_)
              · exact trivial
              clear hK K
              (try simp only [Act.put, List.setIfInBounds_toArray, List.set_cons_zero, List.set_cons_succ])
              refine wpAnyH_ready (rs := [14]) (by kernel_rfl) (by simp) ?_
              refine AllReadyH.cons (o := _) rfl (fun K hK => ?_) ?_
              · refine step_append_two elemRefP _ rfl _ _ rfl 0 (.slice (some ⟨gR, 0, none⟩) N cR) N xR rfl (owns_below Hox4.out hbx5 (Nat.le_refl _)) ⟨qx5, 0, none⟩ 1 1 [.pointer (some ⟨cb2, 0, none⟩)] rfl Hsrcx5.out rfl (by simp [Value.oneCell']) (by unfold maxLen; omega) (by omega) (Nat.zero_le _) ?_
                intro vx6 Wx6 hownx6 hgx6
                obtain ⟨dx6, gx6⟩ := grow_cell hgx6 dx5 HgR0.out
                have fx6 := gx6.trans fx5
                obtain ⟨a3, c3, rfl⟩ := owns_shape hownx6
                have Hgx6 := Lib.hid hgx6
                have Hownx6 := Lib.hid hownx6
                clear hgx6 hownx6 gx6
                refine hK.out _ _ ?_ (fun hHeld => ?_)
                · exact trivial
                clear hK K
                (try simp only [Act.put, List.setIfInBounds_toArray, List.set_cons_zero, List.set_cons_succ])
                refine wpAnyH_take (i := 15) (oi := ⟨some 386, _, _, _, _, _⟩) (v := ?_) rfl (by kernel_rfl) (by kernel_rfl) (by kernel_rfl) (fun _ _ _ h => h) (Or.inl ⟨by rfl, ?_⟩) (by assumption) ?_
                rotate_left 1
                · intro w hSw
                  (try dsimp only at hSw)
                  go_simp
                  all_goals with_reducible rfl
                (try simp only [Act.put, List.setIfInBounds_toArray, List.set_cons_zero, List.set_cons_succ])
                refine wpAnyH_take (i := 16) (oi := ⟨some 387, _, _, _, _, _⟩) (v := ?_) rfl (by kernel_rfl) (by kernel_rfl) (by kernel_rfl) (fun _ _ _ h => h) (Or.inl ⟨by rfl, ?_⟩) (by assumption) ?_
                rotate_left 1
                · intro w hSw
                  (try dsimp only at hSw)
                  go_simp
                  all_goals with_reducible rfl
                (try simp only [Act.put, List.setIfInBounds_toArray, List.set_cons_zero, List.set_cons_succ])
                refine wpAnyH_ready (rs := [17]) (by kernel_rfl) (by simp) ?_
                refine AllReadyH.cons (o := _) rfl (fun K hK => ?_) ?_
                · go_simp
                  refine hK.out _ _ ?_ (fun hHeld => ?_)
                  · exact trivial
                  clear hK K
                  (try simp only [Act.put, List.setIfInBounds_toArray, List.set_cons_zero, List.set_cons_succ])
                  refine wpAnyH_done (by kernel_rfl) ?_ _
                  refine NoPanic.normal ?_
                  obtain ⟨τ9, C9, E9, B9, sub9, gR9, sz9⟩ := HB3.out.growR HEx4.out (fun z hz => by rcases List.mem_cons.1 hz with rfl | hz; (show refS + N ≠ 0; unfold refS; omega); exact Hn1.out z hz) hbx5 (u := .pointer (some ⟨cb2, 0, none⟩)) (v' := .slice a3 (N + 1) c3) (by rw [HlR.out]; exact Hownx6.out) (by rw [HlR.out, HvR.out, HN.out]; exact Hgx6.out)
                  have hsz3 := HE3.out
                  have hT := HTx4.out.size
                  have h8 := (⟨E9, B9, sub9, gR9⟩ : _ ∧ _ ∧ _ ∧ _)
                  have HFin := Lib.hid h8
                  clear h8 E9 B9 sub9 gR9
                  generalize Wx6.setCell ⟨β.bk, 1, none⟩ (.slice a3 (N + 1) c3) = W9 at HFin sz9 ⊢
                  have hwW : w.heap.size ≤ W9.heap.size := by simp only [show ∀ w : World, w.drew.heap.size = w.heap.size from fun _ => rfl] at hT; omega
                  have hw3 : w.heap.size ≤ Vx4.heap.size := by simp only [show ∀ w : World, w.drew.heap.size = w.heap.size from fun _ => rfl] at hT; omega
                  clear hHeld
                  go_wp2_with fail
                  go_ret
                  obtain ⟨E9, B9, sub9, gR9⟩ := HFin.out
                  rw [HxS.out, HxR.out] at B9
                  exact copy_end HE0.out HB.out HPP.out Hp.out HN.out hk E9 HS1.out B9 Hrs.out Hbi.out Hsub3.out sub9 HgS3.out gR9 (Nat.le_trans sx hs1) hw3 hwW HLm.out hu (by omega)
                exact AllReadyH.nil
              exact AllReadyH.nil
            exact AllReadyH.nil
          exact AllReadyH.nil
        exact AllReadyH.nil
      exact AllReadyH.nil
    refine AllReadyH.cons (o := _) rfl (fun K hK => ?_) ?_
    · go_simp
      refine hK.out _ _ ?_ (fun hHeld => ?_)
      · exact trivial
      clear hK K
      (try simp only [Act.put, List.setIfInBounds_toArray, List.set_cons_zero, List.set_cons_succ])
      refine wpAnyH_take (i := 10) (oi := ⟨some 381, _, _, _, _, _⟩) (v := ?_) rfl (by kernel_rfl) (by kernel_rfl) (by kernel_rfl) (fun _ _ _ h => h) (Or.inl ⟨by rfl, ?_⟩) (by assumption) ?_
      rotate_left 1
      · intro w hSw
        (try dsimp only at hSw)
        go_simp
        all_goals with_reducible rfl
      (try simp only [Act.put, List.setIfInBounds_toArray, List.set_cons_zero, List.set_cons_succ])
      refine wpAnyH_ready (rs := [4, 11]) (by kernel_rfl) (by simp) ?_
      refine AllReadyH.cons (o := _) rfl (fun K hK => ?_) ?_
      · go_simp
        refine hK.out _ _ ?_ (fun hHeld => ?_)
        · exact trivial
        clear hK K
        (try simp only [Act.put, List.setIfInBounds_toArray, List.set_cons_zero, List.set_cons_succ])
        refine wpAnyH_ready (rs := [11]) (by kernel_rfl) (by simp) ?_
        refine AllReadyH.cons (o := _) rfl (fun K hK => ?_) ?_
        · go_simp
          refine hK.out _ _ ?_ (fun hHeld => ?_)
          · exact trivial
          clear hK K
          (try simp only [Act.put, List.setIfInBounds_toArray, List.set_cons_zero, List.set_cons_succ])
          refine wpAnyH_ready (rs := [12]) (by kernel_rfl) (by simp) ?_
          refine AllReadyH.cons (o := _) rfl (fun K hK => ?_) ?_
          · go_simp
            with_reducible refine cC.out.mono ?_
            rintro e Vx11 ⟨cb2, τx11, rfl, Tx11, Ex11⟩
            have HTx11 := Lib.hid Tx11
            have HEx11 := Lib.hid Ex11
            have hd1x11 := (Ex11.cellAt HB3.out.head (j := 1) rfl)
            have d1x11 := hd1x11.1
            have f1x11 := hd1x11.2
            rw [show (#[Value.slice a2 (N + 1) c2, β.vR, β.vL, Value.int .i64 β.next] : Array Value)[1] = β.vR from rfl, HvR.out, HN.out] at d1x11
            have hox11 := HB3.out.rf.owns Ex11
            rw [HlR.out, HvR.out, HN.out] at hox11
            have Hox11 := Lib.hid hox11
            clear Tx11 Ex11 hd1x11 hox11
            refine hK.out _ _ ?_ (fun hHeld => ?_)
            · exact trivial
            clear hK K
            (try simp only [Act.put, List.setIfInBounds_toArray, List.set_cons_zero, List.set_cons_succ])
            refine wpAnyH_ready (rs := [13]) (by kernel_rfl) (by simp) ?_
            refine AllReadyH.cons (o := _) rfl (fun K hK => ?_) ?_
            · go_simp
              obtain ⟨Vx12, hVx12⟩ : ∃ W, W = Vx11.alloc (.cells #[.pointer (some ⟨cb2, 0, none⟩)] 89) := ⟨_, rfl⟩
              obtain ⟨qx12, hqx12⟩ : ∃ b, b = Vx11.heap.size := ⟨_, rfl⟩
              rw [← hVx12, ← hqx12]
              have hbx12 : Below Vx11.heap.size Vx11 Vx12 := by rw [hVx12]; exact (Below.refl _ _).alloc (Nat.le_refl _) _
              have srcx12 : ∀ j u, [Value.pointer (some ⟨cb2, 0, none⟩)][j]? = some u → Vx12.cell? ((⟨qx12, 0, none⟩ : Addr).add j) = some u := by rw [hVx12, hqx12]; exact cells_new Vx11 [.pointer (some ⟨cb2, 0, none⟩)] 89
              have Hsrcx12 := Lib.hid srcx12
              have dx12 := on_cell hbx12 d1x11
              have fx12 := (hbx12.frozen (p := ⟨β.bk, 1, none⟩) (World.block_lt_of_cell? _ _ d1x11)).trans f1x11
              clear hVx12 hqx12 srcx12
              refine hK.out _ _ ?_ (fun hHeld => ?_)
              · exact trivial
              clear hK K
              (try simp only [Act.put, List.setIfInBounds_toArray, List.set_cons_zero, List.set_cons_succ])
              refine wpAnyH_ready (rs := [14]) (by kernel_rfl) (by simp) ?_
              refine AllReadyH.cons (o := _) rfl (fun K hK => ?_) ?_
              · refine step_append_two elemRefP _ rfl _ _ rfl 0 (.slice (some ⟨gR, 0, none⟩) N cR) N xR rfl (owns_below Hox11.out hbx12 (Nat.le_refl _)) ⟨qx12, 0, none⟩ 1 1 [.pointer (some ⟨cb2, 0, none⟩)] rfl Hsrcx12.out rfl (by simp [Value.oneCell']) (by unfold maxLen; omega) (by omega) (Nat.zero_le _) ?_
                intro vx13 Wx13 hownx13 hgx13
                obtain ⟨dx13, gx13⟩ := grow_cell hgx13 dx12 HgR0.out
                have fx13 := gx13.trans fx12
                obtain ⟨a3, c3, rfl⟩ := owns_shape hownx13
                have Hgx13 := Lib.hid hgx13
                have Hownx13 := Lib.hid hownx13
                clear hgx13 hownx13 gx13
                refine hK.out _ _ ?_ (fun hHeld => ?_)
                · exact trivial
                clear hK K
                (try simp only [Act.put, List.setIfInBounds_toArray, List.set_cons_zero, List.set_cons_succ])
                refine wpAnyH_take (i := 15) (oi := ⟨some 386, _, _, _, _, _⟩) (v := ?_) rfl (by kernel_rfl) (by kernel_rfl) (by kernel_rfl) (fun _ _ _ h => h) (Or.inl ⟨by rfl, ?_⟩) (by assumption) ?_
                rotate_left 1
                · intro w hSw
                  (try dsimp only at hSw)
                  go_simp
                  all_goals with_reducible rfl
                (try simp only [Act.put, List.setIfInBounds_toArray, List.set_cons_zero, List.set_cons_succ])
                refine wpAnyH_take (i := 16) (oi := ⟨some 387, _, _, _, _, _⟩) (v := ?_) rfl (by kernel_rfl) (by kernel_rfl) (by kernel_rfl) (fun _ _ _ h => h) (Or.inl ⟨by rfl, ?_⟩) (by assumption) ?_
                rotate_left 1
                · intro w hSw
                  (try dsimp only at hSw)
                  go_simp
                  all_goals with_reducible rfl
                (try simp only [Act.put, List.setIfInBounds_toArray, List.set_cons_zero, List.set_cons_succ])
                refine wpAnyH_ready (rs := [17]) (by kernel_rfl) (by simp) ?_
                refine AllReadyH.cons (o := _) rfl (fun K hK => ?_) ?_
                · go_simp
                  refine hK.out _ _ ?_ (fun hHeld => ?_)
                  · exact trivial
                  clear hK K
                  (try simp only [Act.put, List.setIfInBounds_toArray, List.set_cons_zero, List.set_cons_succ])
                  refine wpAnyH_done (by kernel_rfl) ?_ _
                  refine NoPanic.normal ?_
                  obtain ⟨τ9, C9, E9, B9, sub9, gR9, sz9⟩ := HB3.out.growR HEx11.out (fun z hz => by rcases List.mem_cons.1 hz with rfl | hz; (show refS + N ≠ 0; unfold refS; omega); exact Hn1.out z hz) hbx12 (u := .pointer (some ⟨cb2, 0, none⟩)) (v' := .slice a3 (N + 1) c3) (by rw [HlR.out]; exact Hownx13.out) (by rw [HlR.out, HvR.out, HN.out]; exact Hgx13.out)
                  have hsz3 := HE3.out
                  have hT := HTx11.out.size
                  have h8 := (⟨E9, B9, sub9, gR9⟩ : _ ∧ _ ∧ _ ∧ _)
                  have HFin := Lib.hid h8
                  clear h8 E9 B9 sub9 gR9
                  generalize Wx13.setCell ⟨β.bk, 1, none⟩ (.slice a3 (N + 1) c3) = W9 at HFin sz9 ⊢
                  have hwW : w.heap.size ≤ W9.heap.size := by simp only [show ∀ w : World, w.drew.heap.size = w.heap.size from fun _ => rfl] at hT; omega
                  have hw3 : w.heap.size ≤ Vx11.heap.size := by simp only [show ∀ w : World, w.drew.heap.size = w.heap.size from fun _ => rfl] at hT; omega
                  clear hHeld
                  go_wp2_with fail
                  go_ret
                  obtain ⟨E9, B9, sub9, gR9⟩ := HFin.out
                  rw [HxS.out, HxR.out] at B9
                  exact copy_end HE0.out HB.out HPP.out Hp.out HN.out hk E9 HS1.out B9 Hrs.out Hbi.out Hsub3.out sub9 HgS3.out gR9 (Nat.le_trans sx hs1) hw3 hwW HLm.out hu (by omega)
                exact AllReadyH.nil
              exact AllReadyH.nil
            exact AllReadyH.nil
          exact AllReadyH.nil
        exact AllReadyH.nil
      refine AllReadyH.cons (o := _) rfl (fun K hK => ?_) ?_
      · go_simp
        refine hK.out _ _ ?_ (fun hHeld => ?_)
        · exact trivial
        clear hK K
        (try simp only [Act.put, List.setIfInBounds_toArray, List.set_cons_zero, List.set_cons_succ])
        refine wpAnyH_ready (rs := [4, 12]) (by kernel_rfl) (by simp) ?_
        refine AllReadyH.cons (o := _) rfl (fun K hK => ?_) ?_
        · go_simp
          refine hK.out _ _ ?_ (fun hHeld => ?_)
          · exact trivial
          clear hK K
          (try simp only [Act.put, List.setIfInBounds_toArray, List.set_cons_zero, List.set_cons_succ])
          refine wpAnyH_ready (rs := [12]) (by kernel_rfl) (by simp) ?_
          refine AllReadyH.cons (o := _) rfl (fun K hK => ?_) ?_
          · go_simp
            with_reducible refine cC.out.mono ?_
            rintro e Vx17 ⟨cb2, τx17, rfl, Tx17, Ex17⟩
            have HTx17 := Lib.hid Tx17
            have HEx17 := Lib.hid Ex17
            have hd1x17 := (Ex17.cellAt HB3.out.head (j := 1) rfl)
            have d1x17 := hd1x17.1
            have f1x17 := hd1x17.2
            rw [show (#[Value.slice a2 (N + 1) c2, β.vR, β.vL, Value.int .i64 β.next] : Array Value)[1] = β.vR from rfl, HvR.out, HN.out] at d1x17
            have hox17 := HB3.out.rf.owns Ex17
            rw [HlR.out, HvR.out, HN.out] at hox17
            have Hox17 := Lib.hid hox17
            clear Tx17 Ex17 hd1x17 hox17
            refine hK.out _ _ ?_ (fun hHeld => ?_)
            · exact trivial
            clear hK K
            (try simp only [Act.put, List.setIfInBounds_toArray, List.set_cons_zero, List.set_cons_succ])
            refine wpAnyH_ready (rs := [13]) (by kernel_rfl) (by simp) ?_
            refine AllReadyH.cons (o := _) rfl (fun K hK => ?_) ?_
            · go_simp
              obtain ⟨Vx18, hVx18⟩ : ∃ W, W = Vx17.alloc (.cells #[.pointer (some ⟨cb2, 0, none⟩)] 89) := ⟨_, rfl⟩
              obtain ⟨qx18, hqx18⟩ : ∃ b, b = Vx17.heap.size := ⟨_, rfl⟩
              rw [← hVx18, ← hqx18]
              have hbx18 : Below Vx17.heap.size Vx17 Vx18 := by rw [hVx18]; exact (Below.refl _ _).alloc (Nat.le_refl _) _
              have srcx18 : ∀ j u, [Value.pointer (some ⟨cb2, 0, none⟩)][j]? = some u → Vx18.cell? ((⟨qx18, 0, none⟩ : Addr).add j) = some u := by rw [hVx18, hqx18]; exact cells_new Vx17 [.pointer (some ⟨cb2, 0, none⟩)] 89
              have Hsrcx18 := Lib.hid srcx18
              have dx18 := on_cell hbx18 d1x17
              have fx18 := (hbx18.frozen (p := ⟨β.bk, 1, none⟩) (World.block_lt_of_cell? _ _ d1x17)).trans f1x17
              clear hVx18 hqx18 srcx18
              refine hK.out _ _ ?_ (fun hHeld => ?_)
              · exact trivial
              clear hK K
              (try simp only [Act.put, List.setIfInBounds_toArray, List.set_cons_zero, List.set_cons_succ])
              refine wpAnyH_ready (rs := [14]) (by kernel_rfl) (by simp) ?_
              refine AllReadyH.cons (o := _) rfl (fun K hK => ?_) ?_
              · refine step_append_two elemRefP _ rfl _ _ rfl 0 (.slice (some ⟨gR, 0, none⟩) N cR) N xR rfl (owns_below Hox17.out hbx18 (Nat.le_refl _)) ⟨qx18, 0, none⟩ 1 1 [.pointer (some ⟨cb2, 0, none⟩)] rfl Hsrcx18.out rfl (by simp [Value.oneCell']) (by unfold maxLen; omega) (by omega) (Nat.zero_le _) ?_
                intro vx19 Wx19 hownx19 hgx19
                obtain ⟨dx19, gx19⟩ := grow_cell hgx19 dx18 HgR0.out
                have fx19 := gx19.trans fx18
                obtain ⟨a3, c3, rfl⟩ := owns_shape hownx19
                have Hgx19 := Lib.hid hgx19
                have Hownx19 := Lib.hid hownx19
                clear hgx19 hownx19 gx19
                refine hK.out _ _ ?_ (fun hHeld => ?_)
                · exact trivial
                clear hK K
                (try simp only [Act.put, List.setIfInBounds_toArray, List.set_cons_zero, List.set_cons_succ])
                refine wpAnyH_take (i := 15) (oi := ⟨some 386, _, _, _, _, _⟩) (v := ?_) rfl (by kernel_rfl) (by kernel_rfl) (by kernel_rfl) (fun _ _ _ h => h) (Or.inl ⟨by rfl, ?_⟩) (by assumption) ?_
                rotate_left 1
                · intro w hSw
                  (try dsimp only at hSw)
                  go_simp
                  all_goals with_reducible rfl
                (try simp only [Act.put, List.setIfInBounds_toArray, List.set_cons_zero, List.set_cons_succ])
                refine wpAnyH_take (i := 16) (oi := ⟨some 387, _, _, _, _, _⟩) (v := ?_) rfl (by kernel_rfl) (by kernel_rfl) (by kernel_rfl) (fun _ _ _ h => h) (Or.inl ⟨by rfl, ?_⟩) (by assumption) ?_
                rotate_left 1
                · intro w hSw
                  (try dsimp only at hSw)
                  go_simp
                  all_goals with_reducible rfl
                (try simp only [Act.put, List.setIfInBounds_toArray, List.set_cons_zero, List.set_cons_succ])
                refine wpAnyH_ready (rs := [17]) (by kernel_rfl) (by simp) ?_
                refine AllReadyH.cons (o := _) rfl (fun K hK => ?_) ?_
                · go_simp
                  refine hK.out _ _ ?_ (fun hHeld => ?_)
                  · exact trivial
                  clear hK K
                  (try simp only [Act.put, List.setIfInBounds_toArray, List.set_cons_zero, List.set_cons_succ])
                  refine wpAnyH_done (by kernel_rfl) ?_ _
                  refine NoPanic.normal ?_
                  obtain ⟨τ9, C9, E9, B9, sub9, gR9, sz9⟩ := HB3.out.growR HEx17.out (fun z hz => by rcases List.mem_cons.1 hz with rfl | hz; (show refS + N ≠ 0; unfold refS; omega); exact Hn1.out z hz) hbx18 (u := .pointer (some ⟨cb2, 0, none⟩)) (v' := .slice a3 (N + 1) c3) (by rw [HlR.out]; exact Hownx19.out) (by rw [HlR.out, HvR.out, HN.out]; exact Hgx19.out)
                  have hsz3 := HE3.out
                  have hT := HTx17.out.size
                  have h8 := (⟨E9, B9, sub9, gR9⟩ : _ ∧ _ ∧ _ ∧ _)
                  have HFin := Lib.hid h8
                  clear h8 E9 B9 sub9 gR9
                  generalize Wx19.setCell ⟨β.bk, 1, none⟩ (.slice a3 (N + 1) c3) = W9 at HFin sz9 ⊢
                  have hwW : w.heap.size ≤ W9.heap.size := by simp only [show ∀ w : World, w.drew.heap.size = w.heap.size from fun _ => rfl] at hT; omega
                  have hw3 : w.heap.size ≤ Vx17.heap.size := by simp only [show ∀ w : World, w.drew.heap.size = w.heap.size from fun _ => rfl] at hT; omega
                  clear hHeld
                  go_wp2_with fail
                  go_ret
                  obtain ⟨E9, B9, sub9, gR9⟩ := HFin.out
                  rw [HxS.out, HxR.out] at B9
                  exact copy_end HE0.out HB.out HPP.out Hp.out HN.out hk E9 HS1.out B9 Hrs.out Hbi.out Hsub3.out sub9 HgS3.out gR9 (Nat.le_trans sx hs1) hw3 hwW HLm.out hu (by omega)
                exact AllReadyH.nil
              exact AllReadyH.nil
            exact AllReadyH.nil
          exact AllReadyH.nil
        refine AllReadyH.cons (o := _) rfl (fun K hK => ?_) ?_
        · go_simp
          with_reducible refine cC.out.mono ?_
          rintro e Vx21 ⟨cb2, τx21, rfl, Tx21, Ex21⟩
          have HTx21 := Lib.hid Tx21
          have HEx21 := Lib.hid Ex21
          have hd1x21 := (Ex21.cellAt HB3.out.head (j := 1) rfl)
          have d1x21 := hd1x21.1
          have f1x21 := hd1x21.2
          rw [show (#[Value.slice a2 (N + 1) c2, β.vR, β.vL, Value.int .i64 β.next] : Array Value)[1] = β.vR from rfl, HvR.out, HN.out] at d1x21
          have hox21 := HB3.out.rf.owns Ex21
          rw [HlR.out, HvR.out, HN.out] at hox21
          have Hox21 := Lib.hid hox21
          clear Tx21 Ex21 hd1x21 hox21
          refine hK.out _ _ ?_ (fun hHeld => ?_)
          · exact trivial
          clear hK K
          (try simp only [Act.put, List.setIfInBounds_toArray, List.set_cons_zero, List.set_cons_succ])
          refine wpAnyH_ready (rs := [4, 13]) (by kernel_rfl) (by simp) ?_
          refine AllReadyH.cons (o := _) rfl (fun K hK => ?_) ?_
          · go_simp
            refine hK.out _ _ ?_ (fun hHeld => ?_)
            · exact trivial
            clear hK K
            (try simp only [Act.put, List.setIfInBounds_toArray, List.set_cons_zero, List.set_cons_succ])
            refine wpAnyH_ready (rs := [13]) (by kernel_rfl) (by simp) ?_
            refine AllReadyH.cons (o := _) rfl (fun K hK => ?_) ?_
            · go_simp
              obtain ⟨Vx23, hVx23⟩ : ∃ W, W = Vx21.alloc (.cells #[.pointer (some ⟨cb2, 0, none⟩)] 89) := ⟨_, rfl⟩
              obtain ⟨qx23, hqx23⟩ : ∃ b, b = Vx21.heap.size := ⟨_, rfl⟩
              rw [← hVx23, ← hqx23]
              have hbx23 : Below Vx21.heap.size Vx21 Vx23 := by rw [hVx23]; exact (Below.refl _ _).alloc (Nat.le_refl _) _
              have srcx23 : ∀ j u, [Value.pointer (some ⟨cb2, 0, none⟩)][j]? = some u → Vx23.cell? ((⟨qx23, 0, none⟩ : Addr).add j) = some u := by rw [hVx23, hqx23]; exact cells_new Vx21 [.pointer (some ⟨cb2, 0, none⟩)] 89
              have Hsrcx23 := Lib.hid srcx23
              have dx23 := on_cell hbx23 d1x21
              have fx23 := (hbx23.frozen (p := ⟨β.bk, 1, none⟩) (World.block_lt_of_cell? _ _ d1x21)).trans f1x21
              clear hVx23 hqx23 srcx23
              refine hK.out _ _ ?_ (fun hHeld => ?_)
              · exact trivial
              clear hK K
              (try simp only [Act.put, List.setIfInBounds_toArray, List.set_cons_zero, List.set_cons_succ])
              refine wpAnyH_ready (rs := [14]) (by kernel_rfl) (by simp) ?_
              refine AllReadyH.cons (o := _) rfl (fun K hK => ?_) ?_
              · refine step_append_two elemRefP _ rfl _ _ rfl 0 (.slice (some ⟨gR, 0, none⟩) N cR) N xR rfl (owns_below Hox21.out hbx23 (Nat.le_refl _)) ⟨qx23, 0, none⟩ 1 1 [.pointer (some ⟨cb2, 0, none⟩)] rfl Hsrcx23.out rfl (by simp [Value.oneCell']) (by unfold maxLen; omega) (by omega) (Nat.zero_le _) ?_
                intro vx24 Wx24 hownx24 hgx24
                obtain ⟨dx24, gx24⟩ := grow_cell hgx24 dx23 HgR0.out
                have fx24 := gx24.trans fx23
                obtain ⟨a3, c3, rfl⟩ := owns_shape hownx24
                have Hgx24 := Lib.hid hgx24
                have Hownx24 := Lib.hid hownx24
                clear hgx24 hownx24 gx24
                refine hK.out _ _ ?_ (fun hHeld => ?_)
                · exact trivial
                clear hK K
                (try simp only [Act.put, List.setIfInBounds_toArray, List.set_cons_zero, List.set_cons_succ])
                refine wpAnyH_take (i := 15) (oi := ⟨some 386, _, _, _, _, _⟩) (v := ?_) rfl (by kernel_rfl) (by kernel_rfl) (by kernel_rfl) (fun _ _ _ h => h) (Or.inl ⟨by rfl, ?_⟩) (by assumption) ?_
                rotate_left 1
                · intro w hSw
                  (try dsimp only at hSw)
                  go_simp
                  all_goals with_reducible rfl
                (try simp only [Act.put, List.setIfInBounds_toArray, List.set_cons_zero, List.set_cons_succ])
                refine wpAnyH_take (i := 16) (oi := ⟨some 387, _, _, _, _, _⟩) (v := ?_) rfl (by kernel_rfl) (by kernel_rfl) (by kernel_rfl) (fun _ _ _ h => h) (Or.inl ⟨by rfl, ?_⟩) (by assumption) ?_
                rotate_left 1
                · intro w hSw
                  (try dsimp only at hSw)
                  go_simp
                  all_goals with_reducible rfl
                (try simp only [Act.put, List.setIfInBounds_toArray, List.set_cons_zero, List.set_cons_succ])
                refine wpAnyH_ready (rs := [17]) (by kernel_rfl) (by simp) ?_
                refine AllReadyH.cons (o := _) rfl (fun K hK => ?_) ?_
                · go_simp
                  refine hK.out _ _ ?_ (fun hHeld => ?_)
                  · exact trivial
                  clear hK K
                  (try simp only [Act.put, List.setIfInBounds_toArray, List.set_cons_zero, List.set_cons_succ])
                  refine wpAnyH_done (by kernel_rfl) ?_ _
                  refine NoPanic.normal ?_
                  obtain ⟨τ9, C9, E9, B9, sub9, gR9, sz9⟩ := HB3.out.growR HEx21.out (fun z hz => by rcases List.mem_cons.1 hz with rfl | hz; (show refS + N ≠ 0; unfold refS; omega); exact Hn1.out z hz) hbx23 (u := .pointer (some ⟨cb2, 0, none⟩)) (v' := .slice a3 (N + 1) c3) (by rw [HlR.out]; exact Hownx24.out) (by rw [HlR.out, HvR.out, HN.out]; exact Hgx24.out)
                  have hsz3 := HE3.out
                  have hT := HTx21.out.size
                  have h8 := (⟨E9, B9, sub9, gR9⟩ : _ ∧ _ ∧ _ ∧ _)
                  have HFin := Lib.hid h8
                  clear h8 E9 B9 sub9 gR9
                  generalize Wx24.setCell ⟨β.bk, 1, none⟩ (.slice a3 (N + 1) c3) = W9 at HFin sz9 ⊢
                  have hwW : w.heap.size ≤ W9.heap.size := by simp only [show ∀ w : World, w.drew.heap.size = w.heap.size from fun _ => rfl] at hT; omega
                  have hw3 : w.heap.size ≤ Vx21.heap.size := by simp only [show ∀ w : World, w.drew.heap.size = w.heap.size from fun _ => rfl] at hT; omega
                  clear hHeld
                  go_wp2_with fail
                  go_ret
                  obtain ⟨E9, B9, sub9, gR9⟩ := HFin.out
                  rw [HxS.out, HxR.out] at B9
                  exact copy_end HE0.out HB.out HPP.out Hp.out HN.out hk E9 HS1.out B9 Hrs.out Hbi.out Hsub3.out sub9 HgS3.out gR9 (Nat.le_trans sx hs1) hw3 hwW HLm.out hu (by omega)
                exact AllReadyH.nil
              exact AllReadyH.nil
            exact AllReadyH.nil
          refine AllReadyH.cons (o := _) rfl (fun K hK => ?_) ?_
          · go_simp
            obtain ⟨Vx26, hVx26⟩ : ∃ W, W = Vx21.alloc (.cells #[.pointer (some ⟨cb2, 0, none⟩)] 89) := ⟨_, rfl⟩
            obtain ⟨qx26, hqx26⟩ : ∃ b, b = Vx21.heap.size := ⟨_, rfl⟩
            rw [← hVx26, ← hqx26]
            have hbx26 : Below Vx21.heap.size Vx21 Vx26 := by rw [hVx26]; exact (Below.refl _ _).alloc (Nat.le_refl _) _
            have srcx26 : ∀ j u, [Value.pointer (some ⟨cb2, 0, none⟩)][j]? = some u → Vx26.cell? ((⟨qx26, 0, none⟩ : Addr).add j) = some u := by rw [hVx26, hqx26]; exact cells_new Vx21 [.pointer (some ⟨cb2, 0, none⟩)] 89
            have Hsrcx26 := Lib.hid srcx26
            have dx26 := on_cell hbx26 d1x21
            have fx26 := (hbx26.frozen (p := ⟨β.bk, 1, none⟩) (World.block_lt_of_cell? _ _ d1x21)).trans f1x21
            clear hVx26 hqx26 srcx26
            refine hK.out _ _ ?_ (fun hHeld => ?_)
            · exact trivial
            clear hK K
            (try simp only [Act.put, List.setIfInBounds_toArray, List.set_cons_zero, List.set_cons_succ])
            refine wpAnyH_ready (rs := [4]) (by kernel_rfl) (by simp) ?_
            refine AllReadyH.cons (o := _) rfl (fun K hK => ?_) ?_
            · go_simp
              refine hK.out _ _ ?_ (fun hHeld => ?_)
              · exact trivial
              clear hK K
              (try simp only [Act.put, List.setIfInBounds_toArray, List.set_cons_zero, List.set_cons_succ])
              refine wpAnyH_ready (rs := [14]) (by kernel_rfl) (by simp) ?_
              refine AllReadyH.cons (o := _) rfl (fun K hK => ?_) ?_
              · refine step_append_two elemRefP _ rfl _ _ rfl 0 (.slice (some ⟨gR, 0, none⟩) N cR) N xR rfl (owns_below Hox21.out hbx26 (Nat.le_refl _)) ⟨qx26, 0, none⟩ 1 1 [.pointer (some ⟨cb2, 0, none⟩)] rfl Hsrcx26.out rfl (by simp [Value.oneCell']) (by unfold maxLen; omega) (by omega) (Nat.zero_le _) ?_
                intro vx28 Wx28 hownx28 hgx28
                obtain ⟨dx28, gx28⟩ := grow_cell hgx28 dx26 HgR0.out
                have fx28 := gx28.trans fx26
                obtain ⟨a3, c3, rfl⟩ := owns_shape hownx28
                have Hgx28 := Lib.hid hgx28
                have Hownx28 := Lib.hid hownx28
                clear hgx28 hownx28 gx28
                refine hK.out _ _ ?_ (fun hHeld => ?_)
                · exact trivial
                clear hK K
                (try simp only [Act.put, List.setIfInBounds_toArray, List.set_cons_zero, List.set_cons_succ])
                refine wpAnyH_take (i := 15) (oi := ⟨some 386, _, _, _, _, _⟩) (v := ?_) rfl (by kernel_rfl) (by kernel_rfl) (by kernel_rfl) (fun _ _ _ h => h) (Or.inl ⟨by rfl, ?_⟩) (by assumption) ?_
                rotate_left 1
                · intro w hSw
                  (try dsimp only at hSw)
                  go_simp
                  all_goals with_reducible rfl
                (try simp only [Act.put, List.setIfInBounds_toArray, List.set_cons_zero, List.set_cons_succ])
                refine wpAnyH_take (i := 16) (oi := ⟨some 387, _, _, _, _, _⟩) (v := ?_) rfl (by kernel_rfl) (by kernel_rfl) (by kernel_rfl) (fun _ _ _ h => h) (Or.inl ⟨by rfl, ?_⟩) (by assumption) ?_
                rotate_left 1
                · intro w hSw
                  (try dsimp only at hSw)
                  go_simp
                  all_goals with_reducible rfl
                (try simp only [Act.put, List.setIfInBounds_toArray, List.set_cons_zero, List.set_cons_succ])
                refine wpAnyH_ready (rs := [17]) (by kernel_rfl) (by simp) ?_
                refine AllReadyH.cons (o := _) rfl (fun K hK => ?_) ?_
                · go_simp
                  refine hK.out _ _ ?_ (fun hHeld => ?_)
                  · exact trivial
                  clear hK K
                  (try simp only [Act.put, List.setIfInBounds_toArray, List.set_cons_zero, List.set_cons_succ])
                  refine wpAnyH_done (by kernel_rfl) ?_ _
                  refine NoPanic.normal ?_
                  obtain ⟨τ9, C9, E9, B9, sub9, gR9, sz9⟩ := HB3.out.growR HEx21.out (fun z hz => by rcases List.mem_cons.1 hz with rfl | hz; (show refS + N ≠ 0; unfold refS; omega); exact Hn1.out z hz) hbx26 (u := .pointer (some ⟨cb2, 0, none⟩)) (v' := .slice a3 (N + 1) c3) (by rw [HlR.out]; exact Hownx28.out) (by rw [HlR.out, HvR.out, HN.out]; exact Hgx28.out)
                  have hsz3 := HE3.out
                  have hT := HTx21.out.size
                  have h8 := (⟨E9, B9, sub9, gR9⟩ : _ ∧ _ ∧ _ ∧ _)
                  have HFin := Lib.hid h8
                  clear h8 E9 B9 sub9 gR9
                  generalize Wx28.setCell ⟨β.bk, 1, none⟩ (.slice a3 (N + 1) c3) = W9 at HFin sz9 ⊢
                  have hwW : w.heap.size ≤ W9.heap.size := by simp only [show ∀ w : World, w.drew.heap.size = w.heap.size from fun _ => rfl] at hT; omega
                  have hw3 : w.heap.size ≤ Vx21.heap.size := by simp only [show ∀ w : World, w.drew.heap.size = w.heap.size from fun _ => rfl] at hT; omega
                  clear hHeld
                  go_wp2_with fail
                  go_ret
                  obtain ⟨E9, B9, sub9, gR9⟩ := HFin.out
                  rw [HxS.out, HxR.out] at B9
                  exact copy_end HE0.out HB.out HPP.out Hp.out HN.out hk E9 HS1.out B9 Hrs.out Hbi.out Hsub3.out sub9 HgS3.out gR9 (Nat.le_trans sx hs1) hw3 hwW HLm.out hu (by omega)
                exact AllReadyH.nil
              exact AllReadyH.nil
            exact AllReadyH.nil
          exact AllReadyH.nil
        exact AllReadyH.nil
      exact AllReadyH.nil
    exact AllReadyH.nil
end Go.Proofs.Ytgodidoibcomcaa.Bk
