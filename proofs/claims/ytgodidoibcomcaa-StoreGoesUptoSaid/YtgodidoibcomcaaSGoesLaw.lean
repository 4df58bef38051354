/-
  The walk of the law StoreGoes.
-/
import Derived.Test.YtgodidoibcomcaaSGoesF
import Derived.Test.YtgodidoibcomcaaSNone
import Derived.Test.YtgodidoibcomcaaSOwn
namespace Go.Proofs.Ytgodidoibcomcaa
open Go.RowKit

theorem Env.adoptNew {w0 : World} {τ : Own} {w w1 : World} {S : List Ent} {L : List RSl} {C : List Box} {g : Nat} {o : Obj} (E : Env w0 τ w S L C) (hb : Below w.heap.size w w1) (hg : w.heap.size ≤ g) (ho : w1.heap[g]? = some o) :
    Env w0 (adopted boxS .still g (g + 1) τ) w1 S L ((g, o) :: C) ∧ Turn boxS (fun _ => False) τ (adopted boxS .still g (g + 1) τ) w w1 := by
  have hlt := (Array.getElem?_eq_some_iff.1 ho).1
  have T : Turn boxS (fun _ => False) τ (adopted boxS .still g (g + 1) τ) w w1 := ⟨hb.os, hb.tape, hb.output, hb.size, fun j hj _ => hb.block j hj, fun j hj => adopted_out (by omega), (fun j hj s' r e => by
    unfold adopted at e
    split at e
    · cases e; rfl
    · rw [E.fresh j hj] at e; cases e), fun j hj => by rw [adopted_out (by omega)]; exact E.fresh j (by omega)⟩
  obtain ⟨h1, h2, h3, h4, h5⟩ := E.turned T (.inr fun h => h)
  refine ⟨⟨h1, h2, h3, fun z hz => (E.st z hz).idle T (fun _ h => h), h4, fun x hx => ?_, ?_⟩, T⟩
  · rcases List.mem_cons.1 hx with rfl | hx
    · exact ⟨adopted_in (Nat.le_refl _) (Nat.lt_succ_self _), ho⟩
    · exact h5 x hx
  · rw [List.map_cons, List.nodup_cons]
    refine ⟨fun h => ?_, E.keys⟩
    obtain ⟨x, hx, he⟩ := List.mem_map.1 h
    have := (Array.getElem?_eq_some_iff.1 (E.boxes x hx).2).1
    omega

theorem goes_fn {w0 : World} {bs bg bo bi sb : Nat} {e0 : Ent} {σ0 : St} {h0 : Hd} {L : List RSl} {stop p : Int} {τ0 : Own} {W0 : World} (hs0 : StoreAt 1 sb σ0 h0 τ0 W0) (he0 : e0.s = 1) (hl : σ0.rows.length ≤ 100000000000) (hin : ∀ W : World, Below w0.heap.size w0 W → W.cell? ⟨bi, 5, none⟩ = some (.int .i64 stop)) :
    EachFn 1 sb 33 #[.pointer (some ⟨bg, 0, none⟩), .pointer (some ⟨bs, 0, none⟩), .pointer (some ⟨bo, 0, none⟩), .pointer (some ⟨bi, 0, none⟩)] (turnsOf σ0 p) (GoesInv w0 bs bg bo sb e0 σ0 h0 L (turnsOf σ0 p) stop) (GoesFin w0 bs bg bo sb e0 L (turnsOf σ0 p) stop) := by
  have hTl : (turnsOf σ0 p).length ≤ 100000000000 := by
    have : (ofK σ0.rows (.int .i64 p)).length ≤ σ0.rows.length := idxL_length (fun r => Value.int .i64 p = .int .i64 r.1) σ0.rows
    have e : (turnsOf σ0 p).length = (ofK σ0.rows (.int .i64 p)).length := by simp [turnsOf]
    omega
  refine ⟨?_, ?_, ?_, ?_, ?_, ?_, ?_⟩
  · rintro k X τ w w' σ ⟨h1, h2, h3, h4, a, c, h5, h6⟩ hb
    exact ⟨h1, h2.below hb, h3, h4, a, c, h5.stay hb, h6.below hb⟩
  · rintro k X τ w σ ⟨rfl, h2, _⟩
    exact ⟨_, h2, hl⟩
  · rintro k X τ w σ ⟨h1, h2, h3, h4, a, c, h5, h6⟩ x hx
    exact (h5.boxes x (List.mem_append.2 (.inl hx))).2
  · rintro k X τ w σ x ⟨rfl, h2, _⟩ hx hne
    obtain ⟨_, i, r, hi, _, _, hb⟩ := turnsOf_at hs0 hx
    rw [hi, Int.toNat_natCast] at hne
    exact absurd hb hne
  · rintro k X τ w σ ⟨x1, x2⟩ ⟨p', xs⟩ a c hI hx hb hr hx'
    obtain ⟨rfl, h2, h3⟩ := id hI
    obtain ⟨_, i, r, hi, hr', _, hb'⟩ := turnsOf_at hs0 hx
    simp only at hi hr hb
    subst hi
    rw [Int.toNat_natCast] at hr hb
    have := goescall_any (a := a) (c := c) he0 hin hTl hI hx hr hx' (h2.sound.fits _ (List.mem_of_getElem? hr)).2.2.2.1
    exact this
  · rintro X τ w σ ⟨rfl, h2, h3, h4, a, c, h5, h6⟩
    exact ⟨_, X, a, c, Nat.le_refl _, .inr ⟨h4.elim .inl (fun h => .inr h), rfl⟩, h5, h6⟩
  · intro x y w
    kernel_rfl

theorem Ints.cut {w : World} {a : Option Addr} {xs : List Int} (h : Ints w a xs) (m : Nat) : Ints w a (xs.take m) := by
  rcases h with h | ⟨b, o, rfl, hc⟩
  · exact .inl (by rw [h]; simp)
  · refine .inr ⟨b, o, rfl, fun i hi => ?_⟩
    have hi2 : i < xs.length := by simp at hi; omega
    rw [List.getElem_take]
    exact hc i hi2

set_option linter.unusedSimpArgs false in
set_option maxHeartbeats 8000000 in
set_option maxRecDepth 100000 in
theorem goes_any (a0 a1 a2 a3 : Option Addr) (c0 c1 c2 c3 : Nat) (ar : List Int) (F G H : List Row) (p q : Int) (say : Bool) (w : World) (h0 : IntsZ (fun _ => True) w a0 c0 ar) (h1 : RowsZ (fun _ => True) w a1 c1 F)
    (r1 : ∀ r ∈ F, RowOk r) (l0 : ar.length ≤ 9223372036854775807) (l1 : F.length ≤ 2000000) (hp : Rng p) (hq : Rng q) :
    Calls Try.prog 11 #[.agg #[.slice a0 ar.length c0, .slice a1 F.length c1, .slice a2 G.length c2, .slice a3 H.length c3, .int .i64 p, .int .i64 q, .bool say]] w fun e w' => e = .returned (.bool true) ∧ Below w.heap.size w w' := by
  obtain ⟨w0, hw0⟩ : ∃ w0, w0 = w.alloc (.cells #[.slice a0 ar.length c0, .slice a1 F.length c1, .slice a2 G.length c2, .slice a3 H.length c3, .int .i64 p, .int .i64 q, .bool say] 41) := ⟨_, rfl⟩
  have hb0 : Below w.heap.size w w0 := by rw [hw0]; exact (Below.refl _ _).alloc (Nat.le_refl _) _
  have hin : ∀ W : World, Below w0.heap.size w0 W → W.cell? ⟨w.heap.size, 0, none⟩ = some (.slice a0 ar.length c0) ∧ W.cell? ⟨w.heap.size, 1, none⟩ = some (.slice a1 F.length c1) ∧ W.cell? ⟨w.heap.size, 4, none⟩ = some (.int .i64 p) ∧ W.cell? ⟨w.heap.size, 5, none⟩ = some (.int .i64 q) := fun W hW => by
    have hs : w.heap.size < w0.heap.size := by rw [hw0]; simp
    rw [hW.cell (p := ⟨w.heap.size, 0, none⟩) hs, hW.cell (p := ⟨w.heap.size, 1, none⟩) hs, hW.cell (p := ⟨w.heap.size, 4, none⟩) hs, hW.cell (p := ⟨w.heap.size, 5, none⟩) hs, hw0]
    simp
  have HIn0 := Lib.hid hin
  have H0 := Lib.hid (h0.below hb0 (Nat.le_refl _))
  have H1 := Lib.hid (h1.below hb0 (Nat.le_refl _))
  have HR1 := Lib.hid r1
  have HW0 := Lib.hid hw0
  have cNo := Lib.hid (none_any w0)
  have hp0 := hp
  clear hin h0 h1 r1 hw0
  by_cases hf : fitsL ar = true
  · have hl := fits_len hf
    have HA := Lib.hid (partsL hf HR1.out row0_fits)
    obtain ⟨A, hA⟩ : ∃ A, joinedL [((ar.length : Int), [])] (F.map (shape ar)) = A := ⟨_, rfl⟩
    rw [hA] at HA
    have lA := HA.out.len
    have lA0 := HA.out.le
    simp only [List.length_cons, List.length_nil, Nat.zero_add] at lA lA0
    have HF := Lib.hid hf
    obtain ⟨MF, hMF⟩ : ∃ M, F.map (shape ar) = M := ⟨_, rfl⟩
    have m1 : MF.length ≤ 2000000 := by rw [← hMF]; simpa using l1
    have M8F := Lib.hid (shaped8 hf HR1.out)
    rw [hMF] at hA M8F
    have JA := Lib.hid hA
    have HMF := Lib.hid hMF
    clear hA hf hMF
    go_enter Try.func11, Try.ntmps11
    go_wp2_with fail
    rw [← HW0.out]
    with_reducible refine cNo.out.mono ?_
    rintro e v0 ⟨rfl, hbv⟩
    have hb1 : Below w.heap.size w v0 := hb0.trans (hbv.mono hb0.size)
    have HIn := Lib.hid (fun (W : World) (hW : Below v0.heap.size v0 W) => HIn0.out W (hbv.trans (hW.mono hbv.size)))
    have H0v := Lib.hid (H0.out.below hbv (Nat.le_refl _))
    have H1v := Lib.hid (H1.out.below hbv (Nat.le_refl _))
    have cF := Lib.hid (fits_any a0 c0 ar v0 H0v.out.ints l0)
    have cM := Lib.hid (made_any (s := 1) (τ := noOwn) a0 c0 ar v0 (fun _ _ => rfl) H0v.out.ints HF.out)
    rw [HF.out] at cF
    obtain ⟨i0, i1, i4, i5⟩ := HIn.out v0 (Below.refl _ _)
    clear cNo hb0
    go_wp2_with fail
    with_reducible refine cF.out.mono ?_
    rintro e v0 ⟨rfl, rfl⟩
    go_wp2_with fail
    with_reducible refine cM.out.mono ?_
    rintro e w1 ⟨sb, τ1, rfl, hs1, T1⟩
    obtain ⟨W1, hW1⟩ : ∃ W, W = w1.alloc (.cells #[.pointer (some ⟨sb, 0, none⟩)] 25) := ⟨_, rfl⟩
    obtain ⟨bs, hbs⟩ : ∃ b, b = w1.heap.size := ⟨_, rfl⟩
    obtain ⟨τs, Es⟩ : ∃ τ, Env v0 τ W1 [⟨1, sb, ar ++ [0], [((ar.length : Int), [])], [], 1⟩] [] [(bs, .cells #[.pointer (some ⟨sb, 0, none⟩)] 25)] := ⟨_, by rw [hW1, hbs]; exact (env_made hs1 T1).box _⟩
    have HEs := Lib.hid Es
    have HXW1 := Lib.hid hW1
    have Hbs := Lib.hid hbs
    clear hs1 T1 cM cF i0 i1 i4 i5 Es hW1 hbs
    go_upto_region 6 with fail
    rw [← HXW1.out, ← Hbs.out]
    have d0 := (HEs.out.cell (k := 0) rfl (j := 0) rfl).1
    simp only [List.getElem_toArray, List.getElem_cons_zero] at d0
    go_upto_region 8 with fail
    clear d0
    go_cut [4] (fun v wx => ∃ a c, v = .slice a A.length c ∧ Hid (Env v0 τs wx [⟨1, sb, ar ++ [0], [((ar.length : Int), [])], [], 1⟩] [(a, c, A)] [(bs, .cells #[.pointer (some ⟨sb, 0, none⟩)] 25)]))
    case first =>
      obtain ⟨V1, hV1⟩ : ∃ V, V = W1.drew := ⟨_, rfl⟩
      have HV1 : Hid (Env v0 τs V1 [⟨1, sb, ar ++ [0], [((ar.length : Int), [])], [], 1⟩] [] [(bs, .cells #[.pointer (some ⟨sb, 0, none⟩)] 25)]) := Lib.hid (by rw [hV1]; exact HEs.out.stay (Below.refl _ _).drew)
      refine wp_region_noPanic ?_
      refine wp_region_held_drew (S := (fun w' => w'.cell? ⟨w.heap.size, 0, none⟩ = some (.slice a0 ar.length c0) ∧ w'.cell? ⟨w.heap.size, 1, none⟩ = some (.slice a1 F.length c1))) (by kernel_rfl) ?_ (fun hHeld => ?_)
      · rw [← hV1]; exact ⟨(HIn.out _ HV1.out.below).1, (HIn.out _ HV1.out.below).2.1⟩
      rw [← hV1] at hHeld ⊢
      clear hV1
      refine wpAnyH_take (i := 0) (oi := ⟨some 21, _, _, _, _, _⟩) (v := ?_) rfl (by kernel_rfl) (by kernel_rfl) (by kernel_rfl) (fun _ _ _ h => h) (Or.inl ⟨by rfl, ?_⟩) (by assumption) ?_
      rotate_left 1
      · intro w hSw
        (try dsimp only at hSw)
        go_simp
        all_goals with_reducible rfl
      (try simp only [Act.put, List.setIfInBounds_toArray, List.set_cons_zero, List.set_cons_succ])
      refine wpAnyH_take (i := 1) (oi := ⟨some 22, _, _, _, _, _⟩) (v := ?_) rfl (by kernel_rfl) (by kernel_rfl) (by kernel_rfl) (fun _ _ _ h => h) (Or.inl ⟨by rfl, ?_⟩) (by assumption) ?_
      rotate_left 1
      · intro w hSw
        (try dsimp only at hSw)
        go_simp
        all_goals with_reducible rfl
      (try simp only [Act.put, List.setIfInBounds_toArray, List.set_cons_zero, List.set_cons_succ])
      refine wpAnyH_take (i := 2) (oi := ⟨some 23, _, _, _, _, _⟩) (v := ?_) rfl (by kernel_rfl) (by kernel_rfl) (by kernel_rfl) (fun _ _ _ h => h) (Or.inl ⟨by rfl, ?_⟩) (by assumption) ?_
      rotate_left 1
      · intro w hSw
        (try dsimp only at hSw)
        go_simp
        all_goals with_reducible rfl
      (try simp only [Act.put, List.setIfInBounds_toArray, List.set_cons_zero, List.set_cons_succ])
      refine wpAnyH_take (i := 3) (oi := ⟨some 24, _, _, _, _, _⟩) (v := ?_) rfl (by kernel_rfl) (by kernel_rfl) (by kernel_rfl) (fun _ _ _ h => h) (Or.inl ⟨by rfl, ?_⟩) (by assumption) ?_
      rotate_left 1
      · intro w hSw
        (try dsimp only at hSw)
        go_simp
        all_goals with_reducible rfl
      (try simp only [Act.put, List.setIfInBounds_toArray, List.set_cons_zero, List.set_cons_succ])
      refine wpAnyH_take (i := 5) (oi := ⟨some 26, _, _, _, _, _⟩) (v := ?_) rfl (by kernel_rfl) (by kernel_rfl) (by kernel_rfl) (fun _ _ _ h => h) (Or.inl ⟨by rfl, ?_⟩) (by assumption) ?_
      rotate_left 1
      · intro w hSw
        (try dsimp only at hSw)
        go_simp
        all_goals with_reducible rfl
      (try simp only [Act.put, List.setIfInBounds_toArray, List.set_cons_zero, List.set_cons_succ])
      refine wpAnyH_take (i := 6) (oi := ⟨some 27, _, _, _, _, _⟩) (v := ?_) rfl (by kernel_rfl) (by kernel_rfl) (by kernel_rfl) (fun _ _ _ h => h) (Or.inl ⟨by rfl, ?_⟩) (by assumption) ?_
      rotate_left 1
      · intro w hSw
        (try dsimp only at hSw)
        go_simp
        all_goals with_reducible rfl
      (try simp only [Act.put, List.setIfInBounds_toArray, List.set_cons_zero, List.set_cons_succ])
      refine wpAnyH_take (i := 7) (oi := ⟨some 28, _, _, _, _, _⟩) (v := ?_) rfl (by kernel_rfl) (by kernel_rfl) (by kernel_rfl) (fun _ _ _ h => h) (Or.inl ⟨by rfl, ?_⟩) (by assumption) ?_
      rotate_left 1
      · intro w hSw
        (try dsimp only at hSw)
        go_simp
        all_goals with_reducible rfl
      (try simp only [Act.put, List.setIfInBounds_toArray, List.set_cons_zero, List.set_cons_succ])
      refine wpAnyH_take (i := 8) (oi := ⟨some 29, _, _, _, _, _⟩) (v := ?_) rfl (by kernel_rfl) (by kernel_rfl) (by kernel_rfl) (fun _ _ _ h => h) (Or.inl ⟨by rfl, ?_⟩) (by assumption) ?_
      rotate_left 1
      · intro w hSw
        (try dsimp only at hSw)
        go_simp
        all_goals with_reducible rfl
      (try simp only [Act.put, List.setIfInBounds_toArray, List.set_cons_zero, List.set_cons_succ])
      refine wpAnyH_ready (rs := [4, 9]) (by kernel_rfl) (by simp) ?_
      refine AllReadyH.cons (o := _) rfl (fun K hK => ?_) ?_
      · go_simp
        obtain ⟨V2, hV2⟩ : ∃ V, V = V1.alloc (.cells #[.int .i64 (ar.length : Int), .slice none 0 0] 28) := ⟨_, rfl⟩
        obtain ⟨g2, hg2⟩ : ∃ b, b = V1.heap.size := ⟨_, rfl⟩
        rw [← hV2, ← hg2]
        have HV2 : Hid (Env v0 τs V2 [⟨1, sb, ar ++ [0], [((ar.length : Int), [])], [], 1⟩] [(some ⟨g2, 0, none⟩, 1, [((ar.length : Int), [])])] [(bs, .cells #[.pointer (some ⟨sb, 0, none⟩)] 25)]) := Lib.hid (by rw [hV2, hg2]; exact HV1.out.put ((Below.refl _ _).alloc (Nat.le_refl _) _) (row0_rows (Z := fun j => V1.heap.size ≤ j) new_row0'.1 new_row0'.2 (Nat.le_refl _)) (fun j hj => .inr hj))
        clear hV2 hg2
        refine hK.out _ _ ?_ (fun hHeld => ?_)
        · exact ⟨(HIn.out _ HV2.out.below).1, (HIn.out _ HV2.out.below).2.1⟩
        clear hK K
        (try simp only [Act.put, List.setIfInBounds_toArray, List.set_cons_zero, List.set_cons_succ])
        refine wpAnyH_ready (rs := [9]) (by kernel_rfl) (by simp) ?_
        refine AllReadyH.cons (o := _) rfl (fun K hK => ?_) ?_
        · have cK := Lib.hid (env_shaped HV2.out H0v.out H1v.out HF.out HR1.out (by omega) HMF.out)
          go_simp
          with_reducible refine cK.out.mono ?_
          rintro e V3 ⟨am3, cm3, rfl, -, EV3⟩
          have HV3 := Lib.hid EV3
          clear EV3 cK
          refine hK.out _ _ ?_ (fun hHeld => ?_)
          · exact ⟨(HIn.out _ HV3.out.below).1, (HIn.out _ HV3.out.below).2.1⟩
          clear hK K
          (try simp only [Act.put, List.setIfInBounds_toArray, List.set_cons_zero, List.set_cons_succ])
          refine wpAnyH_ready (rs := [10]) (by kernel_rfl) (by simp) ?_
          refine AllReadyH.cons (o := _) rfl (fun K hK => ?_) ?_
          · have cK := Lib.hid (env_joined HV3.out (List.mem_cons_of_mem _ (List.mem_cons_self ..)) (List.mem_cons_self ..) (app8 (fits8 row0_fits) M8F.out) (by simp only [List.length_cons, List.length_nil]; omega) JA.out (nl := 1) (nm := MF.length) rfl rfl)
            go_simp
            with_reducible refine cK.out.mono ?_
            rintro e V4 ⟨aj4, cj4, rfl, -, EV4⟩
            have HV4 := Lib.hid EV4
            clear EV4 cK
            refine hK.out _ _ ?_ (fun hHeld => ?_)
            · exact ⟨(HIn.out _ HV4.out.below).1, (HIn.out _ HV4.out.below).2.1⟩
            clear hK K
            (try simp only [Act.put, List.setIfInBounds_toArray, List.set_cons_zero, List.set_cons_succ])
            refine wpAnyH_take (i := 11) (oi := ⟨some 4, _, _, _, _, _⟩) (v := ?_) rfl (by kernel_rfl) (by kernel_rfl) (by kernel_rfl) (fun _ _ _ h => h) (Or.inl ⟨by rfl, ?_⟩) (by assumption) ?_
            rotate_left 1
            · intro w hSw
              (try dsimp only at hSw)
              go_simp
              all_goals with_reducible rfl
            (try simp only [Act.put, List.setIfInBounds_toArray, List.set_cons_zero, List.set_cons_succ])
            refine wpAnyH_done (by kernel_rfl) ?_ _
            refine NoPanic.normal ?_
            go_wp2_with fail
            go_meet
            case rel => exact ⟨aj4, cj4, rfl, Lib.hid (HV4.out.sub (L' := [(aj4, cj4, A)]) (fun x hx => by rw [List.mem_singleton] at hx; subst hx; exact List.mem_cons_self ..))⟩
          exact AllReadyH.nil
        exact AllReadyH.nil
      refine AllReadyH.cons (o := _) rfl (fun K hK => ?_) ?_
      · have cK := Lib.hid (env_shaped HV1.out H0v.out H1v.out HF.out HR1.out (by omega) HMF.out)
        go_simp
        with_reducible refine cK.out.mono ?_
        rintro e V5 ⟨am5, cm5, rfl, -, EV5⟩
        have HV5 := Lib.hid EV5
        clear EV5 cK
        refine hK.out _ _ ?_ (fun hHeld => ?_)
        · exact ⟨(HIn.out _ HV5.out.below).1, (HIn.out _ HV5.out.below).2.1⟩
        clear hK K
        (try simp only [Act.put, List.setIfInBounds_toArray, List.set_cons_zero, List.set_cons_succ])
        refine wpAnyH_ready (rs := [4]) (by kernel_rfl) (by simp) ?_
        refine AllReadyH.cons (o := _) rfl (fun K hK => ?_) ?_
        · go_simp
          obtain ⟨V6, hV6⟩ : ∃ V, V = V5.alloc (.cells #[.int .i64 (ar.length : Int), .slice none 0 0] 28) := ⟨_, rfl⟩
          obtain ⟨g6, hg6⟩ : ∃ b, b = V5.heap.size := ⟨_, rfl⟩
          rw [← hV6, ← hg6]
          have HV6 : Hid (Env v0 τs V6 [⟨1, sb, ar ++ [0], [((ar.length : Int), [])], [], 1⟩] [(some ⟨g6, 0, none⟩, 1, [((ar.length : Int), [])]), (am5, cm5, MF)] [(bs, .cells #[.pointer (some ⟨sb, 0, none⟩)] 25)]) := Lib.hid (by rw [hV6, hg6]; exact HV5.out.put ((Below.refl _ _).alloc (Nat.le_refl _) _) (row0_rows (Z := fun j => V5.heap.size ≤ j) new_row0'.1 new_row0'.2 (Nat.le_refl _)) (fun j hj => .inr hj))
          clear hV6 hg6
          refine hK.out _ _ ?_ (fun hHeld => ?_)
          · exact ⟨(HIn.out _ HV6.out.below).1, (HIn.out _ HV6.out.below).2.1⟩
          clear hK K
          (try simp only [Act.put, List.setIfInBounds_toArray, List.set_cons_zero, List.set_cons_succ])
          refine wpAnyH_ready (rs := [10]) (by kernel_rfl) (by simp) ?_
          refine AllReadyH.cons (o := _) rfl (fun K hK => ?_) ?_
          · have cK := Lib.hid (env_joined HV6.out (List.mem_cons_self ..) (List.mem_cons_of_mem _ (List.mem_cons_self ..)) (app8 (fits8 row0_fits) M8F.out) (by simp only [List.length_cons, List.length_nil]; omega) JA.out (nl := 1) (nm := MF.length) rfl rfl)
            go_simp
            with_reducible refine cK.out.mono ?_
            rintro e V7 ⟨aj7, cj7, rfl, -, EV7⟩
            have HV7 := Lib.hid EV7
            clear EV7 cK
            refine hK.out _ _ ?_ (fun hHeld => ?_)
            · exact ⟨(HIn.out _ HV7.out.below).1, (HIn.out _ HV7.out.below).2.1⟩
            clear hK K
            (try simp only [Act.put, List.setIfInBounds_toArray, List.set_cons_zero, List.set_cons_succ])
            refine wpAnyH_take (i := 11) (oi := ⟨some 4, _, _, _, _, _⟩) (v := ?_) rfl (by kernel_rfl) (by kernel_rfl) (by kernel_rfl) (fun _ _ _ h => h) (Or.inl ⟨by rfl, ?_⟩) (by assumption) ?_
            rotate_left 1
            · intro w hSw
              (try dsimp only at hSw)
              go_simp
              all_goals with_reducible rfl
            (try simp only [Act.put, List.setIfInBounds_toArray, List.set_cons_zero, List.set_cons_succ])
            refine wpAnyH_done (by kernel_rfl) ?_ _
            refine NoPanic.normal ?_
            go_wp2_with fail
            go_meet
            case rel => exact ⟨aj7, cj7, rfl, Lib.hid (HV7.out.sub (L' := [(aj7, cj7, A)]) (fun x hx => by rw [List.mem_singleton] at hx; subst hx; exact List.mem_cons_self ..))⟩
          exact AllReadyH.nil
        exact AllReadyH.nil
      exact AllReadyH.nil
    case rest =>
    obtain ⟨aA, cA, rfl, HEa⟩ := hcut
    have d3 := (HEa.out.cell (k := 0) rfl (j := 0) rfl).1
    simp only [List.getElem_toArray, List.getElem_cons_zero] at d3
    have cK := Lib.hid (env_add HEa.out (by decide) (fun z hz => by cases hz) (List.mem_cons_self ..) HA.out.fits (by omega) HA.out.twice)
    go_wp2_with fail
    with_reducible refine cK.out.mono ?_
    rintro e w5 ⟨rfl, τ5, E5⟩
    have d3 := (E5.cell (k := 0) rfl (j := 0) rfl).1
    simp only [List.getElem_toArray, List.getElem_cons_zero] at d3
    obtain ⟨i0, i1, i4, i5⟩ := HIn.out w5 E5.below
    have cH := Lib.hid (env_holds E5 ((ar.length : Int) + 1) (List.mem_cons_self ..) (by omega) (by omega) (by omega))
    clear E5 cK
    go_wp2_with fail
    with_reducible refine cH.out.mono ?_
    rintro e w6 ⟨rfl, E6⟩
    clear i0 i1 i4 i5 d3 cH
    obtain ⟨W7, hW7⟩ : ∃ W, W = w6.alloc (.cells #[.slice none 0 0] 22) := ⟨_, rfl⟩
    obtain ⟨bg, hbg⟩ : ∃ b, b = w6.heap.size := ⟨_, rfl⟩
    obtain ⟨τ7, E7⟩ : ∃ τ, Env v0 τ W7 [⟨1, sb, ar ++ [0], A, [], 1 + A.length⟩] [(aA, cA, A)] [(bg, .cells #[.slice none 0 0] 22), (bs, .cells #[.pointer (some ⟨sb, 0, none⟩)] 25)] := ⟨_, by rw [hW7, hbg]; exact E6.box _⟩
    obtain ⟨W8, hW8⟩ : ∃ W, W = W7.alloc (.cells #[.bool true] 4) := ⟨_, rfl⟩
    obtain ⟨bo, hbo⟩ : ∃ b, b = W7.heap.size := ⟨_, rfl⟩
    obtain ⟨τ8, E8⟩ : ∃ τ, Env v0 τ W8 [⟨1, sb, ar ++ [0], A, [], 1 + A.length⟩] [(aA, cA, A)] (goesBoxes bs bg bo sb (.slice none 0 0)) := ⟨_, by rw [hW8, hbo]; exact E7.box _⟩
    obtain ⟨σ, g1, g2, g3, g4, h, hst⟩ := E8.st _ (List.mem_cons_self ..)
    simp only at g1 g2 g3 g4 hst
    have hσl : σ.rows.length ≤ 100000000000 := by rw [g2]; omega
    obtain ⟨i0, i1, i4, i5⟩ := HIn.out W8 E8.below
    have d3 := (E8.cell (k := 2) rfl (j := 0) rfl).1
    simp only [List.getElem_toArray, List.getElem_cons_zero] at d3
    have cE := Lib.hid (each_any hst p hp hσl _ _ (goes_fn (w0 := v0) (bs := bs) (bg := bg) (bo := bo) (bi := w.heap.size) (e0 := ⟨1, sb, ar ++ [0], A, [], 1 + A.length⟩) (L := [(aA, cA, A)]) (stop := q) (p := p) hst rfl hσl (fun W hW => (HIn.out W hW).2.2.2))
      (fun w1 hb => ⟨rfl, hst.below hb, Nat.zero_le _, by omega, none, 0, E8.stay hb, World.ownsRow_nil _ _ _ _, fun g e => by cases e⟩)
      (fun w1 g o hb hg ho => ⟨rfl, hst.kept (E8.adoptNew hb hg ho).2 (.inr fun _ h => h), Nat.zero_le _, by omega, none, 0, (E8.adoptNew hb hg ho).1, World.ownsRow_nil _ _ _ _, fun g e => by cases e⟩))
    have HW7 := Lib.hid hW7
    have HW8 := Lib.hid hW8
    have Hbg := Lib.hid hbg
    have Hbo := Lib.hid hbo
    have HG2 := Lib.hid g2
    have HStE := Lib.hid hst
    clear hW7 hW8 hbg hbo E6 E7 E8 g1 g2 g3 g4 hst
    have hmf : ∀ (fn : Fn) (first cap : Array Value) (w : World), (Instr.makeFunc fn first cap).run Try.prog w = .ok (.func fn first cap) w := fun _ _ _ _ => rfl
    go_upto_region 14 with fail
    rw [← HW7.out, ← Hbg.out, ← HW8.out, show bg + 1 = bo from by rw [Hbg.out, Hbo.out, HW7.out]; simp]
    go_wp2_with fail
    with_reducible refine cE.out.mono ?_
    rintro e w9 hE
    obtain ⟨rfl, τ9, m, X, a9, c9, hm, hmq, E9, hG9⟩ := hE
    clear cE i0 i1 i4 i5 d3
    have hQ1 : (turnsOf σ p).map (·.1) = ofK A (.int .i64 p) := by
      unfold turnsOf
      rw [List.map_map, HG2.out]
      exact List.map_id' _
    have hQl : (turnsOf σ p).length = (ofK A (.int .i64 p)).length := by rw [← hQ1, List.length_map]
    have hQ2 : ((turnsOf σ p).take m).map (·.1) = (ofK A (.int .i64 p)).take m := by rw [List.map_take, hQ1]
    have hQA : (ofK A (.int .i64 p)).length ≤ A.length := idxL_length (fun r => Value.int .i64 p = .int .i64 r.1) A
    obtain ⟨Q, hQ⟩ : ∃ Q, ofK A (.int .i64 p) = Q := ⟨_, rfl⟩
    rw [hQ2, hQ] at hG9
    rw [hQl, hQ] at hm hmq
    rw [hQ] at hQA
    obtain ⟨σ9, g1, g2, g3, g4, h9, hst9⟩ := E9.st _ (List.mem_cons_self ..)
    simp only at g2 hst9
    have cO := of_own hst9 p hp (by rw [g2]; omega)
    rw [g2, hQ] at cO
    have HcO := Lib.hid cO
    obtain ⟨i0, i1, i4, i5⟩ := HIn.out w9 E9.below
    have ds := (E9.cell (k := X.length + 2) (by rw [app_at]; rfl) (j := 0) rfl).1
    simp only [List.getElem_toArray, List.getElem_cons_zero] at ds
    have HE9 := Lib.hid E9
    have HG9 := Lib.hid hG9
    clear E9 hG9 g1 g2 g3 g4 hst9 cO hQ1 hQl hQ2 hQ
    go_wp2_with fail
    with_reducible refine HcO.out.mono ?_
    rintro e w10 ⟨v10, rfl, hown10, hb10⟩
    have E10 := HE9.out.stay hb10
    have hG10 := HG9.out.below hb10
    obtain ⟨j0, j1, j4, j5⟩ := HIn.out w10 E10.below
    have dg := (E10.cell (k := X.length + 1) (by rw [app_at]; rfl) (j := 0) rfl).1
    have do_ := (E10.cell (k := X.length + 0) (by rw [app_at]; rfl) (j := 0) rfl).1
    simp only [List.getElem_toArray, List.getElem_cons_zero] at dg do_
    have hfin := hb1.trans (E10.below.mono hb1.size)
    have hml : (Q.take m).length = m := by simp; omega
    obtain ⟨ag, cg, eg, hIg⟩ := intsZ_of_row hG10.1
    simp only [Value.slice.injEq] at eg
    obtain ⟨rfl, hz9, rfl⟩ := eg
    clear hz9
    have HIg := Lib.hid hIg.ints
    obtain ⟨av, cv, ev, hIv⟩ := intsZ_of_row hown10
    have HIv := Lib.hid hIv.ints
    have hcap : Q.length = 0 ∨ Q.length ≤ cv := by
      rcases owns_form hown10 with ⟨e0, h0, _⟩ | ⟨g, cap, e0, _, _, hc, _⟩
      · exact .inl h0
      · rw [ev] at e0
        simp only [Value.slice.injEq] at e0
        obtain ⟨_, _, rfl⟩ := e0
        exact .inr hc
    have hcapA : 0 < Q.length → ∃ b, av = some b := by
      intro hpos
      rcases owns_form hown10 with ⟨e0, h0, _⟩ | ⟨g, cap, e0, _, _, hc, _⟩
      · omega
      · rw [ev] at e0
        simp only [Value.slice.injEq] at e0
        exact ⟨_, e0.1⟩
    subst ev
    have HFin := Lib.hid hfin
    clear HcO HE9 HG9 i0 i1 i4 i5 ds E10 hG10 hown10 hIg hIv hfin
    rcases hmq with ⟨hq0, hq1, hmq⟩ | ⟨hq1, hmq⟩
    · obtain ⟨jq, rfl⟩ := Int.eq_ofNat_of_zero_le hq0
      obtain rfl : m = jq + 1 := by omega
      obtain ⟨bv, rfl⟩ := hcapA (by omega)
      have hd1 : decide ((0 : Int) ≤ (jq : Int)) = true := by simp
      have hd2 : decide ((jq : Int) < (Q.length : Int)) = true := by simpa using hq1
      have hc1 : (0 : Int) ≤ (jq : Int) + 1 := by omega
      have hc2 : (jq : Int) + 1 ≤ (cv : Int) := by omega
      have cE := Lib.hid (equalInts_any a9 (some bv) c9 cv (Q.take (jq + 1)) (Q.take (jq + 1)) w10 HIg.out (HIv.out.cut _) (by rw [hml]; omega))
      rw [hml] at cE
      simp only [decide_true] at cE
      clear hml hcap hcapA hm hmq
      go_wp2_with fail
      with_reducible refine cE.out.mono ?_
      rintro e w11 ⟨rfl, n11, rfl⟩
      go_wp2
      go_ret
      exact ⟨rfl, below_drewN HFin.out _⟩
    · subst hmq
      have cE := Lib.hid (equalInts_any a9 av c9 cv Q Q w10 (by have := HIg.out; rwa [List.take_length] at this) HIv.out (by omega))
      simp only [decide_true] at cE
      clear hml hcap hcapA
      rcases hq1 with hq1 | hq1
      · have hd1 : decide ((0 : Int) ≤ q) = false := by simp; omega
        go_wp2_with fail
        with_reducible refine cE.out.mono ?_
        rintro e w11 ⟨rfl, n11, rfl⟩
        go_wp2
        go_ret
        exact ⟨rfl, below_drewN HFin.out _⟩
      · have hd1 : decide ((0 : Int) ≤ q) = true := by simp; omega
        have hd2 : decide (q < (Q.length : Int)) = false := by simp; omega
        go_wp2_with fail
        with_reducible refine cE.out.mono ?_
        rintro e w11 ⟨rfl, n11, rfl⟩
        go_wp2
        go_ret
        exact ⟨rfl, below_drewN HFin.out _⟩
  · have hff : fitsL ar = false := by simpa using hf
    clear hf
    go_enter Try.func11, Try.ntmps11
    go_wp2_with fail
    rw [← HW0.out]
    with_reducible refine cNo.out.mono ?_
    rintro e v0 ⟨rfl, hbv⟩
    have cF := Lib.hid (fits_any a0 c0 ar v0 (H0.out.below hbv (Nat.le_refl _)).ints l0)
    rw [hff] at cF
    obtain ⟨i0, i1, i4, i5⟩ := HIn0.out v0 hbv
    go_wp2_with fail
    with_reducible refine cF.out.mono ?_
    rintro e v1 ⟨rfl, rfl⟩
    go_wp2
    go_ret
    exact ⟨rfl, hb0.trans (hbv.mono hb0.size)⟩
end Go.Proofs.Ytgodidoibcomcaa
