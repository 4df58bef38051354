/-
  The walk of the law StoreTry.
-/
import Derived.Test.YtgodidoibcomcaaSTryF
namespace Go.Proofs.Ytgodidoibcomcaa
open Go.RowKit

set_option linter.unusedSimpArgs false in
set_option maxHeartbeats 8000000 in
set_option maxRecDepth 8000 in
theorem try_any (a0 a1 a2 a3 : Option Addr) (c0 c1 c2 c3 : Nat) (ar : List Int) (F G H : List Row) (p q : Int) (say : Bool) (w : World) (h0 : IntsZ (fun _ => True) w a0 c0 ar) (h1 : RowsZ (fun _ => True) w a1 c1 F) (h2 : RowsZ (fun _ => True) w a2 c2 G) (h3 : RowsZ (fun _ => True) w a3 c3 H)
    (r1 : ∀ r ∈ F, RowOk r) (r2 : ∀ r ∈ G, RowOk r) (r3 : ∀ r ∈ H, RowOk r) (l0 : ar.length ≤ 9223372036854775807) (l1 : F.length ≤ 2000000) (l2 : G.length ≤ 2000000) (l3 : H.length ≤ 2000000) :
    Calls Try.prog 7 #[.agg #[.slice a0 ar.length c0, .slice a1 F.length c1, .slice a2 G.length c2, .slice a3 H.length c3, .int .i64 p, .int .i64 q, .bool say]] w fun e w' => e = .returned (.bool true) ∧ Below w.heap.size w w' := by
  obtain ⟨w0, hw0⟩ : ∃ w0, w0 = w.alloc (.cells #[.slice a0 ar.length c0, .slice a1 F.length c1, .slice a2 G.length c2, .slice a3 H.length c3, .int .i64 p, .int .i64 q, .bool say] 41) := ⟨_, rfl⟩
  have hb0 : Below w.heap.size w w0 := by rw [hw0]; exact (Below.refl _ _).alloc (Nat.le_refl _) _
  have hin6 : ∀ W : World, Below w0.heap.size w0 W → W.cell? ⟨w.heap.size, 6, none⟩ = some (.bool say) := fun W hW => by
    have hs : w.heap.size < w0.heap.size := by rw [hw0]; simp
    rw [hW.cell (p := ⟨w.heap.size, 6, none⟩) hs, hw0]
    simp
  have HIn6 := Lib.hid hin6
  clear hin6
  have hin : ∀ W : World, Below w0.heap.size w0 W → W.cell? ⟨w.heap.size, 0, none⟩ = some (.slice a0 ar.length c0) ∧ W.cell? ⟨w.heap.size, 1, none⟩ = some (.slice a1 F.length c1) ∧ W.cell? ⟨w.heap.size, 2, none⟩ = some (.slice a2 G.length c2) ∧ W.cell? ⟨w.heap.size, 3, none⟩ = some (.slice a3 H.length c3) := fun W hW => by
    have hs : w.heap.size < w0.heap.size := by rw [hw0]; simp
    rw [hW.cell (p := ⟨w.heap.size, 0, none⟩) hs, hW.cell (p := ⟨w.heap.size, 1, none⟩) hs, hW.cell (p := ⟨w.heap.size, 2, none⟩) hs, hW.cell (p := ⟨w.heap.size, 3, none⟩) hs, hw0]
    simp
  have HIn := Lib.hid hin
  have H0 := Lib.hid (h0.below hb0 (Nat.le_refl _))
  have H1 := Lib.hid (h1.below hb0 (Nat.le_refl _))
  have H2 := Lib.hid (h2.below hb0 (Nat.le_refl _))
  have H3 := Lib.hid (h3.below hb0 (Nat.le_refl _))
  have HR1 := Lib.hid r1
  have HR2 := Lib.hid r2
  have HR3 := Lib.hid r3
  have cF := Lib.hid (fits_any a0 c0 ar w0 H0.out.ints l0)
  clear hin h0 h1 h2 h3 r1 r2 r3
  by_cases hf : fitsL ar = true
  · have hl := fits_len hf
    have HA := Lib.hid (partsL hf HR1.out row0_fits)
    obtain ⟨A, hA⟩ : ∃ A, joinedL [((ar.length : Int), [])] (F.map (shape ar)) = A := ⟨_, rfl⟩
    rw [hA] at HA
    have HB := Lib.hid (partsL hf HR2.out HA.out.fits)
    have HC := Lib.hid (partsL hf HR3.out HA.out.fits)
    obtain ⟨B, hB⟩ : ∃ B, joinedL A (G.map (shape ar)) = B := ⟨_, rfl⟩
    obtain ⟨C, hC⟩ : ∃ C, joinedL A (H.map (shape ar)) = C := ⟨_, rfl⟩
    rw [hB] at HB
    rw [hC] at HC
    have lA := HA.out.len
    have lB := HB.out.len
    have lC := HC.out.len
    have lA0 := HA.out.le
    have lB0 := HB.out.le
    have lC0 := HC.out.le
    simp only [List.length_cons, List.length_nil, Nat.zero_add] at lA lA0
    have HF := Lib.hid hf
    have cM := Lib.hid (made_any (s := 1) (τ := noOwn) a0 c0 ar w0 (fun _ _ => rfl) H0.out.ints hf)
    have HW0 := Lib.hid hw0
    rw [hf] at cF
    obtain ⟨MF, hMF⟩ : ∃ M, F.map (shape ar) = M := ⟨_, rfl⟩
    obtain ⟨MG, hMG⟩ : ∃ M, G.map (shape ar) = M := ⟨_, rfl⟩
    obtain ⟨MH, hMH⟩ : ∃ M, H.map (shape ar) = M := ⟨_, rfl⟩
    have m1 : MF.length ≤ 2000000 := by rw [← hMF]; simpa using l1
    have m2 : MG.length ≤ 2000000 := by rw [← hMG]; simpa using l2
    have m3 : MH.length ≤ 2000000 := by rw [← hMH]; simpa using l3
    have M8F := Lib.hid (shaped8 hf HR1.out)
    have M8G := Lib.hid (shaped8 hf HR2.out)
    have M8H := Lib.hid (shaped8 hf HR3.out)
    rw [hMF] at hA M8F
    rw [hMG] at hB M8G
    rw [hMH] at hC M8H
    have JA := Lib.hid hA
    have JB := Lib.hid hB
    have JC := Lib.hid hC
    have HMF := Lib.hid hMF
    have HMG := Lib.hid hMG
    have HMH := Lib.hid hMH
    clear hA hB hC hf hw0 hMF hMG hMH
    go_enter Try.func7, Try.ntmps7
    go_wp2_with fail
    rw [← HW0.out]
    refine cF.out.mono ?_
    rintro e w0 ⟨rfl, rfl⟩
    obtain ⟨i0, i1, i2, i3⟩ := HIn.out w0 (Below.refl _ _)
    go_wp2_with fail
    refine cM.out.mono ?_
    rintro e w1 ⟨sb, τ1, rfl, hs1, T1⟩
    obtain ⟨W1, hW1⟩ : ∃ W, W = w1.alloc (.cells #[.pointer (some ⟨sb, 0, none⟩)] 25) := ⟨_, rfl⟩
    obtain ⟨bs, hbs⟩ : ∃ b, b = w1.heap.size := ⟨_, rfl⟩
    obtain ⟨τs, Es⟩ : ∃ τ, Env w0 τ W1 [⟨1, sb, ar ++ [0], [((ar.length : Int), [])], [], 1⟩] [] [(bs, .cells #[.pointer (some ⟨sb, 0, none⟩)] 25)] := ⟨_, by rw [hW1, hbs]; exact (env_made hs1 T1).box _⟩
    obtain ⟨W2, hW2⟩ : ∃ W, W = W1.alloc (.cells #[.int .i64 ((ar.length : Int) + 1)] 3) := ⟨_, rfl⟩
    obtain ⟨bl, hbl⟩ : ∃ b, b = W1.heap.size := ⟨_, rfl⟩
    obtain ⟨τl, El⟩ : ∃ τ, Env w0 τ W2 [⟨1, sb, ar ++ [0], [((ar.length : Int), [])], [], 1⟩] [] [(bl, .cells #[.int .i64 ((ar.length : Int) + 1)] 3), (bs, .cells #[.pointer (some ⟨sb, 0, none⟩)] 25)] := ⟨_, by rw [hW2, hbl]; exact Es.box _⟩
    have HEs := Lib.hid Es
    have HEl := Lib.hid El
    have HXW1 := Lib.hid hW1
    have HXW2 := Lib.hid hW2
    have Hbs := Lib.hid hbs
    have Hbl := Lib.hid hbl
    clear hs1 T1 cM cF i0 i1 i2 i3 Es El hW1 hW2 hbs hbl
    obtain ⟨i0, i1, i2, i3⟩ := HIn.out W1 HEs.out.below
    have d0 := (HEs.out.cell (k := 0) rfl (j := 0) rfl).1
    simp only [List.getElem_toArray, List.getElem_cons_zero] at d0
    go_upto_region 4 with fail
    rw [← HXW1.out, ← Hbs.out]
    go_upto_region 7 with fail
    rw [← HXW2.out, ← Hbl.out]
    clear i0 i1 i2 i3 d0
    go_cut [5] (fun v wx => ∃ b τ' a c, v = .pointer (some ⟨b, 0, none⟩) ∧ Hid (Env w0 τ' wx [⟨1, sb, ar ++ [0], [((ar.length : Int), [])], [], 1⟩] [(a, c, A)] [(b, .cells #[.slice a A.length c] 29), (bl, .cells #[.int .i64 ((ar.length : Int) + 1)] 3), (bs, .cells #[.pointer (some ⟨sb, 0, none⟩)] 25)]))
    case first =>
      obtain ⟨V1, hV1⟩ : ∃ V, V = W2.drew := ⟨_, rfl⟩
      have HV1 : Hid (Env w0 τl V1 [⟨1, sb, ar ++ [0], [((ar.length : Int), [])], [], 1⟩] [] [(bl, .cells #[.int .i64 ((ar.length : Int) + 1)] 3), (bs, .cells #[.pointer (some ⟨sb, 0, none⟩)] 25)]) := Lib.hid (by rw [hV1]; exact HEl.out.stay (Below.refl _ _).drew)
      refine wp_region_noPanic ?_
      refine wp_region_held_drew (S := (fun w' => w'.cell? ⟨w.heap.size, 0, none⟩ = some (.slice a0 ar.length c0) ∧ w'.cell? ⟨w.heap.size, 1, none⟩ = some (.slice a1 F.length c1))) (by kernel_rfl) ?_ (fun hHeld => ?_)
      · rw [← hV1]; exact ⟨(HIn.out _ HV1.out.below).1, (HIn.out _ HV1.out.below).2.1⟩
      rw [← hV1] at hHeld ⊢
      clear hV1
      refine wpAnyH_take (i := 0) (oi := _) (v := ?_) rfl (by kernel_rfl) (by kernel_rfl) (by kernel_rfl) (fun _ _ _ h => h) (Or.inl ⟨by rfl, ?_⟩) (by assumption) ?_
      rotate_left 1
      · intro w hSw
        (try dsimp only at hSw)
        go_simp
        all_goals with_reducible rfl
      (try simp only [Act.put, List.setIfInBounds_toArray, List.set_cons_zero, List.set_cons_succ])
      refine wpAnyH_take (i := 1) (oi := _) (v := ?_) rfl (by kernel_rfl) (by kernel_rfl) (by kernel_rfl) (fun _ _ _ h => h) (Or.inl ⟨by rfl, ?_⟩) (by assumption) ?_
      rotate_left 1
      · intro w hSw
        (try dsimp only at hSw)
        go_simp
        all_goals with_reducible rfl
      (try simp only [Act.put, List.setIfInBounds_toArray, List.set_cons_zero, List.set_cons_succ])
      refine wpAnyH_take (i := 2) (oi := _) (v := ?_) rfl (by kernel_rfl) (by kernel_rfl) (by kernel_rfl) (fun _ _ _ h => h) (Or.inl ⟨by rfl, ?_⟩) (by assumption) ?_
      rotate_left 1
      · intro w hSw
        (try dsimp only at hSw)
        go_simp
        all_goals with_reducible rfl
      (try simp only [Act.put, List.setIfInBounds_toArray, List.set_cons_zero, List.set_cons_succ])
      refine wpAnyH_take (i := 3) (oi := _) (v := ?_) rfl (by kernel_rfl) (by kernel_rfl) (by kernel_rfl) (fun _ _ _ h => h) (Or.inl ⟨by rfl, ?_⟩) (by assumption) ?_
      rotate_left 1
      · intro w hSw
        (try dsimp only at hSw)
        go_simp
        all_goals with_reducible rfl
      (try simp only [Act.put, List.setIfInBounds_toArray, List.set_cons_zero, List.set_cons_succ])
      refine wpAnyH_take (i := 5) (oi := _) (v := ?_) rfl (by kernel_rfl) (by kernel_rfl) (by kernel_rfl) (fun _ _ _ h => h) (Or.inl ⟨by rfl, ?_⟩) (by assumption) ?_
      rotate_left 1
      · intro w hSw
        (try dsimp only at hSw)
        go_simp
        all_goals with_reducible rfl
      (try simp only [Act.put, List.setIfInBounds_toArray, List.set_cons_zero, List.set_cons_succ])
      refine wpAnyH_take (i := 6) (oi := _) (v := ?_) rfl (by kernel_rfl) (by kernel_rfl) (by kernel_rfl) (fun _ _ _ h => h) (Or.inl ⟨by rfl, ?_⟩) (by assumption) ?_
      rotate_left 1
      · intro w hSw
        (try dsimp only at hSw)
        go_simp
        all_goals with_reducible rfl
      (try simp only [Act.put, List.setIfInBounds_toArray, List.set_cons_zero, List.set_cons_succ])
      refine wpAnyH_take (i := 7) (oi := _) (v := ?_) rfl (by kernel_rfl) (by kernel_rfl) (by kernel_rfl) (fun _ _ _ h => h) (Or.inl ⟨by rfl, ?_⟩) (by assumption) ?_
      rotate_left 1
      · intro w hSw
        (try dsimp only at hSw)
        go_simp
        all_goals with_reducible rfl
      (try simp only [Act.put, List.setIfInBounds_toArray, List.set_cons_zero, List.set_cons_succ])
      refine wpAnyH_take (i := 8) (oi := _) (v := ?_) rfl (by kernel_rfl) (by kernel_rfl) (by kernel_rfl) (fun _ _ _ h => h) (Or.inl ⟨by rfl, ?_⟩) (by assumption) ?_
      rotate_left 1
      · intro w hSw
        (try dsimp only at hSw)
        go_simp
        all_goals with_reducible rfl
      (try simp only [Act.put, List.setIfInBounds_toArray, List.set_cons_zero, List.set_cons_succ])
      refine wpAnyH_ready (rs := [4, 9, 11]) (by kernel_rfl) (by simp) ?_
      refine AllReadyH.cons (o := _) rfl (fun K hK => ?_) ?_
      · go_simp
        obtain ⟨V2, hV2⟩ : ∃ V, V = V1.alloc (.cells #[.int .i64 (ar.length : Int), .slice none 0 0] 28) := ⟨_, rfl⟩
        obtain ⟨g2, hg2⟩ : ∃ b, b = V1.heap.size := ⟨_, rfl⟩
        rw [← hV2, ← hg2]
        have HV2 : Hid (Env w0 τl V2 [⟨1, sb, ar ++ [0], [((ar.length : Int), [])], [], 1⟩] [(some ⟨g2, 0, none⟩, 1, [((ar.length : Int), [])])] [(bl, .cells #[.int .i64 ((ar.length : Int) + 1)] 3), (bs, .cells #[.pointer (some ⟨sb, 0, none⟩)] 25)]) := Lib.hid (by rw [hV2, hg2]; exact HV1.out.put ((Below.refl _ _).alloc (Nat.le_refl _) _) (row0_rows (Z := fun j => V1.heap.size ≤ j) new_row0'.1 new_row0'.2 (Nat.le_refl _)) (fun j hj => .inr hj))
        clear hV2 hg2
        refine hK.out _ _ ?_ (fun hHeld => ?_)
        · exact ⟨(HIn.out _ HV2.out.below).1, (HIn.out _ HV2.out.below).2.1⟩
        clear hK K
        (try simp only [Act.put, List.setIfInBounds_toArray, List.set_cons_zero, List.set_cons_succ])
        refine wpAnyH_ready (rs := [9, 11]) (by kernel_rfl) (by simp) ?_
        refine AllReadyH.cons (o := _) rfl (fun K hK => ?_) ?_
        · have cK := Lib.hid (env_shaped HV2.out H0.out H1.out HF.out HR1.out (by omega) HMF.out)
          go_simp
          with_reducible refine cK.out.mono ?_
          rintro e V3 ⟨am3, cm3, rfl, -, EV3⟩
          have HV3 := Lib.hid EV3
          clear EV3 cK
          refine hK.out _ _ ?_ (fun hHeld => ?_)
          · exact ⟨(HIn.out _ HV3.out.below).1, (HIn.out _ HV3.out.below).2.1⟩
          clear hK K
          (try simp only [Act.put, List.setIfInBounds_toArray, List.set_cons_zero, List.set_cons_succ])
          refine wpAnyH_ready (rs := [10, 11]) (by kernel_rfl) (by simp) ?_
          refine AllReadyH.cons (o := _) rfl (fun K hK => ?_) ?_
          · have cK := Lib.hid (env_joined HV3.out (List.mem_cons_of_mem _ (List.mem_cons_self ..)) (List.mem_cons_self ..) (app8 (fits8 row0_fits) M8F.out) (by simp only [List.length_cons, List.length_nil]; omega) JA.out (nl := 1) (nm := MF.length) rfl rfl)
            go_simp
            with_reducible refine cK.out.mono ?_
            rintro e V4 ⟨aj4, cj4, rfl, -, EV4⟩
            have HV4 := Lib.hid EV4
            clear EV4 cK
            refine hK.out _ _ ?_ (fun hHeld => ?_)
            · exact ⟨(HIn.out _ HV4.out.below).1, (HIn.out _ HV4.out.below).2.1⟩
            clear hK K
            (try simp only [Act.put, List.setIfInBounds_toArray, List.set_cons_zero, List.set_cons_succ])
            refine wpAnyH_ready (rs := [11]) (by kernel_rfl) (by simp) ?_
            refine AllReadyH.cons (o := _) rfl (fun K hK => ?_) ?_
            · go_simp
              obtain ⟨V5, hV5⟩ : ∃ V, V = V4.alloc (.cells #[.slice none 0 0] 29) := ⟨_, rfl⟩
              obtain ⟨b5, hb5⟩ : ∃ b, b = V4.heap.size := ⟨_, rfl⟩
              rw [← hV5, ← hb5]
              obtain ⟨t5, EV5⟩ : ∃ t, Env w0 t V5 [⟨1, sb, ar ++ [0], [((ar.length : Int), [])], [], 1⟩] [(aj4, cj4, A), (am3, cm3, MF), (some ⟨g2, 0, none⟩, 1, [((ar.length : Int), [])])] [(b5, .cells #[.slice none 0 0] 29), (bl, .cells #[.int .i64 ((ar.length : Int) + 1)] 3), (bs, .cells #[.pointer (some ⟨sb, 0, none⟩)] 25)] := ⟨_, by rw [hV5, hb5]; exact HV4.out.box (.cells #[.slice none 0 0] 29)⟩
              have HV5 := Lib.hid EV5
              clear hV5 hb5 EV5
              refine hK.out _ _ ?_ (fun hHeld => ?_)
              · exact ⟨(HIn.out _ HV5.out.below).1, (HIn.out _ HV5.out.below).2.1⟩
              clear hK K
              (try simp only [Act.put, List.setIfInBounds_toArray, List.set_cons_zero, List.set_cons_succ])
              refine wpAnyH_ready (rs := [12]) (by kernel_rfl) (by simp) ?_
              refine AllReadyH.cons (o := _) rfl (fun K hK => ?_) ?_
              · obtain ⟨dq, fq⟩ := HV5.out.cell (k := 0) rfl (j := 0) rfl
                simp only [List.getElem_toArray, List.getElem_cons_zero] at dq
                go_simp
                obtain ⟨V6, hV6⟩ : ∃ V, V = V5.setCell ⟨b5, 0, none⟩ (.slice aj4 A.length cj4) := ⟨_, rfl⟩
                rw [← hV6]
                have HV6 : Hid (Env w0 t5 V6 [⟨1, sb, ar ++ [0], [((ar.length : Int), [])], [], 1⟩] [(aj4, cj4, A), (am3, cm3, MF), (some ⟨g2, 0, none⟩, 1, [((ar.length : Int), [])])] [(b5, .cells #[.slice aj4 A.length cj4] 29), (bl, .cells #[.int .i64 ((ar.length : Int) + 1)] 3), (bs, .cells #[.pointer (some ⟨sb, 0, none⟩)] 25)]) := Lib.hid (by rw [hV6]; exact HV5.out.setBox (fun z hz => by rw [List.mem_singleton] at hz; subst hz; simp [boxS]) (k := 0) (b := b5) (cs := #[.slice none 0 0]) (T := 29) (fr := (0, 0)) rfl 0 _)
                clear hV6 dq fq
                refine hK.out _ _ ?_ (fun hHeld => ?_)
                · exact ⟨(HIn.out _ HV6.out.below).1, (HIn.out _ HV6.out.below).2.1⟩
                clear hK K
                (try simp only [Act.put, List.setIfInBounds_toArray, List.set_cons_zero, List.set_cons_succ])
                refine wpAnyH_done (by kernel_rfl) ?_ _
                refine NoPanic.normal ?_
                go_wp2_with fail
                go_meet
                case rel => exact ⟨b5, t5, aj4, cj4, rfl, Lib.hid (HV6.out.sub (L' := [(aj4, cj4, A)]) (fun x hx => by rw [List.mem_singleton] at hx; subst hx; exact List.mem_cons_self ..))⟩
              exact AllReadyH.nil
            exact AllReadyH.nil
          refine AllReadyH.cons (o := _) rfl (fun K hK => ?_) ?_
          · go_simp
            obtain ⟨V7, hV7⟩ : ∃ V, V = V3.alloc (.cells #[.slice none 0 0] 29) := ⟨_, rfl⟩
            obtain ⟨b7, hb7⟩ : ∃ b, b = V3.heap.size := ⟨_, rfl⟩
            rw [← hV7, ← hb7]
            obtain ⟨t7, EV7⟩ : ∃ t, Env w0 t V7 [⟨1, sb, ar ++ [0], [((ar.length : Int), [])], [], 1⟩] [(am3, cm3, MF), (some ⟨g2, 0, none⟩, 1, [((ar.length : Int), [])])] [(b7, .cells #[.slice none 0 0] 29), (bl, .cells #[.int .i64 ((ar.length : Int) + 1)] 3), (bs, .cells #[.pointer (some ⟨sb, 0, none⟩)] 25)] := ⟨_, by rw [hV7, hb7]; exact HV3.out.box (.cells #[.slice none 0 0] 29)⟩
            have HV7 := Lib.hid EV7
            clear hV7 hb7 EV7
            refine hK.out _ _ ?_ (fun hHeld => ?_)
            · exact ⟨(HIn.out _ HV7.out.below).1, (HIn.out _ HV7.out.below).2.1⟩
            clear hK K
            (try simp only [Act.put, List.setIfInBounds_toArray, List.set_cons_zero, List.set_cons_succ])
            refine wpAnyH_ready (rs := [10]) (by kernel_rfl) (by simp) ?_
            refine AllReadyH.cons (o := _) rfl (fun K hK => ?_) ?_
            · have cK := Lib.hid (env_joined HV7.out (List.mem_cons_of_mem _ (List.mem_cons_self ..)) (List.mem_cons_self ..) (app8 (fits8 row0_fits) M8F.out) (by simp only [List.length_cons, List.length_nil]; omega) JA.out (nl := 1) (nm := MF.length) rfl rfl)
              go_simp
              with_reducible refine cK.out.mono ?_
              rintro e V8 ⟨aj8, cj8, rfl, -, EV8⟩
              have HV8 := Lib.hid EV8
              clear EV8 cK
              refine hK.out _ _ ?_ (fun hHeld => ?_)
              · exact ⟨(HIn.out _ HV8.out.below).1, (HIn.out _ HV8.out.below).2.1⟩
              clear hK K
              (try simp only [Act.put, List.setIfInBounds_toArray, List.set_cons_zero, List.set_cons_succ])
              refine wpAnyH_ready (rs := [12]) (by kernel_rfl) (by simp) ?_
              refine AllReadyH.cons (o := _) rfl (fun K hK => ?_) ?_
              · obtain ⟨dq, fq⟩ := HV8.out.cell (k := 0) rfl (j := 0) rfl
                simp only [List.getElem_toArray, List.getElem_cons_zero] at dq
                go_simp
                obtain ⟨V9, hV9⟩ : ∃ V, V = V8.setCell ⟨b7, 0, none⟩ (.slice aj8 A.length cj8) := ⟨_, rfl⟩
                rw [← hV9]
                have HV9 : Hid (Env w0 t7 V9 [⟨1, sb, ar ++ [0], [((ar.length : Int), [])], [], 1⟩] [(aj8, cj8, A), (am3, cm3, MF), (some ⟨g2, 0, none⟩, 1, [((ar.length : Int), [])])] [(b7, .cells #[.slice aj8 A.length cj8] 29), (bl, .cells #[.int .i64 ((ar.length : Int) + 1)] 3), (bs, .cells #[.pointer (some ⟨sb, 0, none⟩)] 25)]) := Lib.hid (by rw [hV9]; exact HV8.out.setBox (fun z hz => by rw [List.mem_singleton] at hz; subst hz; simp [boxS]) (k := 0) (b := b7) (cs := #[.slice none 0 0]) (T := 29) (fr := (0, 0)) rfl 0 _)
                clear hV9 dq fq
                refine hK.out _ _ ?_ (fun hHeld => ?_)
                · exact ⟨(HIn.out _ HV9.out.below).1, (HIn.out _ HV9.out.below).2.1⟩
                clear hK K
                (try simp only [Act.put, List.setIfInBounds_toArray, List.set_cons_zero, List.set_cons_succ])
                refine wpAnyH_done (by kernel_rfl) ?_ _
                refine NoPanic.normal ?_
                go_wp2_with fail
                go_meet
                case rel => exact ⟨b7, t7, aj8, cj8, rfl, Lib.hid (HV9.out.sub (L' := [(aj8, cj8, A)]) (fun x hx => by rw [List.mem_singleton] at hx; subst hx; exact List.mem_cons_self ..))⟩
              exact AllReadyH.nil
            exact AllReadyH.nil
          exact AllReadyH.nil
        refine AllReadyH.cons (o := _) rfl (fun K hK => ?_) ?_
        · go_simp
          obtain ⟨V10, hV10⟩ : ∃ V, V = V2.alloc (.cells #[.slice none 0 0] 29) := ⟨_, rfl⟩
          obtain ⟨b10, hb10⟩ : ∃ b, b = V2.heap.size := ⟨_, rfl⟩
          rw [← hV10, ← hb10]
          obtain ⟨t10, EV10⟩ : ∃ t, Env w0 t V10 [⟨1, sb, ar ++ [0], [((ar.length : Int), [])], [], 1⟩] [(some ⟨g2, 0, none⟩, 1, [((ar.length : Int), [])])] [(b10, .cells #[.slice none 0 0] 29), (bl, .cells #[.int .i64 ((ar.length : Int) + 1)] 3), (bs, .cells #[.pointer (some ⟨sb, 0, none⟩)] 25)] := ⟨_, by rw [hV10, hb10]; exact HV2.out.box (.cells #[.slice none 0 0] 29)⟩
          have HV10 := Lib.hid EV10
          clear hV10 hb10 EV10
          refine hK.out _ _ ?_ (fun hHeld => ?_)
          · exact ⟨(HIn.out _ HV10.out.below).1, (HIn.out _ HV10.out.below).2.1⟩
          clear hK K
          (try simp only [Act.put, List.setIfInBounds_toArray, List.set_cons_zero, List.set_cons_succ])
          refine wpAnyH_ready (rs := [9]) (by kernel_rfl) (by simp) ?_
          refine AllReadyH.cons (o := _) rfl (fun K hK => ?_) ?_
          · have cK := Lib.hid (env_shaped HV10.out H0.out H1.out HF.out HR1.out (by omega) HMF.out)
            go_simp
            with_reducible refine cK.out.mono ?_
            rintro e V11 ⟨am11, cm11, rfl, -, EV11⟩
            have HV11 := Lib.hid EV11
            clear EV11 cK
            refine hK.out _ _ ?_ (fun hHeld => ?_)
            · exact ⟨(HIn.out _ HV11.out.below).1, (HIn.out _ HV11.out.below).2.1⟩
            clear hK K
            (try simp only [Act.put, List.setIfInBounds_toArray, List.set_cons_zero, List.set_cons_succ])
            refine wpAnyH_ready (rs := [10]) (by kernel_rfl) (by simp) ?_
            refine AllReadyH.cons (o := _) rfl (fun K hK => ?_) ?_
            · have cK := Lib.hid (env_joined HV11.out (List.mem_cons_of_mem _ (List.mem_cons_self ..)) (List.mem_cons_self ..) (app8 (fits8 row0_fits) M8F.out) (by simp only [List.length_cons, List.length_nil]; omega) JA.out (nl := 1) (nm := MF.length) rfl rfl)
              go_simp
              with_reducible refine cK.out.mono ?_
              rintro e V12 ⟨aj12, cj12, rfl, -, EV12⟩
              have HV12 := Lib.hid EV12
              clear EV12 cK
              refine hK.out _ _ ?_ (fun hHeld => ?_)
              · exact ⟨(HIn.out _ HV12.out.below).1, (HIn.out _ HV12.out.below).2.1⟩
              clear hK K
              (try simp only [Act.put, List.setIfInBounds_toArray, List.set_cons_zero, List.set_cons_succ])
              refine wpAnyH_ready (rs := [12]) (by kernel_rfl) (by simp) ?_
              refine AllReadyH.cons (o := _) rfl (fun K hK => ?_) ?_
              · obtain ⟨dq, fq⟩ := HV12.out.cell (k := 0) rfl (j := 0) rfl
                simp only [List.getElem_toArray, List.getElem_cons_zero] at dq
                go_simp
                obtain ⟨V13, hV13⟩ : ∃ V, V = V12.setCell ⟨b10, 0, none⟩ (.slice aj12 A.length cj12) := ⟨_, rfl⟩
                rw [← hV13]
                have HV13 : Hid (Env w0 t10 V13 [⟨1, sb, ar ++ [0], [((ar.length : Int), [])], [], 1⟩] [(aj12, cj12, A), (am11, cm11, MF), (some ⟨g2, 0, none⟩, 1, [((ar.length : Int), [])])] [(b10, .cells #[.slice aj12 A.length cj12] 29), (bl, .cells #[.int .i64 ((ar.length : Int) + 1)] 3), (bs, .cells #[.pointer (some ⟨sb, 0, none⟩)] 25)]) := Lib.hid (by rw [hV13]; exact HV12.out.setBox (fun z hz => by rw [List.mem_singleton] at hz; subst hz; simp [boxS]) (k := 0) (b := b10) (cs := #[.slice none 0 0]) (T := 29) (fr := (0, 0)) rfl 0 _)
                clear hV13 dq fq
                refine hK.out _ _ ?_ (fun hHeld => ?_)
                · exact ⟨(HIn.out _ HV13.out.below).1, (HIn.out _ HV13.out.below).2.1⟩
                clear hK K
                (try simp only [Act.put, List.setIfInBounds_toArray, List.set_cons_zero, List.set_cons_succ])
                refine wpAnyH_done (by kernel_rfl) ?_ _
                refine NoPanic.normal ?_
                go_wp2_with fail
                go_meet
                case rel => exact ⟨b10, t10, aj12, cj12, rfl, Lib.hid (HV13.out.sub (L' := [(aj12, cj12, A)]) (fun x hx => by rw [List.mem_singleton] at hx; subst hx; exact List.mem_cons_self ..))⟩
              exact AllReadyH.nil
            exact AllReadyH.nil
          exact AllReadyH.nil
        exact AllReadyH.nil
      refine AllReadyH.cons (o := _) rfl (fun K hK => ?_) ?_
      · have cK := Lib.hid (env_shaped HV1.out H0.out H1.out HF.out HR1.out (by omega) HMF.out)
        go_simp
        with_reducible refine cK.out.mono ?_
        rintro e V14 ⟨am14, cm14, rfl, -, EV14⟩
        have HV14 := Lib.hid EV14
        clear EV14 cK
        refine hK.out _ _ ?_ (fun hHeld => ?_)
        · exact ⟨(HIn.out _ HV14.out.below).1, (HIn.out _ HV14.out.below).2.1⟩
        clear hK K
        (try simp only [Act.put, List.setIfInBounds_toArray, List.set_cons_zero, List.set_cons_succ])
        refine wpAnyH_ready (rs := [4, 11]) (by kernel_rfl) (by simp) ?_
        refine AllReadyH.cons (o := _) rfl (fun K hK => ?_) ?_
        · go_simp
          obtain ⟨V15, hV15⟩ : ∃ V, V = V14.alloc (.cells #[.int .i64 (ar.length : Int), .slice none 0 0] 28) := ⟨_, rfl⟩
          obtain ⟨g15, hg15⟩ : ∃ b, b = V14.heap.size := ⟨_, rfl⟩
          rw [← hV15, ← hg15]
          have HV15 : Hid (Env w0 τl V15 [⟨1, sb, ar ++ [0], [((ar.length : Int), [])], [], 1⟩] [(some ⟨g15, 0, none⟩, 1, [((ar.length : Int), [])]), (am14, cm14, MF)] [(bl, .cells #[.int .i64 ((ar.length : Int) + 1)] 3), (bs, .cells #[.pointer (some ⟨sb, 0, none⟩)] 25)]) := Lib.hid (by rw [hV15, hg15]; exact HV14.out.put ((Below.refl _ _).alloc (Nat.le_refl _) _) (row0_rows (Z := fun j => V14.heap.size ≤ j) new_row0'.1 new_row0'.2 (Nat.le_refl _)) (fun j hj => .inr hj))
          clear hV15 hg15
          refine hK.out _ _ ?_ (fun hHeld => ?_)
          · exact ⟨(HIn.out _ HV15.out.below).1, (HIn.out _ HV15.out.below).2.1⟩
          clear hK K
          (try simp only [Act.put, List.setIfInBounds_toArray, List.set_cons_zero, List.set_cons_succ])
          refine wpAnyH_ready (rs := [10, 11]) (by kernel_rfl) (by simp) ?_
          refine AllReadyH.cons (o := _) rfl (fun K hK => ?_) ?_
          · have cK := Lib.hid (env_joined HV15.out (List.mem_cons_self ..) (List.mem_cons_of_mem _ (List.mem_cons_self ..)) (app8 (fits8 row0_fits) M8F.out) (by simp only [List.length_cons, List.length_nil]; omega) JA.out (nl := 1) (nm := MF.length) rfl rfl)
            go_simp
            with_reducible refine cK.out.mono ?_
            rintro e V16 ⟨aj16, cj16, rfl, -, EV16⟩
            have HV16 := Lib.hid EV16
            clear EV16 cK
            refine hK.out _ _ ?_ (fun hHeld => ?_)
            · exact ⟨(HIn.out _ HV16.out.below).1, (HIn.out _ HV16.out.below).2.1⟩
            clear hK K
            (try simp only [Act.put, List.setIfInBounds_toArray, List.set_cons_zero, List.set_cons_succ])
            refine wpAnyH_ready (rs := [11]) (by kernel_rfl) (by simp) ?_
            refine AllReadyH.cons (o := _) rfl (fun K hK => ?_) ?_
            · go_simp
              obtain ⟨V17, hV17⟩ : ∃ V, V = V16.alloc (.cells #[.slice none 0 0] 29) := ⟨_, rfl⟩
              obtain ⟨b17, hb17⟩ : ∃ b, b = V16.heap.size := ⟨_, rfl⟩
              rw [← hV17, ← hb17]
              obtain ⟨t17, EV17⟩ : ∃ t, Env w0 t V17 [⟨1, sb, ar ++ [0], [((ar.length : Int), [])], [], 1⟩] [(aj16, cj16, A), (some ⟨g15, 0, none⟩, 1, [((ar.length : Int), [])]), (am14, cm14, MF)] [(b17, .cells #[.slice none 0 0] 29), (bl, .cells #[.int .i64 ((ar.length : Int) + 1)] 3), (bs, .cells #[.pointer (some ⟨sb, 0, none⟩)] 25)] := ⟨_, by rw [hV17, hb17]; exact HV16.out.box (.cells #[.slice none 0 0] 29)⟩
              have HV17 := Lib.hid EV17
              clear hV17 hb17 EV17
              refine hK.out _ _ ?_ (fun hHeld => ?_)
              · exact ⟨(HIn.out _ HV17.out.below).1, (HIn.out _ HV17.out.below).2.1⟩
              clear hK K
              (try simp only [Act.put, List.setIfInBounds_toArray, List.set_cons_zero, List.set_cons_succ])
              refine wpAnyH_ready (rs := [12]) (by kernel_rfl) (by simp) ?_
              refine AllReadyH.cons (o := _) rfl (fun K hK => ?_) ?_
              · obtain ⟨dq, fq⟩ := HV17.out.cell (k := 0) rfl (j := 0) rfl
                simp only [List.getElem_toArray, List.getElem_cons_zero] at dq
                go_simp
                obtain ⟨V18, hV18⟩ : ∃ V, V = V17.setCell ⟨b17, 0, none⟩ (.slice aj16 A.length cj16) := ⟨_, rfl⟩
                rw [← hV18]
                have HV18 : Hid (Env w0 t17 V18 [⟨1, sb, ar ++ [0], [((ar.length : Int), [])], [], 1⟩] [(aj16, cj16, A), (some ⟨g15, 0, none⟩, 1, [((ar.length : Int), [])]), (am14, cm14, MF)] [(b17, .cells #[.slice aj16 A.length cj16] 29), (bl, .cells #[.int .i64 ((ar.length : Int) + 1)] 3), (bs, .cells #[.pointer (some ⟨sb, 0, none⟩)] 25)]) := Lib.hid (by rw [hV18]; exact HV17.out.setBox (fun z hz => by rw [List.mem_singleton] at hz; subst hz; simp [boxS]) (k := 0) (b := b17) (cs := #[.slice none 0 0]) (T := 29) (fr := (0, 0)) rfl 0 _)
                clear hV18 dq fq
                refine hK.out _ _ ?_ (fun hHeld => ?_)
                · exact ⟨(HIn.out _ HV18.out.below).1, (HIn.out _ HV18.out.below).2.1⟩
                clear hK K
                (try simp only [Act.put, List.setIfInBounds_toArray, List.set_cons_zero, List.set_cons_succ])
                refine wpAnyH_done (by kernel_rfl) ?_ _
                refine NoPanic.normal ?_
                go_wp2_with fail
                go_meet
                case rel => exact ⟨b17, t17, aj16, cj16, rfl, Lib.hid (HV18.out.sub (L' := [(aj16, cj16, A)]) (fun x hx => by rw [List.mem_singleton] at hx; subst hx; exact List.mem_cons_self ..))⟩
              exact AllReadyH.nil
            exact AllReadyH.nil
          refine AllReadyH.cons (o := _) rfl (fun K hK => ?_) ?_
          · go_simp
            obtain ⟨V19, hV19⟩ : ∃ V, V = V15.alloc (.cells #[.slice none 0 0] 29) := ⟨_, rfl⟩
            obtain ⟨b19, hb19⟩ : ∃ b, b = V15.heap.size := ⟨_, rfl⟩
            rw [← hV19, ← hb19]
            obtain ⟨t19, EV19⟩ : ∃ t, Env w0 t V19 [⟨1, sb, ar ++ [0], [((ar.length : Int), [])], [], 1⟩] [(some ⟨g15, 0, none⟩, 1, [((ar.length : Int), [])]), (am14, cm14, MF)] [(b19, .cells #[.slice none 0 0] 29), (bl, .cells #[.int .i64 ((ar.length : Int) + 1)] 3), (bs, .cells #[.pointer (some ⟨sb, 0, none⟩)] 25)] := ⟨_, by rw [hV19, hb19]; exact HV15.out.box (.cells #[.slice none 0 0] 29)⟩
            have HV19 := Lib.hid EV19
            clear hV19 hb19 EV19
            refine hK.out _ _ ?_ (fun hHeld => ?_)
            · exact ⟨(HIn.out _ HV19.out.below).1, (HIn.out _ HV19.out.below).2.1⟩
            clear hK K
            (try simp only [Act.put, List.setIfInBounds_toArray, List.set_cons_zero, List.set_cons_succ])
            refine wpAnyH_ready (rs := [10]) (by kernel_rfl) (by simp) ?_
            refine AllReadyH.cons (o := _) rfl (fun K hK => ?_) ?_
            · have cK := Lib.hid (env_joined HV19.out (List.mem_cons_self ..) (List.mem_cons_of_mem _ (List.mem_cons_self ..)) (app8 (fits8 row0_fits) M8F.out) (by simp only [List.length_cons, List.length_nil]; omega) JA.out (nl := 1) (nm := MF.length) rfl rfl)
              go_simp
              with_reducible refine cK.out.mono ?_
              rintro e V20 ⟨aj20, cj20, rfl, -, EV20⟩
              have HV20 := Lib.hid EV20
              clear EV20 cK
              refine hK.out _ _ ?_ (fun hHeld => ?_)
              · exact ⟨(HIn.out _ HV20.out.below).1, (HIn.out _ HV20.out.below).2.1⟩
              clear hK K
              (try simp only [Act.put, List.setIfInBounds_toArray, List.set_cons_zero, List.set_cons_succ])
              refine wpAnyH_ready (rs := [12]) (by kernel_rfl) (by simp) ?_
              refine AllReadyH.cons (o := _) rfl (fun K hK => ?_) ?_
              · obtain ⟨dq, fq⟩ := HV20.out.cell (k := 0) rfl (j := 0) rfl
                simp only [List.getElem_toArray, List.getElem_cons_zero] at dq
                go_simp
                obtain ⟨V21, hV21⟩ : ∃ V, V = V20.setCell ⟨b19, 0, none⟩ (.slice aj20 A.length cj20) := ⟨_, rfl⟩
                rw [← hV21]
                have HV21 : Hid (Env w0 t19 V21 [⟨1, sb, ar ++ [0], [((ar.length : Int), [])], [], 1⟩] [(aj20, cj20, A), (some ⟨g15, 0, none⟩, 1, [((ar.length : Int), [])]), (am14, cm14, MF)] [(b19, .cells #[.slice aj20 A.length cj20] 29), (bl, .cells #[.int .i64 ((ar.length : Int) + 1)] 3), (bs, .cells #[.pointer (some ⟨sb, 0, none⟩)] 25)]) := Lib.hid (by rw [hV21]; exact HV20.out.setBox (fun z hz => by rw [List.mem_singleton] at hz; subst hz; simp [boxS]) (k := 0) (b := b19) (cs := #[.slice none 0 0]) (T := 29) (fr := (0, 0)) rfl 0 _)
                clear hV21 dq fq
                refine hK.out _ _ ?_ (fun hHeld => ?_)
                · exact ⟨(HIn.out _ HV21.out.below).1, (HIn.out _ HV21.out.below).2.1⟩
                clear hK K
                (try simp only [Act.put, List.setIfInBounds_toArray, List.set_cons_zero, List.set_cons_succ])
                refine wpAnyH_done (by kernel_rfl) ?_ _
                refine NoPanic.normal ?_
                go_wp2_with fail
                go_meet
                case rel => exact ⟨b19, t19, aj20, cj20, rfl, Lib.hid (HV21.out.sub (L' := [(aj20, cj20, A)]) (fun x hx => by rw [List.mem_singleton] at hx; subst hx; exact List.mem_cons_self ..))⟩
              exact AllReadyH.nil
            exact AllReadyH.nil
          exact AllReadyH.nil
        refine AllReadyH.cons (o := _) rfl (fun K hK => ?_) ?_
        · go_simp
          obtain ⟨V22, hV22⟩ : ∃ V, V = V14.alloc (.cells #[.slice none 0 0] 29) := ⟨_, rfl⟩
          obtain ⟨b22, hb22⟩ : ∃ b, b = V14.heap.size := ⟨_, rfl⟩
          rw [← hV22, ← hb22]
          obtain ⟨t22, EV22⟩ : ∃ t, Env w0 t V22 [⟨1, sb, ar ++ [0], [((ar.length : Int), [])], [], 1⟩] [(am14, cm14, MF)] [(b22, .cells #[.slice none 0 0] 29), (bl, .cells #[.int .i64 ((ar.length : Int) + 1)] 3), (bs, .cells #[.pointer (some ⟨sb, 0, none⟩)] 25)] := ⟨_, by rw [hV22, hb22]; exact HV14.out.box (.cells #[.slice none 0 0] 29)⟩
          have HV22 := Lib.hid EV22
          clear hV22 hb22 EV22
          refine hK.out _ _ ?_ (fun hHeld => ?_)
          · exact ⟨(HIn.out _ HV22.out.below).1, (HIn.out _ HV22.out.below).2.1⟩
          clear hK K
          (try simp only [Act.put, List.setIfInBounds_toArray, List.set_cons_zero, List.set_cons_succ])
          refine wpAnyH_ready (rs := [4]) (by kernel_rfl) (by simp) ?_
          refine AllReadyH.cons (o := _) rfl (fun K hK => ?_) ?_
          · go_simp
            obtain ⟨V23, hV23⟩ : ∃ V, V = V22.alloc (.cells #[.int .i64 (ar.length : Int), .slice none 0 0] 28) := ⟨_, rfl⟩
            obtain ⟨g23, hg23⟩ : ∃ b, b = V22.heap.size := ⟨_, rfl⟩
            rw [← hV23, ← hg23]
            have HV23 : Hid (Env w0 t22 V23 [⟨1, sb, ar ++ [0], [((ar.length : Int), [])], [], 1⟩] [(some ⟨g23, 0, none⟩, 1, [((ar.length : Int), [])]), (am14, cm14, MF)] [(b22, .cells #[.slice none 0 0] 29), (bl, .cells #[.int .i64 ((ar.length : Int) + 1)] 3), (bs, .cells #[.pointer (some ⟨sb, 0, none⟩)] 25)]) := Lib.hid (by rw [hV23, hg23]; exact HV22.out.put ((Below.refl _ _).alloc (Nat.le_refl _) _) (row0_rows (Z := fun j => V22.heap.size ≤ j) new_row0'.1 new_row0'.2 (Nat.le_refl _)) (fun j hj => .inr hj))
            clear hV23 hg23
            refine hK.out _ _ ?_ (fun hHeld => ?_)
            · exact ⟨(HIn.out _ HV23.out.below).1, (HIn.out _ HV23.out.below).2.1⟩
            clear hK K
            (try simp only [Act.put, List.setIfInBounds_toArray, List.set_cons_zero, List.set_cons_succ])
            refine wpAnyH_ready (rs := [10]) (by kernel_rfl) (by simp) ?_
            refine AllReadyH.cons (o := _) rfl (fun K hK => ?_) ?_
            · have cK := Lib.hid (env_joined HV23.out (List.mem_cons_self ..) (List.mem_cons_of_mem _ (List.mem_cons_self ..)) (app8 (fits8 row0_fits) M8F.out) (by simp only [List.length_cons, List.length_nil]; omega) JA.out (nl := 1) (nm := MF.length) rfl rfl)
              go_simp
              with_reducible refine cK.out.mono ?_
              rintro e V24 ⟨aj24, cj24, rfl, -, EV24⟩
              have HV24 := Lib.hid EV24
              clear EV24 cK
              refine hK.out _ _ ?_ (fun hHeld => ?_)
              · exact ⟨(HIn.out _ HV24.out.below).1, (HIn.out _ HV24.out.below).2.1⟩
              clear hK K
              (try simp only [Act.put, List.setIfInBounds_toArray, List.set_cons_zero, List.set_cons_succ])
              refine wpAnyH_ready (rs := [12]) (by kernel_rfl) (by simp) ?_
              refine AllReadyH.cons (o := _) rfl (fun K hK => ?_) ?_
              · obtain ⟨dq, fq⟩ := HV24.out.cell (k := 0) rfl (j := 0) rfl
                simp only [List.getElem_toArray, List.getElem_cons_zero] at dq
                go_simp
                obtain ⟨V25, hV25⟩ : ∃ V, V = V24.setCell ⟨b22, 0, none⟩ (.slice aj24 A.length cj24) := ⟨_, rfl⟩
                rw [← hV25]
                have HV25 : Hid (Env w0 t22 V25 [⟨1, sb, ar ++ [0], [((ar.length : Int), [])], [], 1⟩] [(aj24, cj24, A), (some ⟨g23, 0, none⟩, 1, [((ar.length : Int), [])]), (am14, cm14, MF)] [(b22, .cells #[.slice aj24 A.length cj24] 29), (bl, .cells #[.int .i64 ((ar.length : Int) + 1)] 3), (bs, .cells #[.pointer (some ⟨sb, 0, none⟩)] 25)]) := Lib.hid (by rw [hV25]; exact HV24.out.setBox (fun z hz => by rw [List.mem_singleton] at hz; subst hz; simp [boxS]) (k := 0) (b := b22) (cs := #[.slice none 0 0]) (T := 29) (fr := (0, 0)) rfl 0 _)
                clear hV25 dq fq
                refine hK.out _ _ ?_ (fun hHeld => ?_)
                · exact ⟨(HIn.out _ HV25.out.below).1, (HIn.out _ HV25.out.below).2.1⟩
                clear hK K
                (try simp only [Act.put, List.setIfInBounds_toArray, List.set_cons_zero, List.set_cons_succ])
                refine wpAnyH_done (by kernel_rfl) ?_ _
                refine NoPanic.normal ?_
                go_wp2_with fail
                go_meet
                case rel => exact ⟨b22, t22, aj24, cj24, rfl, Lib.hid (HV25.out.sub (L' := [(aj24, cj24, A)]) (fun x hx => by rw [List.mem_singleton] at hx; subst hx; exact List.mem_cons_self ..))⟩
              exact AllReadyH.nil
            exact AllReadyH.nil
          exact AllReadyH.nil
        exact AllReadyH.nil
      refine AllReadyH.cons (o := _) rfl (fun K hK => ?_) ?_
      · go_simp
        obtain ⟨V26, hV26⟩ : ∃ V, V = V1.alloc (.cells #[.slice none 0 0] 29) := ⟨_, rfl⟩
        obtain ⟨b26, hb26⟩ : ∃ b, b = V1.heap.size := ⟨_, rfl⟩
        rw [← hV26, ← hb26]
        obtain ⟨t26, EV26⟩ : ∃ t, Env w0 t V26 [⟨1, sb, ar ++ [0], [((ar.length : Int), [])], [], 1⟩] [] [(b26, .cells #[.slice none 0 0] 29), (bl, .cells #[.int .i64 ((ar.length : Int) + 1)] 3), (bs, .cells #[.pointer (some ⟨sb, 0, none⟩)] 25)] := ⟨_, by rw [hV26, hb26]; exact HV1.out.box (.cells #[.slice none 0 0] 29)⟩
        have HV26 := Lib.hid EV26
        clear hV26 hb26 EV26
        refine hK.out _ _ ?_ (fun hHeld => ?_)
        · exact ⟨(HIn.out _ HV26.out.below).1, (HIn.out _ HV26.out.below).2.1⟩
        clear hK K
        (try simp only [Act.put, List.setIfInBounds_toArray, List.set_cons_zero, List.set_cons_succ])
        refine wpAnyH_ready (rs := [4, 9]) (by kernel_rfl) (by simp) ?_
        refine AllReadyH.cons (o := _) rfl (fun K hK => ?_) ?_
        · go_simp
          obtain ⟨V27, hV27⟩ : ∃ V, V = V26.alloc (.cells #[.int .i64 (ar.length : Int), .slice none 0 0] 28) := ⟨_, rfl⟩
          obtain ⟨g27, hg27⟩ : ∃ b, b = V26.heap.size := ⟨_, rfl⟩
          rw [← hV27, ← hg27]
          have HV27 : Hid (Env w0 t26 V27 [⟨1, sb, ar ++ [0], [((ar.length : Int), [])], [], 1⟩] [(some ⟨g27, 0, none⟩, 1, [((ar.length : Int), [])])] [(b26, .cells #[.slice none 0 0] 29), (bl, .cells #[.int .i64 ((ar.length : Int) + 1)] 3), (bs, .cells #[.pointer (some ⟨sb, 0, none⟩)] 25)]) := Lib.hid (by rw [hV27, hg27]; exact HV26.out.put ((Below.refl _ _).alloc (Nat.le_refl _) _) (row0_rows (Z := fun j => V26.heap.size ≤ j) new_row0'.1 new_row0'.2 (Nat.le_refl _)) (fun j hj => .inr hj))
          clear hV27 hg27
          refine hK.out _ _ ?_ (fun hHeld => ?_)
          · exact ⟨(HIn.out _ HV27.out.below).1, (HIn.out _ HV27.out.below).2.1⟩
          clear hK K
          (try simp only [Act.put, List.setIfInBounds_toArray, List.set_cons_zero, List.set_cons_succ])
          refine wpAnyH_ready (rs := [9]) (by kernel_rfl) (by simp) ?_
          refine AllReadyH.cons (o := _) rfl (fun K hK => ?_) ?_
          · have cK := Lib.hid (env_shaped HV27.out H0.out H1.out HF.out HR1.out (by omega) HMF.out)
            go_simp
            with_reducible refine cK.out.mono ?_
            rintro e V28 ⟨am28, cm28, rfl, -, EV28⟩
            have HV28 := Lib.hid EV28
            clear EV28 cK
            refine hK.out _ _ ?_ (fun hHeld => ?_)
            · exact ⟨(HIn.out _ HV28.out.below).1, (HIn.out _ HV28.out.below).2.1⟩
            clear hK K
            (try simp only [Act.put, List.setIfInBounds_toArray, List.set_cons_zero, List.set_cons_succ])
            refine wpAnyH_ready (rs := [10]) (by kernel_rfl) (by simp) ?_
            refine AllReadyH.cons (o := _) rfl (fun K hK => ?_) ?_
            · have cK := Lib.hid (env_joined HV28.out (List.mem_cons_of_mem _ (List.mem_cons_self ..)) (List.mem_cons_self ..) (app8 (fits8 row0_fits) M8F.out) (by simp only [List.length_cons, List.length_nil]; omega) JA.out (nl := 1) (nm := MF.length) rfl rfl)
              go_simp
              with_reducible refine cK.out.mono ?_
              rintro e V29 ⟨aj29, cj29, rfl, -, EV29⟩
              have HV29 := Lib.hid EV29
              clear EV29 cK
              refine hK.out _ _ ?_ (fun hHeld => ?_)
              · exact ⟨(HIn.out _ HV29.out.below).1, (HIn.out _ HV29.out.below).2.1⟩
              clear hK K
              (try simp only [Act.put, List.setIfInBounds_toArray, List.set_cons_zero, List.set_cons_succ])
              refine wpAnyH_ready (rs := [12]) (by kernel_rfl) (by simp) ?_
              refine AllReadyH.cons (o := _) rfl (fun K hK => ?_) ?_
              · obtain ⟨dq, fq⟩ := HV29.out.cell (k := 0) rfl (j := 0) rfl
                simp only [List.getElem_toArray, List.getElem_cons_zero] at dq
                go_simp
                obtain ⟨V30, hV30⟩ : ∃ V, V = V29.setCell ⟨b26, 0, none⟩ (.slice aj29 A.length cj29) := ⟨_, rfl⟩
                rw [← hV30]
                have HV30 : Hid (Env w0 t26 V30 [⟨1, sb, ar ++ [0], [((ar.length : Int), [])], [], 1⟩] [(aj29, cj29, A), (am28, cm28, MF), (some ⟨g27, 0, none⟩, 1, [((ar.length : Int), [])])] [(b26, .cells #[.slice aj29 A.length cj29] 29), (bl, .cells #[.int .i64 ((ar.length : Int) + 1)] 3), (bs, .cells #[.pointer (some ⟨sb, 0, none⟩)] 25)]) := Lib.hid (by rw [hV30]; exact HV29.out.setBox (fun z hz => by rw [List.mem_singleton] at hz; subst hz; simp [boxS]) (k := 0) (b := b26) (cs := #[.slice none 0 0]) (T := 29) (fr := (0, 0)) rfl 0 _)
                clear hV30 dq fq
                refine hK.out _ _ ?_ (fun hHeld => ?_)
                · exact ⟨(HIn.out _ HV30.out.below).1, (HIn.out _ HV30.out.below).2.1⟩
                clear hK K
                (try simp only [Act.put, List.setIfInBounds_toArray, List.set_cons_zero, List.set_cons_succ])
                refine wpAnyH_done (by kernel_rfl) ?_ _
                refine NoPanic.normal ?_
                go_wp2_with fail
                go_meet
                case rel => exact ⟨b26, t26, aj29, cj29, rfl, Lib.hid (HV30.out.sub (L' := [(aj29, cj29, A)]) (fun x hx => by rw [List.mem_singleton] at hx; subst hx; exact List.mem_cons_self ..))⟩
              exact AllReadyH.nil
            exact AllReadyH.nil
          exact AllReadyH.nil
        refine AllReadyH.cons (o := _) rfl (fun K hK => ?_) ?_
        · have cK := Lib.hid (env_shaped HV26.out H0.out H1.out HF.out HR1.out (by omega) HMF.out)
          go_simp
          with_reducible refine cK.out.mono ?_
          rintro e V31 ⟨am31, cm31, rfl, -, EV31⟩
          have HV31 := Lib.hid EV31
          clear EV31 cK
          refine hK.out _ _ ?_ (fun hHeld => ?_)
          · exact ⟨(HIn.out _ HV31.out.below).1, (HIn.out _ HV31.out.below).2.1⟩
          clear hK K
          (try simp only [Act.put, List.setIfInBounds_toArray, List.set_cons_zero, List.set_cons_succ])
          refine wpAnyH_ready (rs := [4]) (by kernel_rfl) (by simp) ?_
          refine AllReadyH.cons (o := _) rfl (fun K hK => ?_) ?_
          · go_simp
            obtain ⟨V32, hV32⟩ : ∃ V, V = V31.alloc (.cells #[.int .i64 (ar.length : Int), .slice none 0 0] 28) := ⟨_, rfl⟩
            obtain ⟨g32, hg32⟩ : ∃ b, b = V31.heap.size := ⟨_, rfl⟩
            rw [← hV32, ← hg32]
            have HV32 : Hid (Env w0 t26 V32 [⟨1, sb, ar ++ [0], [((ar.length : Int), [])], [], 1⟩] [(some ⟨g32, 0, none⟩, 1, [((ar.length : Int), [])]), (am31, cm31, MF)] [(b26, .cells #[.slice none 0 0] 29), (bl, .cells #[.int .i64 ((ar.length : Int) + 1)] 3), (bs, .cells #[.pointer (some ⟨sb, 0, none⟩)] 25)]) := Lib.hid (by rw [hV32, hg32]; exact HV31.out.put ((Below.refl _ _).alloc (Nat.le_refl _) _) (row0_rows (Z := fun j => V31.heap.size ≤ j) new_row0'.1 new_row0'.2 (Nat.le_refl _)) (fun j hj => .inr hj))
            clear hV32 hg32
            refine hK.out _ _ ?_ (fun hHeld => ?_)
            · exact ⟨(HIn.out _ HV32.out.below).1, (HIn.out _ HV32.out.below).2.1⟩
            clear hK K
            (try simp only [Act.put, List.setIfInBounds_toArray, List.set_cons_zero, List.set_cons_succ])
            refine wpAnyH_ready (rs := [10]) (by kernel_rfl) (by simp) ?_
            refine AllReadyH.cons (o := _) rfl (fun K hK => ?_) ?_
            · have cK := Lib.hid (env_joined HV32.out (List.mem_cons_self ..) (List.mem_cons_of_mem _ (List.mem_cons_self ..)) (app8 (fits8 row0_fits) M8F.out) (by simp only [List.length_cons, List.length_nil]; omega) JA.out (nl := 1) (nm := MF.length) rfl rfl)
              go_simp
              with_reducible refine cK.out.mono ?_
              rintro e V33 ⟨aj33, cj33, rfl, -, EV33⟩
              have HV33 := Lib.hid EV33
              clear EV33 cK
              refine hK.out _ _ ?_ (fun hHeld => ?_)
              · exact ⟨(HIn.out _ HV33.out.below).1, (HIn.out _ HV33.out.below).2.1⟩
              clear hK K
              (try simp only [Act.put, List.setIfInBounds_toArray, List.set_cons_zero, List.set_cons_succ])
              refine wpAnyH_ready (rs := [12]) (by kernel_rfl) (by simp) ?_
              refine AllReadyH.cons (o := _) rfl (fun K hK => ?_) ?_
              · obtain ⟨dq, fq⟩ := HV33.out.cell (k := 0) rfl (j := 0) rfl
                simp only [List.getElem_toArray, List.getElem_cons_zero] at dq
                go_simp
                obtain ⟨V34, hV34⟩ : ∃ V, V = V33.setCell ⟨b26, 0, none⟩ (.slice aj33 A.length cj33) := ⟨_, rfl⟩
                rw [← hV34]
                have HV34 : Hid (Env w0 t26 V34 [⟨1, sb, ar ++ [0], [((ar.length : Int), [])], [], 1⟩] [(aj33, cj33, A), (some ⟨g32, 0, none⟩, 1, [((ar.length : Int), [])]), (am31, cm31, MF)] [(b26, .cells #[.slice aj33 A.length cj33] 29), (bl, .cells #[.int .i64 ((ar.length : Int) + 1)] 3), (bs, .cells #[.pointer (some ⟨sb, 0, none⟩)] 25)]) := Lib.hid (by rw [hV34]; exact HV33.out.setBox (fun z hz => by rw [List.mem_singleton] at hz; subst hz; simp [boxS]) (k := 0) (b := b26) (cs := #[.slice none 0 0]) (T := 29) (fr := (0, 0)) rfl 0 _)
                clear hV34 dq fq
                refine hK.out _ _ ?_ (fun hHeld => ?_)
                · exact ⟨(HIn.out _ HV34.out.below).1, (HIn.out _ HV34.out.below).2.1⟩
                clear hK K
                (try simp only [Act.put, List.setIfInBounds_toArray, List.set_cons_zero, List.set_cons_succ])
                refine wpAnyH_done (by kernel_rfl) ?_ _
                refine NoPanic.normal ?_
                go_wp2_with fail
                go_meet
                case rel => exact ⟨b26, t26, aj33, cj33, rfl, Lib.hid (HV34.out.sub (L' := [(aj33, cj33, A)]) (fun x hx => by rw [List.mem_singleton] at hx; subst hx; exact List.mem_cons_self ..))⟩
              exact AllReadyH.nil
            exact AllReadyH.nil
          exact AllReadyH.nil
        exact AllReadyH.nil
      exact AllReadyH.nil
    case rest =>
    obtain ⟨ba, τa, aA, cA, rfl, HEa⟩ := hcut
    go_upto_region 8 with fail
    go_cut [6] (fun v wx => ∃ b τ' a c, v = .pointer (some ⟨b, 0, none⟩) ∧ Hid (Env w0 τ' wx [⟨1, sb, ar ++ [0], [((ar.length : Int), [])], [], 1⟩] [(a, c, B), (aA, cA, A)] [(b, .cells #[.slice a B.length c] 29), (ba, .cells #[.slice aA A.length cA] 29), (bl, .cells #[.int .i64 ((ar.length : Int) + 1)] 3), (bs, .cells #[.pointer (some ⟨sb, 0, none⟩)] 25)]))
    case first =>
      obtain ⟨V35, hV35⟩ : ∃ V, V = wc.drew := ⟨_, rfl⟩
      have HV35 : Hid (Env w0 τa V35 [⟨1, sb, ar ++ [0], [((ar.length : Int), [])], [], 1⟩] [(aA, cA, A)] [(ba, .cells #[.slice aA A.length cA] 29), (bl, .cells #[.int .i64 ((ar.length : Int) + 1)] 3), (bs, .cells #[.pointer (some ⟨sb, 0, none⟩)] 25)]) := Lib.hid (by rw [hV35]; exact HEa.out.stay (Below.refl _ _).drew)
      refine wp_region_noPanic ?_
      refine wp_region_held_drew (S := (fun w' => w'.cell? ⟨w.heap.size, 0, none⟩ = some (.slice a0 ar.length c0) ∧ w'.cell? ⟨w.heap.size, 2, none⟩ = some (.slice a2 G.length c2) ∧ w'.cell? ⟨ba, 0, none⟩ = some (.slice aA A.length cA))) (by kernel_rfl) ?_ (fun hHeld => ?_)
      · rw [← hV35]; exact ⟨(HIn.out _ HV35.out.below).1, (HIn.out _ HV35.out.below).2.2.1, by have q := (HV35.out.cell (k := 0) rfl (j := 0) rfl).1; simpa only [List.getElem_toArray, List.getElem_cons_zero] using q⟩
      rw [← hV35] at hHeld ⊢
      clear hV35
      refine wpAnyH_take (i := 0) (oi := _) (v := ?_) rfl (by kernel_rfl) (by kernel_rfl) (by kernel_rfl) (fun _ _ _ h => h) (Or.inl ⟨by rfl, ?_⟩) (by assumption) ?_
      rotate_left 1
      · intro w hSw
        (try dsimp only at hSw)
        go_simp
        all_goals with_reducible rfl
      (try simp only [Act.put, List.setIfInBounds_toArray, List.set_cons_zero, List.set_cons_succ])
      refine wpAnyH_take (i := 1) (oi := _) (v := ?_) rfl (by kernel_rfl) (by kernel_rfl) (by kernel_rfl) (fun _ _ _ h => h) (Or.inl ⟨by rfl, ?_⟩) (by assumption) ?_
      rotate_left 1
      · intro w hSw
        (try dsimp only at hSw)
        go_simp
        all_goals with_reducible rfl
      (try simp only [Act.put, List.setIfInBounds_toArray, List.set_cons_zero, List.set_cons_succ])
      refine wpAnyH_take (i := 2) (oi := _) (v := ?_) rfl (by kernel_rfl) (by kernel_rfl) (by kernel_rfl) (fun _ _ _ h => h) (Or.inl ⟨by rfl, ?_⟩) (by assumption) ?_
      rotate_left 1
      · intro w hSw
        (try dsimp only at hSw)
        go_simp
        all_goals with_reducible rfl
      (try simp only [Act.put, List.setIfInBounds_toArray, List.set_cons_zero, List.set_cons_succ])
      refine wpAnyH_take (i := 3) (oi := _) (v := ?_) rfl (by kernel_rfl) (by kernel_rfl) (by kernel_rfl) (fun _ _ _ h => h) (Or.inl ⟨by rfl, ?_⟩) (by assumption) ?_
      rotate_left 1
      · intro w hSw
        (try dsimp only at hSw)
        go_simp
        all_goals with_reducible rfl
      (try simp only [Act.put, List.setIfInBounds_toArray, List.set_cons_zero, List.set_cons_succ])
      refine wpAnyH_take (i := 4) (oi := _) (v := ?_) rfl (by kernel_rfl) (by kernel_rfl) (by kernel_rfl) (fun _ _ _ h => h) (Or.inl ⟨by rfl, ?_⟩) (by assumption) ?_
      rotate_left 1
      · intro w hSw
        (try dsimp only at hSw)
        go_simp
        all_goals with_reducible rfl
      (try simp only [Act.put, List.setIfInBounds_toArray, List.set_cons_zero, List.set_cons_succ])
      refine wpAnyH_ready (rs := [5, 7]) (by kernel_rfl) (by simp) ?_
      refine AllReadyH.cons (o := _) rfl (fun K hK => ?_) ?_
      · have cK := Lib.hid (env_shaped HV35.out H0.out H2.out HF.out HR2.out (by omega) HMG.out)
        go_simp
        with_reducible refine cK.out.mono ?_
        rintro e V36 ⟨am36, cm36, rfl, -, EV36⟩
        have HV36 := Lib.hid EV36
        clear EV36 cK
        refine hK.out _ _ ?_ (fun hHeld => ?_)
        · exact ⟨(HIn.out _ HV36.out.below).1, (HIn.out _ HV36.out.below).2.2.1, by have q := (HV36.out.cell (k := 0) rfl (j := 0) rfl).1; simpa only [List.getElem_toArray, List.getElem_cons_zero] using q⟩
        clear hK K
        (try simp only [Act.put, List.setIfInBounds_toArray, List.set_cons_zero, List.set_cons_succ])
        refine wpAnyH_ready (rs := [6, 7]) (by kernel_rfl) (by simp) ?_
        refine AllReadyH.cons (o := _) rfl (fun K hK => ?_) ?_
        · have cK := Lib.hid (env_joined HV36.out (List.mem_cons_of_mem _ (List.mem_cons_self ..)) (List.mem_cons_self ..) (app8 (fits8 HA.out.fits) M8G.out) (by omega) JB.out (nl := A.length) (nm := MG.length) rfl rfl)
          go_simp
          with_reducible refine cK.out.mono ?_
          rintro e V37 ⟨aj37, cj37, rfl, -, EV37⟩
          have HV37 := Lib.hid EV37
          clear EV37 cK
          refine hK.out _ _ ?_ (fun hHeld => ?_)
          · exact ⟨(HIn.out _ HV37.out.below).1, (HIn.out _ HV37.out.below).2.2.1, by have q := (HV37.out.cell (k := 0) rfl (j := 0) rfl).1; simpa only [List.getElem_toArray, List.getElem_cons_zero] using q⟩
          clear hK K
          (try simp only [Act.put, List.setIfInBounds_toArray, List.set_cons_zero, List.set_cons_succ])
          refine wpAnyH_ready (rs := [7]) (by kernel_rfl) (by simp) ?_
          refine AllReadyH.cons (o := _) rfl (fun K hK => ?_) ?_
          · go_simp
            obtain ⟨V38, hV38⟩ : ∃ V, V = V37.alloc (.cells #[.slice none 0 0] 29) := ⟨_, rfl⟩
            obtain ⟨b38, hb38⟩ : ∃ b, b = V37.heap.size := ⟨_, rfl⟩
            rw [← hV38, ← hb38]
            obtain ⟨t38, EV38⟩ : ∃ t, Env w0 t V38 [⟨1, sb, ar ++ [0], [((ar.length : Int), [])], [], 1⟩] [(aj37, cj37, B), (am36, cm36, MG), (aA, cA, A)] [(b38, .cells #[.slice none 0 0] 29), (ba, .cells #[.slice aA A.length cA] 29), (bl, .cells #[.int .i64 ((ar.length : Int) + 1)] 3), (bs, .cells #[.pointer (some ⟨sb, 0, none⟩)] 25)] := ⟨_, by rw [hV38, hb38]; exact HV37.out.box (.cells #[.slice none 0 0] 29)⟩
            have HV38 := Lib.hid EV38
            clear hV38 hb38 EV38
            refine hK.out _ _ ?_ (fun hHeld => ?_)
            · exact ⟨(HIn.out _ HV38.out.below).1, (HIn.out _ HV38.out.below).2.2.1, by have q := (HV38.out.cell (k := 1) rfl (j := 0) rfl).1; simpa only [List.getElem_toArray, List.getElem_cons_zero] using q⟩
            clear hK K
            (try simp only [Act.put, List.setIfInBounds_toArray, List.set_cons_zero, List.set_cons_succ])
            refine wpAnyH_ready (rs := [8]) (by kernel_rfl) (by simp) ?_
            refine AllReadyH.cons (o := _) rfl (fun K hK => ?_) ?_
            · obtain ⟨dq, fq⟩ := HV38.out.cell (k := 0) rfl (j := 0) rfl
              simp only [List.getElem_toArray, List.getElem_cons_zero] at dq
              go_simp
              obtain ⟨V39, hV39⟩ : ∃ V, V = V38.setCell ⟨b38, 0, none⟩ (.slice aj37 B.length cj37) := ⟨_, rfl⟩
              rw [← hV39]
              have HV39 : Hid (Env w0 t38 V39 [⟨1, sb, ar ++ [0], [((ar.length : Int), [])], [], 1⟩] [(aj37, cj37, B), (am36, cm36, MG), (aA, cA, A)] [(b38, .cells #[.slice aj37 B.length cj37] 29), (ba, .cells #[.slice aA A.length cA] 29), (bl, .cells #[.int .i64 ((ar.length : Int) + 1)] 3), (bs, .cells #[.pointer (some ⟨sb, 0, none⟩)] 25)]) := Lib.hid (by rw [hV39]; exact HV38.out.setBox (fun z hz => by rw [List.mem_singleton] at hz; subst hz; simp [boxS]) (k := 0) (b := b38) (cs := #[.slice none 0 0]) (T := 29) (fr := (0, 0)) rfl 0 _)
              clear hV39 dq fq
              refine hK.out _ _ ?_ (fun hHeld => ?_)
              · exact ⟨(HIn.out _ HV39.out.below).1, (HIn.out _ HV39.out.below).2.2.1, by have q := (HV39.out.cell (k := 1) rfl (j := 0) rfl).1; simpa only [List.getElem_toArray, List.getElem_cons_zero] using q⟩
              clear hK K
              (try simp only [Act.put, List.setIfInBounds_toArray, List.set_cons_zero, List.set_cons_succ])
              refine wpAnyH_done (by kernel_rfl) ?_ _
              refine NoPanic.normal ?_
              go_wp2_with fail
              go_meet
              case rel => exact ⟨b38, t38, aj37, cj37, rfl, Lib.hid (HV39.out.sub (L' := [(aj37, cj37, B), (aA, cA, A)]) (fun x hx => by simp at hx ⊢; rcases hx with h | h <;> simp [h]))⟩
            exact AllReadyH.nil
          exact AllReadyH.nil
        refine AllReadyH.cons (o := _) rfl (fun K hK => ?_) ?_
        · go_simp
          obtain ⟨V40, hV40⟩ : ∃ V, V = V36.alloc (.cells #[.slice none 0 0] 29) := ⟨_, rfl⟩
          obtain ⟨b40, hb40⟩ : ∃ b, b = V36.heap.size := ⟨_, rfl⟩
          rw [← hV40, ← hb40]
          obtain ⟨t40, EV40⟩ : ∃ t, Env w0 t V40 [⟨1, sb, ar ++ [0], [((ar.length : Int), [])], [], 1⟩] [(am36, cm36, MG), (aA, cA, A)] [(b40, .cells #[.slice none 0 0] 29), (ba, .cells #[.slice aA A.length cA] 29), (bl, .cells #[.int .i64 ((ar.length : Int) + 1)] 3), (bs, .cells #[.pointer (some ⟨sb, 0, none⟩)] 25)] := ⟨_, by rw [hV40, hb40]; exact HV36.out.box (.cells #[.slice none 0 0] 29)⟩
          have HV40 := Lib.hid EV40
          clear hV40 hb40 EV40
          refine hK.out _ _ ?_ (fun hHeld => ?_)
          · exact ⟨(HIn.out _ HV40.out.below).1, (HIn.out _ HV40.out.below).2.2.1, by have q := (HV40.out.cell (k := 1) rfl (j := 0) rfl).1; simpa only [List.getElem_toArray, List.getElem_cons_zero] using q⟩
          clear hK K
          (try simp only [Act.put, List.setIfInBounds_toArray, List.set_cons_zero, List.set_cons_succ])
          refine wpAnyH_ready (rs := [6]) (by kernel_rfl) (by simp) ?_
          refine AllReadyH.cons (o := _) rfl (fun K hK => ?_) ?_
          · have cK := Lib.hid (env_joined HV40.out (List.mem_cons_of_mem _ (List.mem_cons_self ..)) (List.mem_cons_self ..) (app8 (fits8 HA.out.fits) M8G.out) (by omega) JB.out (nl := A.length) (nm := MG.length) rfl rfl)
            go_simp
            with_reducible refine cK.out.mono ?_
            rintro e V41 ⟨aj41, cj41, rfl, -, EV41⟩
            have HV41 := Lib.hid EV41
            clear EV41 cK
            refine hK.out _ _ ?_ (fun hHeld => ?_)
            · exact ⟨(HIn.out _ HV41.out.below).1, (HIn.out _ HV41.out.below).2.2.1, by have q := (HV41.out.cell (k := 1) rfl (j := 0) rfl).1; simpa only [List.getElem_toArray, List.getElem_cons_zero] using q⟩
            clear hK K
            (try simp only [Act.put, List.setIfInBounds_toArray, List.set_cons_zero, List.set_cons_succ])
            refine wpAnyH_ready (rs := [8]) (by kernel_rfl) (by simp) ?_
            refine AllReadyH.cons (o := _) rfl (fun K hK => ?_) ?_
            · obtain ⟨dq, fq⟩ := HV41.out.cell (k := 0) rfl (j := 0) rfl
              simp only [List.getElem_toArray, List.getElem_cons_zero] at dq
              go_simp
              obtain ⟨V42, hV42⟩ : ∃ V, V = V41.setCell ⟨b40, 0, none⟩ (.slice aj41 B.length cj41) := ⟨_, rfl⟩
              rw [← hV42]
              have HV42 : Hid (Env w0 t40 V42 [⟨1, sb, ar ++ [0], [((ar.length : Int), [])], [], 1⟩] [(aj41, cj41, B), (am36, cm36, MG), (aA, cA, A)] [(b40, .cells #[.slice aj41 B.length cj41] 29), (ba, .cells #[.slice aA A.length cA] 29), (bl, .cells #[.int .i64 ((ar.length : Int) + 1)] 3), (bs, .cells #[.pointer (some ⟨sb, 0, none⟩)] 25)]) := Lib.hid (by rw [hV42]; exact HV41.out.setBox (fun z hz => by rw [List.mem_singleton] at hz; subst hz; simp [boxS]) (k := 0) (b := b40) (cs := #[.slice none 0 0]) (T := 29) (fr := (0, 0)) rfl 0 _)
              clear hV42 dq fq
              refine hK.out _ _ ?_ (fun hHeld => ?_)
              · exact ⟨(HIn.out _ HV42.out.below).1, (HIn.out _ HV42.out.below).2.2.1, by have q := (HV42.out.cell (k := 1) rfl (j := 0) rfl).1; simpa only [List.getElem_toArray, List.getElem_cons_zero] using q⟩
              clear hK K
              (try simp only [Act.put, List.setIfInBounds_toArray, List.set_cons_zero, List.set_cons_succ])
              refine wpAnyH_done (by kernel_rfl) ?_ _
              refine NoPanic.normal ?_
              go_wp2_with fail
              go_meet
              case rel => exact ⟨b40, t40, aj41, cj41, rfl, Lib.hid (HV42.out.sub (L' := [(aj41, cj41, B), (aA, cA, A)]) (fun x hx => by simp at hx ⊢; rcases hx with h | h <;> simp [h]))⟩
            exact AllReadyH.nil
          exact AllReadyH.nil
        exact AllReadyH.nil
      refine AllReadyH.cons (o := _) rfl (fun K hK => ?_) ?_
      · go_simp
        obtain ⟨V43, hV43⟩ : ∃ V, V = V35.alloc (.cells #[.slice none 0 0] 29) := ⟨_, rfl⟩
        obtain ⟨b43, hb43⟩ : ∃ b, b = V35.heap.size := ⟨_, rfl⟩
        rw [← hV43, ← hb43]
        obtain ⟨t43, EV43⟩ : ∃ t, Env w0 t V43 [⟨1, sb, ar ++ [0], [((ar.length : Int), [])], [], 1⟩] [(aA, cA, A)] [(b43, .cells #[.slice none 0 0] 29), (ba, .cells #[.slice aA A.length cA] 29), (bl, .cells #[.int .i64 ((ar.length : Int) + 1)] 3), (bs, .cells #[.pointer (some ⟨sb, 0, none⟩)] 25)] := ⟨_, by rw [hV43, hb43]; exact HV35.out.box (.cells #[.slice none 0 0] 29)⟩
        have HV43 := Lib.hid EV43
        clear hV43 hb43 EV43
        refine hK.out _ _ ?_ (fun hHeld => ?_)
        · exact ⟨(HIn.out _ HV43.out.below).1, (HIn.out _ HV43.out.below).2.2.1, by have q := (HV43.out.cell (k := 1) rfl (j := 0) rfl).1; simpa only [List.getElem_toArray, List.getElem_cons_zero] using q⟩
        clear hK K
        (try simp only [Act.put, List.setIfInBounds_toArray, List.set_cons_zero, List.set_cons_succ])
        refine wpAnyH_ready (rs := [5]) (by kernel_rfl) (by simp) ?_
        refine AllReadyH.cons (o := _) rfl (fun K hK => ?_) ?_
        · have cK := Lib.hid (env_shaped HV43.out H0.out H2.out HF.out HR2.out (by omega) HMG.out)
          go_simp
          with_reducible refine cK.out.mono ?_
          rintro e V44 ⟨am44, cm44, rfl, -, EV44⟩
          have HV44 := Lib.hid EV44
          clear EV44 cK
          refine hK.out _ _ ?_ (fun hHeld => ?_)
          · exact ⟨(HIn.out _ HV44.out.below).1, (HIn.out _ HV44.out.below).2.2.1, by have q := (HV44.out.cell (k := 1) rfl (j := 0) rfl).1; simpa only [List.getElem_toArray, List.getElem_cons_zero] using q⟩
          clear hK K
          (try simp only [Act.put, List.setIfInBounds_toArray, List.set_cons_zero, List.set_cons_succ])
          refine wpAnyH_ready (rs := [6]) (by kernel_rfl) (by simp) ?_
          refine AllReadyH.cons (o := _) rfl (fun K hK => ?_) ?_
          · have cK := Lib.hid (env_joined HV44.out (List.mem_cons_of_mem _ (List.mem_cons_self ..)) (List.mem_cons_self ..) (app8 (fits8 HA.out.fits) M8G.out) (by omega) JB.out (nl := A.length) (nm := MG.length) rfl rfl)
            go_simp
            with_reducible refine cK.out.mono ?_
            rintro e V45 ⟨aj45, cj45, rfl, -, EV45⟩
            have HV45 := Lib.hid EV45
            clear EV45 cK
            refine hK.out _ _ ?_ (fun hHeld => ?_)
            · exact ⟨(HIn.out _ HV45.out.below).1, (HIn.out _ HV45.out.below).2.2.1, by have q := (HV45.out.cell (k := 1) rfl (j := 0) rfl).1; simpa only [List.getElem_toArray, List.getElem_cons_zero] using q⟩
            clear hK K
            (try simp only [Act.put, List.setIfInBounds_toArray, List.set_cons_zero, List.set_cons_succ])
            refine wpAnyH_ready (rs := [8]) (by kernel_rfl) (by simp) ?_
            refine AllReadyH.cons (o := _) rfl (fun K hK => ?_) ?_
            · obtain ⟨dq, fq⟩ := HV45.out.cell (k := 0) rfl (j := 0) rfl
              simp only [List.getElem_toArray, List.getElem_cons_zero] at dq
              go_simp
              obtain ⟨V46, hV46⟩ : ∃ V, V = V45.setCell ⟨b43, 0, none⟩ (.slice aj45 B.length cj45) := ⟨_, rfl⟩
              rw [← hV46]
              have HV46 : Hid (Env w0 t43 V46 [⟨1, sb, ar ++ [0], [((ar.length : Int), [])], [], 1⟩] [(aj45, cj45, B), (am44, cm44, MG), (aA, cA, A)] [(b43, .cells #[.slice aj45 B.length cj45] 29), (ba, .cells #[.slice aA A.length cA] 29), (bl, .cells #[.int .i64 ((ar.length : Int) + 1)] 3), (bs, .cells #[.pointer (some ⟨sb, 0, none⟩)] 25)]) := Lib.hid (by rw [hV46]; exact HV45.out.setBox (fun z hz => by rw [List.mem_singleton] at hz; subst hz; simp [boxS]) (k := 0) (b := b43) (cs := #[.slice none 0 0]) (T := 29) (fr := (0, 0)) rfl 0 _)
              clear hV46 dq fq
              refine hK.out _ _ ?_ (fun hHeld => ?_)
              · exact ⟨(HIn.out _ HV46.out.below).1, (HIn.out _ HV46.out.below).2.2.1, by have q := (HV46.out.cell (k := 1) rfl (j := 0) rfl).1; simpa only [List.getElem_toArray, List.getElem_cons_zero] using q⟩
              clear hK K
              (try simp only [Act.put, List.setIfInBounds_toArray, List.set_cons_zero, List.set_cons_succ])
              refine wpAnyH_done (by kernel_rfl) ?_ _
              refine NoPanic.normal ?_
              go_wp2_with fail
              go_meet
              case rel => exact ⟨b43, t43, aj45, cj45, rfl, Lib.hid (HV46.out.sub (L' := [(aj45, cj45, B), (aA, cA, A)]) (fun x hx => by simp at hx ⊢; rcases hx with h | h <;> simp [h]))⟩
            exact AllReadyH.nil
          exact AllReadyH.nil
        exact AllReadyH.nil
      exact AllReadyH.nil
    case rest =>
    obtain ⟨bb, τb, aB, cB, rfl, HEb⟩ := hcut
    have hmf : ∀ (fn : Fn) (first cap : Array Value) (w : World), (Instr.makeFunc fn first cap).run Try.prog w = .ok (.func fn first cap) w := fun _ _ _ _ => rfl
    have d3 := (HEb.out.cell (k := 3) rfl (j := 0) rfl).1
    have d5 := (HEb.out.cell (k := 1) rfl (j := 0) rfl).1
    simp only [List.getElem_toArray, List.getElem_cons_zero] at d3 d5
    have cK := Lib.hid (env_add HEb.out (by decide) (fun z hz => by cases hz) (List.mem_cons_of_mem _ (List.mem_cons_self ..)) HA.out.fits (by omega) HA.out.twice)
    go_wp2_with fail
    with_reducible refine cK.out.mono ?_
    rintro e w5 ⟨rfl, τ5, E5⟩
    have HE5 := Lib.hid E5
    clear E5 cK d3 d5
    obtain ⟨W6, hW6⟩ : ∃ W, W = w5.alloc (.cells #[.int .i64 0] 3) := ⟨_, rfl⟩
    obtain ⟨bn, hbn⟩ : ∃ b, b = w5.heap.size := ⟨_, rfl⟩
    obtain ⟨τ6, E6⟩ : ∃ τ, Env w0 τ W6 [⟨1, sb, ar ++ [0], A, [], 1 + A.length⟩] [(aB, cB, B), (aA, cA, A)] (tryBoxes bs bl ba bb bn sb ar aA aB cA cB A B 0) := ⟨_, by rw [hW6, hbn]; exact HE5.out.box _⟩
    have HE6 := Lib.hid E6
    have HW6 := Lib.hid hW6
    have Hbn := Lib.hid hbn
    clear hW6 hbn E6
    have d3 := (HE6.out.cell (k := 4) rfl (j := 0) rfl).1
    simp only [List.getElem_toArray, List.getElem_cons_zero] at d3
    have cT := Lib.hid (env_try HE6.out (by decide) (fun z hz => by cases hz) (Nat.zero_le _) 24 _ (fun w => by kernel_rfl) (tryfn_any (bi := w.heap.size) say HIn6.out HB.out.twice lB0 HB.out.fits (by omega) hl (List.mem_cons_self ..)))
    go_upto_region 13 with fail
    rw [← HW6.out, ← Hbn.out]
    go_wp2_with fail
    with_reducible refine cT.out.mono ?_
    rintro e w9 hT
    obtain ⟨say9, τ9, rows9, ls9, k9, n9, S9, L9, C9, rfl, E9, -, -, -, -, hP⟩ := hT
    obtain ⟨rfl, rfl, rfl, rfl, rfl, rfl, rfl, rfl⟩ := hP
    obtain ⟨i6⟩ : Nonempty (w9.cell? ⟨w.heap.size, 6, none⟩ = some (.bool say9)) := ⟨HIn6.out _ E9.below⟩
    have g1 := (E9.cell (k := 4) rfl (j := 0) rfl).1
    have g2 := (E9.cell (k := 3) rfl (j := 0) rfl).1
    have g3 := (E9.cell (k := 2) rfl (j := 0) rfl).1
    have g4 := (E9.cell (k := 1) rfl (j := 0) rfl).1
    have g5 := (E9.cell (k := 0) rfl (j := 0) rfl).1
    simp only [List.getElem_toArray, List.getElem_cons_zero] at g1 g2 g3 g4 g5
    clear cT HE6 d3
    cases say9
    · simp only [Bool.false_eq_true, if_false, HB.out.take] at E9
      have cK := Lib.hid (env_holds E9 ((ar.length : Int) + 1) (List.mem_cons_of_mem _ (List.mem_cons_self ..)) (by omega) (by omega) (by omega))
      clear E9
      go_wp2_with fail
      with_reducible refine cK.out.mono ?_
      rintro e w10 ⟨rfl, E10⟩
      have HE10 := Lib.hid E10
      clear E10 cK
      go_wp2
      go_ret
      exact ⟨rfl, hb0.trans (HE10.out.below.mono hb0.size)⟩
    · simp only [if_true] at E9
      have cK := Lib.hid (env_holds E9 ((ar.length : Int) + 1) (List.mem_cons_self ..) (by omega) (by omega) (by omega))
      clear E9
      go_wp2_with fail
      with_reducible refine cK.out.mono ?_
      rintro e w10 ⟨rfl, E10⟩
      have HE10 := Lib.hid E10
      clear E10 cK
      go_wp2
      go_ret
      exact ⟨rfl, hb0.trans (HE10.out.below.mono hb0.size)⟩
  · have hff : fitsL ar = false := by simpa using hf
    rw [hff] at cF
    have HW0 := Lib.hid hw0
    clear hf hw0
    go_enter Try.func7, Try.ntmps7
    go_wp2_with fail
    rw [← HW0.out]
    refine cF.out.mono ?_
    rintro e w0 ⟨rfl, rfl⟩
    go_wp2
    go_ret
    exact ⟨rfl, hb0⟩
end Go.Proofs.Ytgodidoibcomcaa
