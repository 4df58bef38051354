/-
  What the function does that Try defers, where nothing panicked: the low goes, and, where f answered false, what came since.
-/
import Derived.Test.YtgodidoibcomcaaSLow
import Derived.Defers
import Derived.Recover
import Derived.Laws.Pointers
namespace Go.Proofs.Ytgodidoibcomcaa
open Go.RowKit

set_option linter.unusedSimpArgs false in
set_option maxHeartbeats 4000000 in
set_option maxRecDepth 8000 in
theorem trydef_any {w0 : World} {τ : Own} {w : World} {S : List Ent} {L : List RSl} {C : List Box} {s sb : Nat} {ar : List Int} {rows : List Row} {ls : List (Nat × Int)} {n b2 b4 b5 b6 k : Nat} {i2 i4 i6 : Nat} (say : Bool)
    (E : Env w0 τ w (⟨s, sb, ar, rows, ls ++ [(b5, (k : Int))], n⟩ :: S) L C) (h0 : s ≠ boxS) (hne : ∀ z ∈ S, z.s ≠ s) (hk : k ≤ rows.length) (hB : n ≤ 100000000000)
    (k2 : C[i2]? = some (b2, .cells #[.pointer (some ⟨sb, 0, none⟩)] 25 (0, 0))) (k4 : C[i4]? = some (b4, .cells #[.bool say] 4 (0, 0))) (k6 : C[i6]? = some (b6, .cells #[.int .i64 (ls.length : Int)] 3 (0, 0))) :
    CallsD Try.prog 48 #[.pointer (some ⟨b4, 0, none⟩), .pointer (some ⟨b2, 0, none⟩), .pointer (some ⟨b6, 0, none⟩), .pointer (some ⟨b5, 0, none⟩)] .returning w fun e u' w' =>
      u' = .returning ∧ e = .returned (.tuple #[]) ∧ ∃ τ', Env w0 τ' w' (⟨s, sb, ar, if say then rows else rows.take k, if say then ls else lowMix k ls.length ls, n⟩ :: S) L C := by
  obtain ⟨c2, f2⟩ := E.cell k2 (j := 0) rfl
  obtain ⟨c4, f4⟩ := E.cell k4 (j := 0) rfl
  obtain ⟨c6, f6⟩ := E.cell k6 (j := 0) rfl
  simp only [List.getElem_toArray, List.getElem_cons_zero] at c2 c4 c6
  obtain ⟨σ, h1, h2, h3, h4, h, hs⟩ := E.st _ (List.mem_cons_self ..)
  simp only at h1 h2 h3 h4 hs
  obtain ⟨g, cap, hv, hcap, tb, cb, hcut⟩ := hs.cutLow h3
  have c7 := hs.head.cells.2.2.2.2.2.2.2
  have fz := hs.head.frozen 7
  rw [hv] at c7
  have hb5 : ¬ sb = b5 := other_block hs.mine tb (by intro h; cases h)
  have ns2 : ¬ sb = b2 := fun e => by
    have h1 := (E.boxes _ (List.mem_of_getElem? k2)).1
    simp only at h1
    rw [← e, hs.mine] at h1
    simp at h1
  have ns6 : ¬ sb = b6 := fun e => by
    have h1 := (E.boxes _ (List.mem_of_getElem? k6)).1
    simp only at h1
    rw [← e, hs.mine] at h1
    simp at h1
  obtain ⟨hs2, T2⟩ := hcut w.drew (Below.refl _ _).drew
  have HE2 := Lib.hid (E.turn T2 h0 (y := ⟨s, sb, ar, rows, ls, n⟩) ⟨σ.withLows ls, h1, h2, rfl, h4, _, hs2⟩ hne)
  have cb5 : ((w.drew).setCell ⟨sb, 7, none⟩ (.slice (some ⟨g, 0, none⟩) ls.length cap)).heap[b5]? = some (.cells #[.int .i64 (k : Int)] 3 (0, 0)) := (Below.heap_setCell w.drew _ _ b5 (fun e => hb5 e.symm)).trans cb
  have hi0 : (0 : Int) ≤ (ls.length : Int) := by omega
  have hi1 : (ls.length : Int) ≤ (cap : Int) := by omega
  clear hcut hs2 T2 hs h1 h2 h3 h4
  refine callsD_of_wpS Try.func48 rfl fun c₀ cs hu => ?_
  simp only [Try.ntmps48, List.size_toArray, List.length_cons, List.length_nil, Nat.reduceAdd, Nat.reduceSub, Array.replicate_succ,
     Array.replicate_zero, List.push_toArray, List.append_toArray, List.nil_append, List.cons_append]
  apply wpS_seq
  apply wpS_seq
  apply wpS_region
  simp [wpOpsS, go_sem, recoverD, hu, Exit.thenS]
  refine wpS_cond (t := false) (by simp [Act.eval, Array.replicate]) ?_
  simp only [Bool.false_eq_true, if_false]
  refine wpS_of_wp (wp_skip ?_)
  simp only [Exit.thenS]
  refine wpS_of_wp ?_
  go_upto_region 2 with fail
  refine wp_region_noPanic ?_
  refine wp_region_held_drew (S := (fun w' => w'.cell? ⟨b2, 0, none⟩ = some (.pointer (some ⟨sb, 0, none⟩)) ∧ w'.cell? ⟨b6, 0, none⟩ = some (.int .i64 (ls.length : Int)))) (by kernel_rfl) ?_ (fun hHeld => ?_)
  · first | assumption | exact ⟨c2, c6⟩ | go_keep
  refine wpAnyH_take (i := 0) (oi := _) (v := (.pointer (some ⟨sb, 0, none⟩))) rfl (by kernel_rfl) (by kernel_rfl) (by kernel_rfl) (fun _ _ _ h => h) (Or.inl ⟨by rfl, ?_⟩) (by assumption) ?_
  · intro w hSw
    (try dsimp only at hSw)
    go_simp
  (try simp only [Act.put, List.setIfInBounds_toArray, List.set_cons_zero, List.set_cons_succ])
  refine wpAnyH_take (i := 1) (oi := _) (v := (.pointer (some ⟨sb, 0, none⟩))) rfl (by kernel_rfl) (by kernel_rfl) (by kernel_rfl) (fun _ _ _ h => h) (Or.inl ⟨by rfl, ?_⟩) (by assumption) ?_
  · intro w hSw
    (try dsimp only at hSw)
    go_simp
  (try simp only [Act.put, List.setIfInBounds_toArray, List.set_cons_zero, List.set_cons_succ])
  refine wpAnyH_take (i := 2) (oi := _) (v := (.pointer (some ⟨sb, 0, none⟩))) rfl (by kernel_rfl) (by kernel_rfl) (by kernel_rfl) (fun _ _ _ h => h) (Or.inl ⟨by rfl, ?_⟩) (by assumption) ?_
  · intro w hSw
    (try dsimp only at hSw)
    go_simp
  (try simp only [Act.put, List.setIfInBounds_toArray, List.set_cons_zero, List.set_cons_succ])
  refine wpAnyH_take (i := 3) (oi := _) (v := (.pointer (some ⟨sb, 7, none⟩))) rfl (by kernel_rfl) (by kernel_rfl) (by kernel_rfl) (fun _ _ _ h => h) (Or.inl ⟨by rfl, ?_⟩) (by assumption) ?_
  · intro w hSw
    (try dsimp only at hSw)
    go_simp
  (try simp only [Act.put, List.setIfInBounds_toArray, List.set_cons_zero, List.set_cons_succ])
  refine wpAnyH_take (i := 5) (oi := _) (v := (.int .i64 (ls.length : Int))) rfl (by kernel_rfl) (by kernel_rfl) (by kernel_rfl) (fun _ _ _ h => h) (Or.inl ⟨by rfl, ?_⟩) (by assumption) ?_
  · intro w hSw
    (try dsimp only at hSw)
    go_simp
  (try simp only [Act.put, List.setIfInBounds_toArray, List.set_cons_zero, List.set_cons_succ])
  refine wpAnyH_ready (rs := [4]) (by kernel_rfl) (by simp) ?_
  refine AllReadyH.cons (o := _) rfl (fun K hK => ?_) ?_
  · go_simp
    refine hK.out _ _ ?_ (fun hHeld => ?_)
    · first | assumption | exact hHeld | go_keep
    clear hK K
    (try simp only [Act.put, List.setIfInBounds_toArray, List.set_cons_zero, List.set_cons_succ])
    refine wpAnyH_ready (rs := [6]) (by kernel_rfl) (by simp) ?_
    refine AllReadyH.cons (o := _) rfl (fun K hK => ?_) ?_
    · go_simp
      refine hK.out _ _ ?_ (fun hHeld => ?_)
      · first | assumption | exact hHeld | go_keep
      clear hK K
      (try simp only [Act.put, List.setIfInBounds_toArray, List.set_cons_zero, List.set_cons_succ])
      refine wpAnyH_take (i := 7) (oi := _) (v := (.pointer (some ⟨sb, 0, none⟩))) rfl (by kernel_rfl) (by kernel_rfl) (by kernel_rfl) (fun _ _ _ h => h) (Or.inl ⟨by rfl, ?_⟩) (by assumption) ?_
      · intro w hSw
        (try dsimp only at hSw)
        go_simp
      (try simp only [Act.put, List.setIfInBounds_toArray, List.set_cons_zero, List.set_cons_succ])
      refine wpAnyH_take (i := 8) (oi := _) (v := (.pointer (some ⟨sb, 7, none⟩))) rfl (by kernel_rfl) (by kernel_rfl) (by kernel_rfl) (fun _ _ _ h => h) (Or.inl ⟨by rfl, ?_⟩) (by assumption) ?_
      · intro w hSw
        (try dsimp only at hSw)
        go_simp
      (try simp only [Act.put, List.setIfInBounds_toArray, List.set_cons_zero, List.set_cons_succ])
      refine wpAnyH_ready (rs := [9]) (by kernel_rfl) (by simp) ?_
      refine AllReadyH.cons (o := _) rfl (fun K hK => ?_) ?_
      · go_simp
        refine hK.out _ _ ?_ (fun hHeld => ?_)
        · exact ⟨(World.cell?_setCell_far _ _ _ _ ns2).trans c2, (World.cell?_setCell_far _ _ _ _ ns6).trans c6⟩
        clear hK K
        (try simp only [Act.put, List.setIfInBounds_toArray, List.set_cons_zero, List.set_cons_succ])
        refine wpAnyH_done (by kernel_rfl) ?_ _
        refine NoPanic.normal ?_
        obtain ⟨W, hW⟩ : ∃ W, W = (w.setCell ⟨sb, 7, none⟩ (.slice (some ⟨g, 0, none⟩) ls.length cap)).drew := ⟨_, rfl⟩
        rw [show (w.drew).setCell ⟨sb, 7, none⟩ (.slice (some ⟨g, 0, none⟩) ls.length cap) = (w.setCell ⟨sb, 7, none⟩ (.slice (some ⟨g, 0, none⟩) ls.length cap)).drew from World.setCell_drew _ _] at HE2 cb5
        rw [← hW] at HE2 cb5 ⊢
        obtain ⟨d2, -⟩ := HE2.out.cell k2 (j := 0) rfl
        obtain ⟨d4, -⟩ := HE2.out.cell k4 (j := 0) rfl
        simp only [List.getElem_toArray, List.getElem_cons_zero] at d2 d4
        have d5 : W.cell? ⟨b5, 0, none⟩ = some (.int .i64 (k : Int)) := by simp [World.cell?, cb5]
        cases say
        · have cK := Lib.hid (env_undo HE2.out h0 hne k hk hB rfl)
          clear hW c2 c6 c4 f2 f4 f6 c7 fz tb cb hHeld hv
          go_wp2_with (go_at_call 20; with_reducible refine cK.out.mono ?_; rintro e w5 ⟨rfl, τ5, E5⟩)
          have HE5 := Lib.hid E5
          clear E5
          cases c₀
          simp only at hu
          subst hu
          simp only [bodyPostS]
          exact ⟨trivial, .returning, rfl, .tuple #[], results_none Try.results48 _ _ _, rfl, rfl, _, HE5.out⟩
        · clear hW c2 c6 c4 f2 f4 f6 c7 fz tb cb hHeld hv
          go_wp2_with fail
          cases c₀
          simp only at hu
          subst hu
          simp only [bodyPostS]
          exact ⟨trivial, .returning, rfl, .tuple #[], results_none Try.results48 _ _ _, rfl, rfl, _, HE2.out⟩
      exact AllReadyH.nil
    exact AllReadyH.nil
  exact AllReadyH.nil
end Go.Proofs.Ytgodidoibcomcaa
