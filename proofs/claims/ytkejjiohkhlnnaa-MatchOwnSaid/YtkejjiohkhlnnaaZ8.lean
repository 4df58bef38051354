/-
  Match: several of its texts in one.
-/
import Derived.Test.YtkejjiohkhlnnaaZ4
import Derived.Test.YtkejjiohkhlnnaaMBits
namespace Go.Proofs.Ytkejjiohkhlnnaa
open Go.RowKit Go.Lib
namespace Mt
namespace Sq
open Go.Sort (swp PermIn reverseLoop reverseRange)
variable {α : Type} [Inhabited α]

set_option maxHeartbeats 4000000 in
set_option maxRecDepth 100000 in
theorem pow_any (n : Nat) (w : World) (h0 : 1 ≤ n) (h1 : n ≤ 1000000) : Calls Try.prog 112 #[.int .i64 n] w fun e w' => ∃ m : Nat, e = .returned (.int .u64 m) ∧ 1 ≤ m ∧ m ≤ 2 * n ∧ w' = w := by
  have cL := fun w => Lib.hid (len_any (n : Int) w (by omega) (by omega))
  obtain ⟨k1, k2, k3⟩ := bitLen_small n h0 h1
  have hn2 : IntKind.u64.wrap (n : Int) = n := by simp [IntKind.wrap, IntKind.bits, IntKind.signed]; omega
  rw [Int.toNat_natCast] at cL
  generalize Lib.bitLen n = L at *
  go_enter Try.func112, Try.ntmps112
  go_wp2_with (first | (go_at_call 89; (with_reducible refine (cL _).out.mono ?_); rintro e w' ⟨rfl, rfl⟩))
  go_ret
  refine ⟨2 ^ L, ?_, Nat.one_le_two_pow, k3, rfl⟩
  obtain ⟨m, hm⟩ : ∃ m, m = 2 ^ L := ⟨_, rfl⟩
  have e : (m : Int) = (2 : Int) ^ L := by rw [hm]; simp
  rw [← hm] at k3 ⊢
  rw [← e]
  clear e hm cL hn2 k1 k2
  congr 2
  simp [IntKind.wrap, IntKind.bits, IntKind.signed]
  omega
/-- a generator of numbers -/
def RndAt (sc : Nat) (w : World) : Prop := ∃ v : Int, w.heap[sc]? = some (.cells #[.int .u64 v] 171 (0, 0))
theorem rnd_store {sc : Nat} {w : World} {v : Int} (h : w.heap[sc]? = some (.cells #[.int .u64 v] 171 (0, 0))) (z : Int) : Oth sc w (w.setCell ⟨sc, 0, none⟩ (.int .u64 z)).drew ∧ RndAt sc (w.setCell ⟨sc, 0, none⟩ (.int .u64 z)).drew :=
  ⟨(Oth.store w 0 _).trans (.below (Below.refl _ _).drew), ⟨z, heap_setCell (j := 0) h _⟩⟩
set_option maxHeartbeats 4000000 in
set_option maxRecDepth 100000 in
theorem next_any (sc : Nat) (w : World) (h : RndAt sc w) : Calls Try.prog 113 #[.pointer (some ⟨sc, 0, none⟩)] w fun e w' => ∃ r : Int, e = .returned (.int .u64 r) ∧ Oth sc w w' ∧ RndAt sc w' := by
  obtain ⟨v, hv⟩ := h
  have c0 : w.cell? ⟨sc, 0, none⟩ = some (.int .u64 v) := by simp [World.cell?, hv]
  have c1 : w.frozen? ⟨sc, 0, none⟩ = false := by simp [World.frozen?, hv]
  go_enter Try.func113, Try.ntmps113
  have HO := Lib.hid (Oth.refl sc w)
  go_upto_region 1 with fail
  go_cut [] (fun wc => Hid (Oth sc w wc) ∧ Hid (RndAt sc wc))
  case first =>
    refine wp_region_noPanic ?_
    refine wp_region_held_drew (S := (fun _ => True)) (by kernel_rfl) ?_ (fun hHeld => ?_)
    · trivial
    refine wpAnyH_take (i := 0) (oi := ⟨some 3, _, _, _, _, _⟩) (v := ?_) rfl (by kernel_rfl) (by kernel_rfl) (by kernel_rfl) (fun _ _ _ h => h) (Or.inl ⟨by rfl, ?_⟩) (by assumption) ?_
    rotate_left 1
    · intro w hSw
      (try dsimp only at hSw)
      go_simp
      all_goals with_reducible rfl
    (try simp only [Act.put, List.setIfInBounds_toArray, List.set_cons_zero, List.set_cons_succ])
    refine wpAnyH_take (i := 1) (oi := ⟨some 4, _, _, _, _, _⟩) (v := ?_) rfl (by kernel_rfl) (by kernel_rfl) (by kernel_rfl) (fun _ _ _ h => h) (Or.inl ⟨by rfl, ?_⟩) (by assumption) ?_
    rotate_left 1
    · intro w hSw
      (try dsimp only at hSw)
      go_simp
      all_goals with_reducible rfl
    (try simp only [Act.put, List.setIfInBounds_toArray, List.set_cons_zero, List.set_cons_succ])
    refine wpAnyH_take (i := 3) (oi := ⟨some 6, _, _, _, _, _⟩) (v := ?_) rfl (by kernel_rfl) (by kernel_rfl) (by kernel_rfl) (fun _ _ _ h => h) (Or.inl ⟨by rfl, ?_⟩) (by assumption) ?_
    rotate_left 1
    · intro w hSw
      (try dsimp only at hSw)
      go_simp
      all_goals with_reducible rfl
    (try simp only [Act.put, List.setIfInBounds_toArray, List.set_cons_zero, List.set_cons_succ])
    refine wpAnyH_take (i := 4) (oi := ⟨some 7, _, _, _, _, _⟩) (v := ?_) rfl (by kernel_rfl) (by kernel_rfl) (by kernel_rfl) (fun _ _ _ h => h) (Or.inl ⟨by rfl, ?_⟩) (by assumption) ?_
    rotate_left 1
    · intro w hSw
      (try dsimp only at hSw)
      go_simp
      all_goals with_reducible rfl
    (try simp only [Act.put, List.setIfInBounds_toArray, List.set_cons_zero, List.set_cons_succ])
    refine wpAnyH_ready (rs := [2, 5]) (by kernel_rfl) (by simp) ?_
    refine AllReadyH.cons (o := _) rfl (fun K hK => ?_) ?_
    · go_simp
      refine hK.out _ _ ?_ (fun hHeld => ?_)
      · trivial
      clear hK K
      (try simp only [Act.put, List.setIfInBounds_toArray, List.set_cons_zero, List.set_cons_succ])
      refine wpAnyH_ready (rs := [5]) (by kernel_rfl) (by simp) ?_
      refine AllReadyH.cons (o := _) rfl (fun K hK => ?_) ?_
      · go_simp
        refine hK.out _ _ ?_ (fun hHeld => ?_)
        · trivial
        clear hK K
        (try simp only [Act.put, List.setIfInBounds_toArray, List.set_cons_zero, List.set_cons_succ])
        refine wpAnyH_take (i := 6) (oi := ⟨some 9, _, _, _, _, _⟩) (v := ?_) rfl (by kernel_rfl) (by kernel_rfl) (by kernel_rfl) (fun _ _ _ h => h) (Or.inl ⟨by rfl, ?_⟩) (by assumption) ?_
        rotate_left 1
        · intro w hSw
          (try dsimp only at hSw)
          go_simp
          all_goals with_reducible rfl
        (try simp only [Act.put, List.setIfInBounds_toArray, List.set_cons_zero, List.set_cons_succ])
        refine wpAnyH_take (i := 7) (oi := ⟨some 10, _, _, _, _, _⟩) (v := ?_) rfl (by kernel_rfl) (by kernel_rfl) (by kernel_rfl) (fun _ _ _ h => h) (Or.inl ⟨by rfl, ?_⟩) (by assumption) ?_
        rotate_left 1
        · intro w hSw
          (try dsimp only at hSw)
          go_simp
          all_goals with_reducible rfl
        (try simp only [Act.put, List.setIfInBounds_toArray, List.set_cons_zero, List.set_cons_succ])
        refine wpAnyH_take (i := 8) (oi := ⟨some 11, _, _, _, _, _⟩) (v := ?_) rfl (by kernel_rfl) (by kernel_rfl) (by kernel_rfl) (fun _ _ _ h => h) (Or.inl ⟨by rfl, ?_⟩) (by assumption) ?_
        rotate_left 1
        · intro w hSw
          (try dsimp only at hSw)
          go_simp
          all_goals with_reducible rfl
        (try simp only [Act.put, List.setIfInBounds_toArray, List.set_cons_zero, List.set_cons_succ])
        refine wpAnyH_ready (rs := [9]) (by kernel_rfl) (by simp) ?_
        refine AllReadyH.cons (o := _) rfl (fun K hK => ?_) ?_
        · go_simp
          refine hK.out _ _ ?_ (fun hHeld => ?_)
          · trivial
          clear hK K
          (try simp only [Act.put, List.setIfInBounds_toArray, List.set_cons_zero, List.set_cons_succ])
          refine wpAnyH_done (by kernel_rfl) ?_ _
          refine NoPanic.normal ?_
          go_wp2
          go_meet
          case rel => exact ⟨Lib.hid (HO.out.trans (rnd_store hv _).1), Lib.hid (rnd_store hv _).2⟩
        exact AllReadyH.nil
      exact AllReadyH.nil
    refine AllReadyH.cons (o := _) rfl (fun K hK => ?_) ?_
    · go_simp
      refine hK.out _ _ ?_ (fun hHeld => ?_)
      · trivial
      clear hK K
      (try simp only [Act.put, List.setIfInBounds_toArray, List.set_cons_zero, List.set_cons_succ])
      refine wpAnyH_take (i := 6) (oi := ⟨some 9, _, _, _, _, _⟩) (v := ?_) rfl (by kernel_rfl) (by kernel_rfl) (by kernel_rfl) (fun _ _ _ h => h) (Or.inl ⟨by rfl, ?_⟩) (by assumption) ?_
      rotate_left 1
      · intro w hSw
        (try dsimp only at hSw)
        go_simp
        all_goals with_reducible rfl
      (try simp only [Act.put, List.setIfInBounds_toArray, List.set_cons_zero, List.set_cons_succ])
      refine wpAnyH_ready (rs := [2]) (by kernel_rfl) (by simp) ?_
      refine AllReadyH.cons (o := _) rfl (fun K hK => ?_) ?_
      · go_simp
        refine hK.out _ _ ?_ (fun hHeld => ?_)
        · trivial
        clear hK K
        (try simp only [Act.put, List.setIfInBounds_toArray, List.set_cons_zero, List.set_cons_succ])
        refine wpAnyH_take (i := 7) (oi := ⟨some 10, _, _, _, _, _⟩) (v := ?_) rfl (by kernel_rfl) (by kernel_rfl) (by kernel_rfl) (fun _ _ _ h => h) (Or.inl ⟨by rfl, ?_⟩) (by assumption) ?_
        rotate_left 1
        · intro w hSw
          (try dsimp only at hSw)
          go_simp
          all_goals with_reducible rfl
        (try simp only [Act.put, List.setIfInBounds_toArray, List.set_cons_zero, List.set_cons_succ])
        refine wpAnyH_take (i := 8) (oi := ⟨some 11, _, _, _, _, _⟩) (v := ?_) rfl (by kernel_rfl) (by kernel_rfl) (by kernel_rfl) (fun _ _ _ h => h) (Or.inl ⟨by rfl, ?_⟩) (by assumption) ?_
        rotate_left 1
        · intro w hSw
          (try dsimp only at hSw)
          go_simp
          all_goals with_reducible rfl
        (try simp only [Act.put, List.setIfInBounds_toArray, List.set_cons_zero, List.set_cons_succ])
        refine wpAnyH_ready (rs := [9]) (by kernel_rfl) (by simp) ?_
        refine AllReadyH.cons (o := _) rfl (fun K hK => ?_) ?_
        · go_simp
          refine hK.out _ _ ?_ (fun hHeld => ?_)
          · trivial
          clear hK K
          (try simp only [Act.put, List.setIfInBounds_toArray, List.set_cons_zero, List.set_cons_succ])
          refine wpAnyH_done (by kernel_rfl) ?_ _
          refine NoPanic.normal ?_
          go_wp2
          go_meet
          case rel => exact ⟨Lib.hid (HO.out.trans (rnd_store hv _).1), Lib.hid (rnd_store hv _).2⟩
        exact AllReadyH.nil
      exact AllReadyH.nil
    exact AllReadyH.nil
  case rest =>
  obtain ⟨HO, HR⟩ := hcut
  clear hv c0 c1 v
  obtain ⟨v, hv⟩ := HR.out
  have c0 : wc.cell? ⟨sc, 0, none⟩ = some (.int .u64 v) := by simp [World.cell?, hv]
  have c1 : wc.frozen? ⟨sc, 0, none⟩ = false := by simp [World.frozen?, hv]
  clear HR
  go_upto_region 2 with fail
  go_cut [] (fun wc => Hid (Oth sc w wc) ∧ Hid (RndAt sc wc))
  case first =>
    refine wp_region_noPanic ?_
    refine wp_region_held_drew (S := (fun _ => True)) (by kernel_rfl) ?_ (fun hHeld => ?_)
    · trivial
    refine wpAnyH_take (i := 0) (oi := ⟨some 12, _, _, _, _, _⟩) (v := ?_) rfl (by kernel_rfl) (by kernel_rfl) (by kernel_rfl) (fun _ _ _ h => h) (Or.inl ⟨by rfl, ?_⟩) (by assumption) ?_
    rotate_left 1
    · intro w hSw
      (try dsimp only at hSw)
      go_simp
      all_goals with_reducible rfl
    (try simp only [Act.put, List.setIfInBounds_toArray, List.set_cons_zero, List.set_cons_succ])
    refine wpAnyH_take (i := 1) (oi := ⟨some 13, _, _, _, _, _⟩) (v := ?_) rfl (by kernel_rfl) (by kernel_rfl) (by kernel_rfl) (fun _ _ _ h => h) (Or.inl ⟨by rfl, ?_⟩) (by assumption) ?_
    rotate_left 1
    · intro w hSw
      (try dsimp only at hSw)
      go_simp
      all_goals with_reducible rfl
    (try simp only [Act.put, List.setIfInBounds_toArray, List.set_cons_zero, List.set_cons_succ])
    refine wpAnyH_take (i := 3) (oi := ⟨some 15, _, _, _, _, _⟩) (v := ?_) rfl (by kernel_rfl) (by kernel_rfl) (by kernel_rfl) (fun _ _ _ h => h) (Or.inl ⟨by rfl, ?_⟩) (by assumption) ?_
    rotate_left 1
    · intro w hSw
      (try dsimp only at hSw)
      go_simp
      all_goals with_reducible rfl
    (try simp only [Act.put, List.setIfInBounds_toArray, List.set_cons_zero, List.set_cons_succ])
    refine wpAnyH_take (i := 4) (oi := ⟨some 16, _, _, _, _, _⟩) (v := ?_) rfl (by kernel_rfl) (by kernel_rfl) (by kernel_rfl) (fun _ _ _ h => h) (Or.inl ⟨by rfl, ?_⟩) (by assumption) ?_
    rotate_left 1
    · intro w hSw
      (try dsimp only at hSw)
      go_simp
      all_goals with_reducible rfl
    (try simp only [Act.put, List.setIfInBounds_toArray, List.set_cons_zero, List.set_cons_succ])
    refine wpAnyH_ready (rs := [2, 5]) (by kernel_rfl) (by simp) ?_
    refine AllReadyH.cons (o := _) rfl (fun K hK => ?_) ?_
    · go_simp
      refine hK.out _ _ ?_ (fun hHeld => ?_)
      · trivial
      clear hK K
      (try simp only [Act.put, List.setIfInBounds_toArray, List.set_cons_zero, List.set_cons_succ])
      refine wpAnyH_ready (rs := [5]) (by kernel_rfl) (by simp) ?_
      refine AllReadyH.cons (o := _) rfl (fun K hK => ?_) ?_
      · go_simp
        refine hK.out _ _ ?_ (fun hHeld => ?_)
        · trivial
        clear hK K
        (try simp only [Act.put, List.setIfInBounds_toArray, List.set_cons_zero, List.set_cons_succ])
        refine wpAnyH_take (i := 6) (oi := ⟨some 18, _, _, _, _, _⟩) (v := ?_) rfl (by kernel_rfl) (by kernel_rfl) (by kernel_rfl) (fun _ _ _ h => h) (Or.inl ⟨by rfl, ?_⟩) (by assumption) ?_
        rotate_left 1
        · intro w hSw
          (try dsimp only at hSw)
          go_simp
          all_goals with_reducible rfl
        (try simp only [Act.put, List.setIfInBounds_toArray, List.set_cons_zero, List.set_cons_succ])
        refine wpAnyH_take (i := 7) (oi := ⟨some 19, _, _, _, _, _⟩) (v := ?_) rfl (by kernel_rfl) (by kernel_rfl) (by kernel_rfl) (fun _ _ _ h => h) (Or.inl ⟨by rfl, ?_⟩) (by assumption) ?_
        rotate_left 1
        · intro w hSw
          (try dsimp only at hSw)
          go_simp
          all_goals with_reducible rfl
        (try simp only [Act.put, List.setIfInBounds_toArray, List.set_cons_zero, List.set_cons_succ])
        refine wpAnyH_take (i := 8) (oi := ⟨some 20, _, _, _, _, _⟩) (v := ?_) rfl (by kernel_rfl) (by kernel_rfl) (by kernel_rfl) (fun _ _ _ h => h) (Or.inl ⟨by rfl, ?_⟩) (by assumption) ?_
        rotate_left 1
        · intro w hSw
          (try dsimp only at hSw)
          go_simp
          all_goals with_reducible rfl
        (try simp only [Act.put, List.setIfInBounds_toArray, List.set_cons_zero, List.set_cons_succ])
        refine wpAnyH_ready (rs := [9]) (by kernel_rfl) (by simp) ?_
        refine AllReadyH.cons (o := _) rfl (fun K hK => ?_) ?_
        · go_simp
          refine hK.out _ _ ?_ (fun hHeld => ?_)
          · trivial
          clear hK K
          (try simp only [Act.put, List.setIfInBounds_toArray, List.set_cons_zero, List.set_cons_succ])
          refine wpAnyH_done (by kernel_rfl) ?_ _
          refine NoPanic.normal ?_
          go_wp2
          go_meet
          case rel => exact ⟨Lib.hid (HO.out.trans (rnd_store hv _).1), Lib.hid (rnd_store hv _).2⟩
        exact AllReadyH.nil
      exact AllReadyH.nil
    refine AllReadyH.cons (o := _) rfl (fun K hK => ?_) ?_
    · go_simp
      refine hK.out _ _ ?_ (fun hHeld => ?_)
      · trivial
      clear hK K
      (try simp only [Act.put, List.setIfInBounds_toArray, List.set_cons_zero, List.set_cons_succ])
      refine wpAnyH_take (i := 6) (oi := ⟨some 18, _, _, _, _, _⟩) (v := ?_) rfl (by kernel_rfl) (by kernel_rfl) (by kernel_rfl) (fun _ _ _ h => h) (Or.inl ⟨by rfl, ?_⟩) (by assumption) ?_
      rotate_left 1
      · intro w hSw
        (try dsimp only at hSw)
        go_simp
        all_goals with_reducible rfl
      (try simp only [Act.put, List.setIfInBounds_toArray, List.set_cons_zero, List.set_cons_succ])
      refine wpAnyH_ready (rs := [2]) (by kernel_rfl) (by simp) ?_
      refine AllReadyH.cons (o := _) rfl (fun K hK => ?_) ?_
      · go_simp
        refine hK.out _ _ ?_ (fun hHeld => ?_)
        · trivial
        clear hK K
        (try simp only [Act.put, List.setIfInBounds_toArray, List.set_cons_zero, List.set_cons_succ])
        refine wpAnyH_take (i := 7) (oi := ⟨some 19, _, _, _, _, _⟩) (v := ?_) rfl (by kernel_rfl) (by kernel_rfl) (by kernel_rfl) (fun _ _ _ h => h) (Or.inl ⟨by rfl, ?_⟩) (by assumption) ?_
        rotate_left 1
        · intro w hSw
          (try dsimp only at hSw)
          go_simp
          all_goals with_reducible rfl
        (try simp only [Act.put, List.setIfInBounds_toArray, List.set_cons_zero, List.set_cons_succ])
        refine wpAnyH_take (i := 8) (oi := ⟨some 20, _, _, _, _, _⟩) (v := ?_) rfl (by kernel_rfl) (by kernel_rfl) (by kernel_rfl) (fun _ _ _ h => h) (Or.inl ⟨by rfl, ?_⟩) (by assumption) ?_
        rotate_left 1
        · intro w hSw
          (try dsimp only at hSw)
          go_simp
          all_goals with_reducible rfl
        (try simp only [Act.put, List.setIfInBounds_toArray, List.set_cons_zero, List.set_cons_succ])
        refine wpAnyH_ready (rs := [9]) (by kernel_rfl) (by simp) ?_
        refine AllReadyH.cons (o := _) rfl (fun K hK => ?_) ?_
        · go_simp
          refine hK.out _ _ ?_ (fun hHeld => ?_)
          · trivial
          clear hK K
          (try simp only [Act.put, List.setIfInBounds_toArray, List.set_cons_zero, List.set_cons_succ])
          refine wpAnyH_done (by kernel_rfl) ?_ _
          refine NoPanic.normal ?_
          go_wp2
          go_meet
          case rel => exact ⟨Lib.hid (HO.out.trans (rnd_store hv _).1), Lib.hid (rnd_store hv _).2⟩
        exact AllReadyH.nil
      exact AllReadyH.nil
    exact AllReadyH.nil
  case rest =>
  obtain ⟨HO, HR⟩ := hcut
  clear hv c0 c1 v
  obtain ⟨v, hv⟩ := HR.out
  have c0 : wc.cell? ⟨sc, 0, none⟩ = some (.int .u64 v) := by simp [World.cell?, hv]
  have c1 : wc.frozen? ⟨sc, 0, none⟩ = false := by simp [World.frozen?, hv]
  clear HR
  go_upto_region 3 with fail
  go_cut [] (fun wc => Hid (Oth sc w wc) ∧ Hid (RndAt sc wc))
  case first =>
    refine wp_region_noPanic ?_
    refine wp_region_held_drew (S := (fun _ => True)) (by kernel_rfl) ?_ (fun hHeld => ?_)
    · trivial
    refine wpAnyH_take (i := 0) (oi := ⟨some 21, _, _, _, _, _⟩) (v := ?_) rfl (by kernel_rfl) (by kernel_rfl) (by kernel_rfl) (fun _ _ _ h => h) (Or.inl ⟨by rfl, ?_⟩) (by assumption) ?_
    rotate_left 1
    · intro w hSw
      (try dsimp only at hSw)
      go_simp
      all_goals with_reducible rfl
    (try simp only [Act.put, List.setIfInBounds_toArray, List.set_cons_zero, List.set_cons_succ])
    refine wpAnyH_take (i := 1) (oi := ⟨some 22, _, _, _, _, _⟩) (v := ?_) rfl (by kernel_rfl) (by kernel_rfl) (by kernel_rfl) (fun _ _ _ h => h) (Or.inl ⟨by rfl, ?_⟩) (by assumption) ?_
    rotate_left 1
    · intro w hSw
      (try dsimp only at hSw)
      go_simp
      all_goals with_reducible rfl
    (try simp only [Act.put, List.setIfInBounds_toArray, List.set_cons_zero, List.set_cons_succ])
    refine wpAnyH_take (i := 3) (oi := ⟨some 24, _, _, _, _, _⟩) (v := ?_) rfl (by kernel_rfl) (by kernel_rfl) (by kernel_rfl) (fun _ _ _ h => h) (Or.inl ⟨by rfl, ?_⟩) (by assumption) ?_
    rotate_left 1
    · intro w hSw
      (try dsimp only at hSw)
      go_simp
      all_goals with_reducible rfl
    (try simp only [Act.put, List.setIfInBounds_toArray, List.set_cons_zero, List.set_cons_succ])
    refine wpAnyH_take (i := 4) (oi := ⟨some 25, _, _, _, _, _⟩) (v := ?_) rfl (by kernel_rfl) (by kernel_rfl) (by kernel_rfl) (fun _ _ _ h => h) (Or.inl ⟨by rfl, ?_⟩) (by assumption) ?_
    rotate_left 1
    · intro w hSw
      (try dsimp only at hSw)
      go_simp
      all_goals with_reducible rfl
    (try simp only [Act.put, List.setIfInBounds_toArray, List.set_cons_zero, List.set_cons_succ])
    refine wpAnyH_ready (rs := [2, 5]) (by kernel_rfl) (by simp) ?_
    refine AllReadyH.cons (o := _) rfl (fun K hK => ?_) ?_
    · go_simp
      refine hK.out _ _ ?_ (fun hHeld => ?_)
      · trivial
      clear hK K
      (try simp only [Act.put, List.setIfInBounds_toArray, List.set_cons_zero, List.set_cons_succ])
      refine wpAnyH_ready (rs := [5]) (by kernel_rfl) (by simp) ?_
      refine AllReadyH.cons (o := _) rfl (fun K hK => ?_) ?_
      · go_simp
        refine hK.out _ _ ?_ (fun hHeld => ?_)
        · trivial
        clear hK K
        (try simp only [Act.put, List.setIfInBounds_toArray, List.set_cons_zero, List.set_cons_succ])
        refine wpAnyH_take (i := 6) (oi := ⟨some 27, _, _, _, _, _⟩) (v := ?_) rfl (by kernel_rfl) (by kernel_rfl) (by kernel_rfl) (fun _ _ _ h => h) (Or.inl ⟨by rfl, ?_⟩) (by assumption) ?_
        rotate_left 1
        · intro w hSw
          (try dsimp only at hSw)
          go_simp
          all_goals with_reducible rfl
        (try simp only [Act.put, List.setIfInBounds_toArray, List.set_cons_zero, List.set_cons_succ])
        refine wpAnyH_take (i := 7) (oi := ⟨some 28, _, _, _, _, _⟩) (v := ?_) rfl (by kernel_rfl) (by kernel_rfl) (by kernel_rfl) (fun _ _ _ h => h) (Or.inl ⟨by rfl, ?_⟩) (by assumption) ?_
        rotate_left 1
        · intro w hSw
          (try dsimp only at hSw)
          go_simp
          all_goals with_reducible rfl
        (try simp only [Act.put, List.setIfInBounds_toArray, List.set_cons_zero, List.set_cons_succ])
        refine wpAnyH_take (i := 8) (oi := ⟨some 29, _, _, _, _, _⟩) (v := ?_) rfl (by kernel_rfl) (by kernel_rfl) (by kernel_rfl) (fun _ _ _ h => h) (Or.inl ⟨by rfl, ?_⟩) (by assumption) ?_
        rotate_left 1
        · intro w hSw
          (try dsimp only at hSw)
          go_simp
          all_goals with_reducible rfl
        (try simp only [Act.put, List.setIfInBounds_toArray, List.set_cons_zero, List.set_cons_succ])
        refine wpAnyH_ready (rs := [9]) (by kernel_rfl) (by simp) ?_
        refine AllReadyH.cons (o := _) rfl (fun K hK => ?_) ?_
        · go_simp
          refine hK.out _ _ ?_ (fun hHeld => ?_)
          · trivial
          clear hK K
          (try simp only [Act.put, List.setIfInBounds_toArray, List.set_cons_zero, List.set_cons_succ])
          refine wpAnyH_done (by kernel_rfl) ?_ _
          refine NoPanic.normal ?_
          go_wp2
          go_meet
          case rel => exact ⟨Lib.hid (HO.out.trans (rnd_store hv _).1), Lib.hid (rnd_store hv _).2⟩
        exact AllReadyH.nil
      exact AllReadyH.nil
    refine AllReadyH.cons (o := _) rfl (fun K hK => ?_) ?_
    · go_simp
      refine hK.out _ _ ?_ (fun hHeld => ?_)
      · trivial
      clear hK K
      (try simp only [Act.put, List.setIfInBounds_toArray, List.set_cons_zero, List.set_cons_succ])
      refine wpAnyH_take (i := 6) (oi := ⟨some 27, _, _, _, _, _⟩) (v := ?_) rfl (by kernel_rfl) (by kernel_rfl) (by kernel_rfl) (fun _ _ _ h => h) (Or.inl ⟨by rfl, ?_⟩) (by assumption) ?_
      rotate_left 1
      · intro w hSw
        (try dsimp only at hSw)
        go_simp
        all_goals with_reducible rfl
      (try simp only [Act.put, List.setIfInBounds_toArray, List.set_cons_zero, List.set_cons_succ])
      refine wpAnyH_ready (rs := [2]) (by kernel_rfl) (by simp) ?_
      refine AllReadyH.cons (o := _) rfl (fun K hK => ?_) ?_
      · go_simp
        refine hK.out _ _ ?_ (fun hHeld => ?_)
        · trivial
        clear hK K
        (try simp only [Act.put, List.setIfInBounds_toArray, List.set_cons_zero, List.set_cons_succ])
        refine wpAnyH_take (i := 7) (oi := ⟨some 28, _, _, _, _, _⟩) (v := ?_) rfl (by kernel_rfl) (by kernel_rfl) (by kernel_rfl) (fun _ _ _ h => h) (Or.inl ⟨by rfl, ?_⟩) (by assumption) ?_
        rotate_left 1
        · intro w hSw
          (try dsimp only at hSw)
          go_simp
          all_goals with_reducible rfl
        (try simp only [Act.put, List.setIfInBounds_toArray, List.set_cons_zero, List.set_cons_succ])
        refine wpAnyH_take (i := 8) (oi := ⟨some 29, _, _, _, _, _⟩) (v := ?_) rfl (by kernel_rfl) (by kernel_rfl) (by kernel_rfl) (fun _ _ _ h => h) (Or.inl ⟨by rfl, ?_⟩) (by assumption) ?_
        rotate_left 1
        · intro w hSw
          (try dsimp only at hSw)
          go_simp
          all_goals with_reducible rfl
        (try simp only [Act.put, List.setIfInBounds_toArray, List.set_cons_zero, List.set_cons_succ])
        refine wpAnyH_ready (rs := [9]) (by kernel_rfl) (by simp) ?_
        refine AllReadyH.cons (o := _) rfl (fun K hK => ?_) ?_
        · go_simp
          refine hK.out _ _ ?_ (fun hHeld => ?_)
          · trivial
          clear hK K
          (try simp only [Act.put, List.setIfInBounds_toArray, List.set_cons_zero, List.set_cons_succ])
          refine wpAnyH_done (by kernel_rfl) ?_ _
          refine NoPanic.normal ?_
          go_wp2
          go_meet
          case rel => exact ⟨Lib.hid (HO.out.trans (rnd_store hv _).1), Lib.hid (rnd_store hv _).2⟩
        exact AllReadyH.nil
      exact AllReadyH.nil
    exact AllReadyH.nil
  case rest =>
  obtain ⟨HO, HR⟩ := hcut
  clear hv c0 c1 v
  obtain ⟨v, hv⟩ := HR.out
  have c0 : wc.cell? ⟨sc, 0, none⟩ = some (.int .u64 v) := by simp [World.cell?, hv]
  have c1 : wc.frozen? ⟨sc, 0, none⟩ = false := by simp [World.frozen?, hv]
  clear HR
  have HR : Hid (RndAt sc wc) := Lib.hid ⟨v, hv⟩
  clear hv
  go_wp2_with fail
  go_ret
  exact ⟨_, rfl, HO.out, HR.out⟩
end Sq
end Mt
end Go.Proofs.Ytkejjiohkhlnnaa

namespace Go.Proofs.Ytkejjiohkhlnnaa
open Go.RowKit Go.Lib
namespace Mt
namespace Sq
open Go.Sort (swp PermIn reverseLoop reverseRange permIn_refl permIn_trans swp_permIn)
variable {α : Type} [Inhabited α]

theorem revLoop_at {i j : Nat} {d : Array α} (h : i < j) : reverseLoop i j d = reverseLoop (i + 1) (j - 1) (swp d i j) := by
  rw [reverseLoop, if_pos h]
theorem revLoop_end {i j : Nat} {d : Array α} (h : ¬ i < j) : reverseLoop i j d = d := by
  rw [reverseLoop, if_neg h]
set_option maxHeartbeats 4000000 in
set_option maxRecDepth 100000 in
theorem rev_any {S : SortD α} (C : SortIn S) (a b : Nat) (d : Array α) (w : World) (h : At S d w) (hab : a < b) (hb : b ≤ S.n) :
    Calls Try.prog 107 #[.agg #[lessV S, swapV S], .int .i64 a, .int .i64 b] w fun e w' => e = .returned (.tuple #[]) ∧ Aft S (reverseRange d a b) w w' := by
  obtain ⟨rb, hrb⟩ : ∃ r, r = w.heap.size := ⟨_, rfl⟩
  have F0 := Fr.start h
  rw [← hrb] at F0
  have HC := Lib.hid C
  have hn := C.small
  unfold lessV swapV at *
  obtain ⟨W0, hW0⟩ : ∃ V, V = w.alloc (.cells #[.func (.func 75) #[] #[S.l0, S.l1], .func (.func 100) #[] #[.slice (some ⟨S.blk, 0, none⟩) S.n S.c, S.th]] 155) := ⟨_, rfl⟩
  rw [← hW0] at F0
  have HF0 := Lib.hid F0
  have HW0 := Lib.hid hW0
  have Hrb := Lib.hid hrb
  obtain ⟨R, hR⟩ : ∃ R, R = reverseRange d a b := ⟨_, rfl⟩
  rw [← hR]
  obtain ⟨jb, hjb⟩ : ∃ x, x = b - 1 := ⟨_, rfl⟩
  have HR : Hid (reverseLoop a jb d = R) := Lib.hid (by rw [hR, hjb]; rfl)
  have hjbi : (b : Int) - 1 = (jb : Int) := by omega
  have hjn : jb < S.n := by omega
  have hja : a ≤ jb := by omega
  clear hR hjb
  clear hW0 hrb F0 h C
  go_enter Try.func107, Try.ntmps107
  go_upto_region 1 with fail
  rw [← HW0.out, ← Hrb.out]
  go_wp2_with fail
  go_loopw [6, 7] (fun t u wr => ∃ (i j : Nat) (dk : Array α), t = .int .i64 i ∧ u = .int .i64 j ∧ a ≤ i ∧ i ≤ jb + 1 ∧ a ≤ j ∧ j ≤ jb ∧ Hid (Fr S rb w dk wr) ∧ Hid (reverseLoop i j dk = R)) (fun _ u _ => (RowKit.intOf u).toNat)
  case atStart => exact ⟨a, jb, d, rfl, by go_num, by omega, by omega, by omega, by omega, HF0, HR⟩
  case round =>
    clear HF0 HR
    obtain ⟨i, j, dk, rfl, rfl, hia, hib, hja2, hjb2, HF, HO⟩ := hrel
    by_cases hij : i < j
    · have x1 := HF.out.x1
      unfold swapV at x1
      have hsw := At.run HC.out HF.out.at' (i := i) (j := j) (by omega) (by omega)
      have HF1 := Lib.hid (HF.out.swap HC.out (i := i) (j := j) (by omega) (by omega))
      have HO2 : Hid (reverseLoop (i + 1) (j - 1) (swp dk i j) = R) := Lib.hid (by rw [← HO.out, revLoop_at hij])
      clear HF HO
      go_wp2_with fail
      go_roundw
      case rel => exact ⟨i + 1, j - 1, _, by go_num, by go_num, by omega, by omega, by omega, by omega, HF1, HO2⟩
      case measure => simp [RowKit.intOf]; omega
    · have HE : Hid (Aft S R w wr) := Lib.hid (by rw [← HO.out, revLoop_end hij]; exact HF.out.end)
      clear HO
      go_wp2_with fail
      go_end0
      exact ⟨rfl, HE.out⟩
theorem and_any (r : Int) (m : Nat) (h1 : 1 ≤ m) (h2 : m ≤ 2000000) : ∃ o : Nat, bits .and .u64 r ((m : Int) - 1) = (o : Int) ∧ o < m := by
  refine ⟨(BitVec.ofInt 64 r).toNat &&& (m - 1), ?_, ?_⟩
  · have hx : (BitVec.ofInt 64 r).toNat &&& (m - 1) < 2 ^ 64 := Nat.and_lt_two_pow _ (by omega)
    have e : (m : Int) - 1 = ((m - 1 : Nat) : Int) := by omega
    have h2 : (BitVec.ofInt 64 ((m : Int) - 1)).toNat = m - 1 := by
      rw [e, BitVec.ofInt_natCast, BitVec.toNat_ofNat]; exact Nat.mod_eq_of_lt (by omega)
    show IntKind.u64.wrap ((BitVec.ofInt 64 r &&& BitVec.ofInt 64 ((m : Int) - 1)).toNat : Int) = _
    rw [BitVec.toNat_and, h2, IntKind.wrap_u64]
    omega
  · have := Nat.and_le_right (n := (BitVec.ofInt 64 r).toNat) (m := m - 1)
    omega
theorem Fr.next {S : SortD α} {rb sc : Nat} {ws W W' : World} {d : Array α} (C : SortIn S) (h : Fr S rb ws d W) (k : Oth sc W W') (h0 : S.w0.heap.size ≤ sc) (hs : ws.heap.size ≤ sc) (hne : rb ≠ sc) : Fr S rb ws d W' :=
  ⟨h.at'.oth2 C k h0, ⟨k.os.trans h.oth.os, k.tape.trans h.oth.tape, k.output.trans h.oth.output, Nat.le_trans h.oth.size k.size, fun j hj hn => (k.keep j (Nat.lt_of_lt_of_le hj h.oth.size) (by omega)).trans (h.oth.keep j hj hn)⟩, k.cell h.x0 hne, k.cell h.x1 hne, h.rb⟩
omit [Inhabited α] in
theorem RndAt.swap {S : SortD α} {sc i j : Nat} {W : World} {x y : Value} (h : RndAt sc W) (hn : sc ≠ S.blk) : RndAt sc ((W.setCell ⟨S.blk, i, none⟩ x).setCell ⟨S.blk, j, none⟩ y) := by
  obtain ⟨v, hv⟩ := h
  exact ⟨v, by rw [Below.heap_setCell _ _ _ _ (fun e => hn e), Below.heap_setCell _ _ _ _ (fun e => hn e)]; exact hv⟩
/-- what breakPatterns_func leaves -/
def BrkEnd (S : SortD α) (a b : Nat) (d : Array α) (w : World) (e : Ending) (w' : World) : Prop := e = .returned (.tuple #[]) ∧ ∃ d', PermIn a b d d' ∧ Aft S d' w w'
set_option maxHeartbeats 8000000 in
set_option maxRecDepth 100000 in
theorem brk_any {S : SortD α} (C : SortIn S) (a b : Nat) (d : Array α) (w : World) (h : At S d w) (hab : a < b) (hb : b ≤ S.n) :
    Calls Try.prog 105 #[.agg #[lessV S, swapV S], .int .i64 a, .int .i64 b] w (BrkEnd S a b d w) := by
  obtain ⟨rb, hrb⟩ : ∃ r, r = w.heap.size := ⟨_, rfl⟩
  have F0 := Fr.start h
  rw [← hrb] at F0
  have HC := Lib.hid C
  have hn := C.small
  unfold lessV swapV at *
  obtain ⟨W0, hW0⟩ : ∃ V, V = w.alloc (.cells #[.func (.func 75) #[] #[S.l0, S.l1], .func (.func 100) #[] #[.slice (some ⟨S.blk, 0, none⟩) S.n S.c, S.th]] 155) := ⟨_, rfl⟩
  rw [← hW0] at F0
  have HF0 := Lib.hid F0
  have HW0 := Lib.hid hW0
  have Hrb := Lib.hid hrb
  obtain ⟨L, hL⟩ : ∃ L, L = b - a := ⟨_, rfl⟩
  have hLi : (b : Int) - (a : Int) = (L : Int) := by omega
  have hL1 : a + L ≤ b := by omega
  have hL2 : b ≤ a + L := by omega
  have hds : d.size = S.n := h.size
  have hw0 : w.heap.size ≤ W0.heap.size := HF0.out.oth.size
  have hws : S.w0.heap.size ≤ w.heap.size := h.oth.size
  have hrb0 : rb < W0.heap.size := World.block_lt_of_cell? _ _ HF0.out.x0
  have hblk := HC.out.blk
  clear hL
  clear hW0 hrb F0 h C
  go_enter Try.func105, Try.ntmps105
  go_upto_region 1 with fail
  rw [← HW0.out, ← Hrb.out]
  by_cases h8 : 8 ≤ L
  · have h8i : (8 : Int) ≤ (L : Int) := by omega
    have cP := fun w => Lib.hid (pow_any L w (by omega) (by omega))
    have hLw : IntKind.u64.wrap (L : Int) = L := by simp [IntKind.wrap, IntKind.bits, IntKind.signed]; omega
    go_upto_region 5 with (first | (go_at_call 112; (with_reducible refine (cP _).out.mono ?_); rintro e wx ⟨m, rfl, hm1, hm2, rfl⟩))
    obtain ⟨w1, hw1⟩ : ∃ V, V = W0.alloc (.cells #[.int .u64 L] 171) := ⟨_, rfl⟩
    rw [← hw1]
    obtain ⟨sc, hsc⟩ : ∃ x, x = W0.heap.size := ⟨_, rfl⟩
    have hb1 : Below W0.heap.size W0 w1 := by rw [hw1]; exact (Below.refl _ _).alloc (Nat.le_refl _) _
    have R1 : RndAt sc w1 := ⟨(L : Int), by rw [hw1, hsc]; exact (MapKept.heap_alloc W0 _).1⟩
    have HF1 := Lib.hid (HF0.out.below hb1)
    have HR1 := Lib.hid R1
    have hs1 : S.w0.heap.size ≤ sc := by omega
    have hs2 : w.heap.size ≤ sc := by omega
    have hs3 : rb ≠ sc := by omega
    have hs4 : sc ≠ S.blk := by omega
    have HP1 := Lib.hid (permIn_refl d a b)
    rw [← hsc]
    clear hsc hb1 R1 hw1 HF0 cP
    obtain ⟨p, hp⟩ : ∃ x, x = a + L / 4 * 2 := ⟨_, rfl⟩
    have hpi : (a : Int) + (L : Int) / 4 * 2 = (p : Int) := by omega
    have hp1 : a + 4 ≤ p := by omega
    have hp2 : p + 1 < b := by omega
    have hmw : IntKind.u64.wrap ((m : Int) - 1) = (m : Int) - 1 := by simp [IntKind.wrap, IntKind.bits, IntKind.signed]; omega
    clear hp
    go_wp2_with fail
    go_loopw [9] (fun t wr => ∃ (idx : Nat) (dk : Array α), t = .int .i64 idx ∧ p ≤ idx + 1 ∧ idx ≤ p + 2 ∧ Hid (Fr S rb w dk wr) ∧ Hid (RndAt sc wr) ∧ Hid (PermIn a b d dk)) (fun t _ => p + 3 - (RowKit.intOf t).toNat)
    case atStart => exact ⟨p - 1, d, by go_num, by omega, by omega, HF1, HR1, HP1⟩
    case round =>
      clear HF1 HR1 HP1
      obtain ⟨idx, dk, rfl, hi1, hi2, HF, HR, HP⟩ := hrel
      by_cases hlt : idx ≤ p + 1
      · have hlti : (idx : Int) ≤ (p : Int) + 1 := by omega
        have cN := Lib.hid (next_any sc wr HR.out)
        go_upto_region 9 with (first | (go_at_call 113; (with_reducible refine cN.out.mono ?_); rintro e w2 ⟨r, rfl, hO, hR⟩; obtain ⟨oo, hoo, hom⟩ := and_any r m hm1 (by omega); have HF2 := Lib.hid (HF.out.next HC.out hO hs1 hs2 hs3); have HR2 := Lib.hid hR; clear hO hR HF HR cN))
        clear hoo
        go_upto_if 43 with fail
        go_cut [10] (fun t wc => ∃ q : Nat, t = .int .i64 q ∧ q < L ∧ wc = w2)
        case first =>
          by_cases hge : L ≤ oo
          · have hgei : (L : Int) ≤ (oo : Int) := by omega
            go_wp2_with fail
            go_meet
            case rel => exact ⟨oo - L, by go_num, by omega, rfl⟩
          · have hgei : ¬ (L : Int) ≤ (oo : Int) := by omega
            go_wp2_with fail
            go_meet
            case rel => exact ⟨oo, rfl, by omega, rfl⟩
        case rest =>
          obtain ⟨q, rfl, hq, rfl⟩ := hcut
          have x1 := HF2.out.x1
          unfold swapV at x1
          have hdk := HF2.out.at'.size
          have hsw := At.run HC.out HF2.out.at' (i := idx) (j := a + q) (by omega) (by omega)
          rw [show ((a + q : Nat) : Int) = (a : Int) + (q : Int) by omega] at hsw
          have HF3 := Lib.hid (HF2.out.swap HC.out (i := idx) (j := a + q) (by omega) (by omega))
          have HR3 := Lib.hid (HR2.out.swap (S := S) (i := idx) (j := a + q) (x := S.enc dk[a + q]!) (y := S.enc dk[idx]!) hs4)
          have HP3 : Hid (PermIn a b d (swp dk idx (a + q))) := Lib.hid (permIn_trans _ _ _ a b HP.out (swp_permIn dk a b idx (a + q) (by omega) (by omega) (by omega) (by omega) (by omega)))
          clear HF2 HR2 HP hdk
          go_wp2_with fail
          go_roundw
          case rel => exact ⟨idx + 1, _, by go_num, by omega, by omega, HF3, HR3, HP3⟩
          case measure => simp [RowKit.intOf]; omega
      · have hlti : ¬ (idx : Int) ≤ (p : Int) + 1 := by omega
        have HE : Hid (Aft S dk w wr) := Lib.hid HF.out.end
        clear HF HR
        go_wp2_with fail
        go_end0
        exact ⟨rfl, dk, HP.out, HE.out⟩
  · have HE : Hid (Aft S d w W0) := Lib.hid HF0.out.end
    have h8i : ¬ (8 : Int) ≤ (L : Int) := by omega
    go_wp2_with fail
    go_end0
    exact ⟨rfl, d, permIn_refl d a b, HE.out⟩
end Sq
end Mt
end Go.Proofs.Ytkejjiohkhlnnaa

namespace Go.Proofs.Ytkejjiohkhlnnaa
open Go.RowKit Go.Lib
namespace Mt
namespace Sq
open Go.Sort (swp PermIn SortedIn permIn_refl permIn_trans SWO)
variable {α : Type} [Inhabited α]

/-- what pdqsort_func leaves -/
def PdqEnd (S : SortD α) (a b : Nat) (d : Array α) (w : World) (e : Ending) (w' : World) : Prop := e = .returned (.tuple #[]) ∧ ∃ R, PermIn a b d R ∧ SortedIn S.lt a b R ∧ Aft S R w w'
set_option maxHeartbeats 16000000 in
set_option maxRecDepth 100000 in
theorem pdq_any {S : SortD α} (C : SortIn S) (hO : SWO S.lt) : ∀ (N a b limit : Nat) (d : Array α) (w : World), b - a < N → At S d w → a ≤ b → b ≤ S.n → limit ≤ 1000 → Go.Sort.Below S.lt a b d →
    Calls Try.prog 90 #[.agg #[lessV S, swapV S], .int .i64 a, .int .i64 b, .int .i64 limit] w (PdqEnd S a b d w) := by
  intro N
  induction N with
  | zero => intro _ _ _ _ _ h; exact absurd h (Nat.not_lt_zero _)
  | succ N ih =>
    intro a b limit d w hN h hab hb hlim hBel
    obtain ⟨rb, hrb⟩ : ∃ r, r = w.heap.size := ⟨_, rfl⟩
    have F0 := Fr.start h
    rw [← hrb] at F0
    have HC := Lib.hid C
    have hn := C.small
    have cIns := fun (a b : Nat) (d : Array α) (W : World) (h : At S d W) (h1 : a ≤ b) (h2 : b ≤ S.n) => Lib.hid (ins_any HC.out a b d W h h1 h2)
    have cHeap := fun (a b : Nat) (d : Array α) (W : World) (h : At S d W) (h1 : a < b) (h2 : b ≤ S.n) => Lib.hid (heap_any HC.out a b d W h h1 h2)
    have cBrk := fun (a b : Nat) (d : Array α) (W : World) (h : At S d W) (h1 : a < b) (h2 : b ≤ S.n) => Lib.hid (brk_any HC.out a b d W h h1 h2)
    have cPiv := fun (a b : Nat) (d : Array α) (W : World) (h : At S d W) (h1 : a < b) (h2 : b ≤ S.n) => Lib.hid (piv_any HC.out a b d W h h1 h2)
    have cRev := fun (a b : Nat) (d : Array α) (W : World) (h : At S d W) (h1 : a < b) (h2 : b ≤ S.n) => Lib.hid (rev_any HC.out a b d W h h1 h2)
    have cPins := fun (a b : Nat) (d : Array α) (W : World) (h : At S d W) (h1 : a < b) (h2 : b ≤ S.n) => Lib.hid (pins_any HC.out a b d W h h1 h2)
    have cPart := fun (a b p : Nat) (d : Array α) (W : World) (h : At S d W) (h1 : a < b) (h2 : p < b) (h3 : b ≤ S.n) => Lib.hid (part_any HC.out a b p d W h h1 h2 h3)
    have cPeq := fun (a b p : Nat) (d : Array α) (W : World) (h : At S d W) (h1 : a < b) (h2 : p < b) (h3 : b ≤ S.n) => Lib.hid (partEq_any HC.out a b p d W h h1 h2 h3)
    have cPdq := fun (a b lim : Nat) (d : Array α) (W : World) (h0 : b - a < N) (h : At S d W) (h1 : a ≤ b) (h2 : b ≤ S.n) (h3 : lim ≤ 1000) (h4 : Go.Sort.Below S.lt a b d) => Lib.hid (ih a b lim d W h0 h h1 h2 h3 h4)
    unfold lessV swapV at *
    obtain ⟨W0, hW0⟩ : ∃ V, V = w.alloc (.cells #[.func (.func 75) #[] #[S.l0, S.l1], .func (.func 100) #[] #[.slice (some ⟨S.blk, 0, none⟩) S.n S.c, S.th]] 155) := ⟨_, rfl⟩
    rw [← hW0] at F0
    have HF0 := Lib.hid F0
    have HW0 := Lib.hid hW0
    have Hrb := Lib.hid hrb
    have HBel := Lib.hid hBel
    have HO := Lib.hid hO
    clear hBel ih hO
    clear hW0 hrb F0 h C
    go_enter Try.func90, Try.ntmps90
    go_upto_region 1 with fail
    rw [← HW0.out, ← Hrb.out]
    go_wp2_with fail
    go_loopw [1, 2, 3, 8, 9] (fun t1 t2 t3 t8 t9 wr => ∃ (a' b' lim : Nat) (wb wp : Bool) (dk : Array α), t1 = .int .i64 a' ∧ t2 = .int .i64 b' ∧ t3 = .int .i64 lim ∧ t8 = .bool wb ∧ t9 = .bool wp ∧ a' ≤ b' ∧ b' ≤ S.n ∧ b' - a' ≤ b - a ∧ lim ≤ 1000 ∧ Hid (Fr S rb w dk wr) ∧ Hid (Go.Sort.Below S.lt a' b' dk) ∧ Hid (∀ R, PermIn a' b' dk R → SortedIn S.lt a' b' R → PermIn a b d R ∧ SortedIn S.lt a b R)) (fun t1 t2 _ _ _ _ => (RowKit.intOf t2 - RowKit.intOf t1).toNat)
    case atStart => exact ⟨a, b, limit, true, true, d, rfl, rfl, rfl, rfl, rfl, hab, hb, Nat.le_refl _, hlim, HF0, HBel, Lib.hid (fun R h1 h2 => ⟨h1, h2⟩)⟩
    case round =>
      clear HF0 HBel
      obtain ⟨a', b', lim, wb, wp, dk, rfl, rfl, rfl, rfl, rfl, hab', hb', hsz, hlm, HF, HB, HS⟩ := hrel
      have x0 := HF.out.x0
      unfold lessV at x0
      have x1 := HF.out.x1
      unfold swapV at x1
      obtain ⟨L, hL⟩ : ∃ L, L = b' - a' := ⟨_, rfl⟩
      have hLi : (b' : Int) - (a' : Int) = (L : Int) := by omega
      have hLa : a' + L ≤ b' := by omega
      have hLb : b' ≤ a' + L := by omega
      clear hL
      have hds := HF.out.at'.size
      by_cases h12 : L ≤ 12
      · have h12i : (L : Int) ≤ 12 := by omega
        have cI := cIns a' b' dk wr HF.out.at' hab' hb'
        go_wp2_with (first | (go_at_call 103; (with_reducible refine cI.out.mono ?_); rintro e w1 ⟨rfl, hA1⟩; have HF1 := Lib.hid (HF.out.aft HC.out hA1); clear hA1))
        have hsp := Go.Sort.insertionSort_holds HO.out dk a' b' hab' (by omega)
        (try simp only [Exit.inBlock, Exit.then])
        refine bodyPost_ret (results_none rfl _ _ _) rfl ?_
        exact ⟨rfl, _, (HS.out _ hsp.1 hsp.2).1, (HS.out _ hsp.1 hsp.2).2, HF1.out.end⟩
      · by_cases hl0 : lim = 0
        · subst hl0
          have cI := cHeap a' b' dk wr HF.out.at' (by omega) hb'
          rw [show ((0 : Nat) : Int) = 0 from rfl]
          go_wp2_with (first | (go_at_call 104; (with_reducible refine cI.out.mono ?_); rintro e w1 ⟨rfl, hA1⟩; have HF1 := Lib.hid (HF.out.aft HC.out hA1); clear hA1))
          have hsp := Go.Sort.heapSort_holds HO.out dk a' b' hab' (by omega)
          (try simp only [Exit.inBlock, Exit.then])
          refine bodyPost_ret (results_none rfl _ _ _) rfl ?_
          exact ⟨rfl, _, (HS.out _ hsp.1 hsp.2).1, (HS.out _ hsp.1 hsp.2).2, HF1.out.end⟩
        · have hl0i : ¬ ((lim : Int) = 0) := by omega
          have hLn : ¬ ((L : Int) ≤ 12) := by omega
          go_upto_if 35 with fail
          go_cut [3] (fun t3 wc => ∃ (lim2 : Nat) (d1 : Array α), t3 = .int .i64 lim2 ∧ lim2 ≤ 1000 ∧ Hid (PermIn a' b' dk d1) ∧ Hid (Fr S rb w d1 wc))
          case first =>
            cases wb with
            | false =>
              have cI := cBrk a' b' dk wr HF.out.at' (by omega) hb'
              go_wp2_with (first | (go_at_call 105; (with_reducible refine cI.out.mono ?_); rintro e w1 ⟨rfl, d1, hP1, hA1⟩; have HF1 := Lib.hid (HF.out.aft HC.out hA1); have HP1 := Lib.hid hP1; clear hA1 hP1))
              go_meet
              case rel => exact ⟨lim - 1, d1, by go_num, by omega, HP1, HF1⟩
            | true =>
              go_wp2_with fail
              go_meet
              case rel => exact ⟨lim, dk, rfl, hlm, Lib.hid (permIn_refl dk a' b'), HF⟩
          case rest =>
            obtain ⟨lim2, d1, rfl, hlm2, HP1, HF1⟩ := hcut
            clear x0 x1 HF
            have x0 := HF1.out.x0
            unfold lessV at x0
            have x1 := HF1.out.x1
            unfold swapV at x1
            have cI := cPiv a' b' d1 wc HF1.out.at' (by omega) hb'
            go_upto_if 50 with (first | (go_at_call 106; (with_reducible refine cI.out.mono ?_); rintro e w2 ⟨p, k, rfl, hp1, hp2, hk, hA1⟩; have HF2 := Lib.hid (HF1.out.aft HC.out hA1); clear hA1))
            clear x0 x1 HF1 cI
            have x0 := HF2.out.x0
            unfold lessV at x0
            have x1 := HF2.out.x1
            unfold swapV at x1
            go_cut [11, 12] (fun t11 t12 wc => ∃ (p2 k2 : Nat) (d2 : Array α), t11 = .int .i64 p2 ∧ t12 = .int .i64 k2 ∧ a' ≤ p2 ∧ p2 < b' ∧ Hid (PermIn a' b' dk d2) ∧ Hid (Fr S rb w d2 wc))
            case first =>
              by_cases hk2 : k = 2
              · subst hk2
                have cI := cRev a' b' d1 w2 HF2.out.at' (by omega) hb'
                rw [show ((2 : Nat) : Int) = 2 from rfl]
                go_wp2_with (first | (go_at_call 107; (with_reducible refine cI.out.mono ?_); rintro e w3 ⟨rfl, hA1⟩; have HF3 := Lib.hid (HF2.out.aft HC.out hA1); clear hA1))
                have hd1 : d1.size = S.n := HF2.out.at'.size
                have HP3 := Lib.hid (permIn_trans _ _ _ a' b' HP1.out (Go.Sort.reverseRange_holds d1 a' b' hab' (by omega)))
                go_meet
                case rel => exact ⟨(b' - 1) - (p - a'), 1, _, by go_num, rfl, by omega, by omega, HP3, HF3⟩
              · have hk2i : ¬ ((k : Int) = 2) := by omega
                go_wp2_with fail
                go_meet
                case rel => exact ⟨p, k, d1, rfl, rfl, hp1, hp2, HP1, HF2⟩
            case rest =>
              obtain ⟨p2, k2, d2, rfl, rfl, hp21, hp22, HP2, HF3⟩ := hcut
              clear x0 x1 HF2 HP1
              have x0 := HF3.out.x0
              unfold lessV at x0
              have x1 := HF3.out.x1
              unfold swapV at x1
              go_upto_region 16 with fail
              go_cut [68] (fun t68 wx => ∃ c : Bool, t68 = .bool c ∧ wx = wc)
              case first =>
                by_cases hk1 : k2 = 1
                · subst hk1
                  rw [show ((1 : Nat) : Int) = 1 from rfl]
                  cases wb <;> cases wp <;> (go_wp2_with fail; go_meet; exact ⟨_, rfl, rfl⟩)
                · have hk1i : ¬ ((k2 : Int) = 1) := by omega
                  cases wb <;> cases wp <;> (go_wp2_with fail; go_meet; exact ⟨_, rfl, rfl⟩)
              case rest =>
                obtain ⟨cc, rfl, rfl⟩ := hcut
                have hd2 : d2.size = S.n := HF3.out.at'.size
                have HB2 : Hid (Go.Sort.Below S.lt a' b' d2) := Lib.hid (HB.out.perm (by omega) HP2.out)
                go_upto_if 68 with fail
                go_cut [] (fun wx => ∃ d3 : Array α, Hid (PermIn a' b' dk d3) ∧ Hid (Fr S rb w d3 wx))
                case first =>
                  cases cc with
                  | false =>
                    go_wp2_with fail
                    go_meet
                    case rel => exact ⟨d2, HP2, HF3⟩
                  | true =>
                    have cI := cPins a' b' d2 _ HF3.out.at' (by omega) hb'
                    have hsp := Go.Sort.partialInsertionSort_holds HO.out d2 a' b' (by omega) (by omega) HB2.out
                    obtain ⟨rv, hrv⟩ : ∃ x, x = Go.Sort.partialInsertionSort S.lt d2 a' b' := ⟨_, rfl⟩
                    rw [← hrv] at cI hsp
                    obtain ⟨dr, br⟩ := rv
                    clear hrv
                    simp only at hsp
                    have HP4 := Lib.hid (permIn_trans _ _ _ a' b' HP2.out hsp.1)
                    have HS4 := Lib.hid hsp.2
                    clear hsp
                    cases br with
                    | true =>
                      go_wp2_with (first | (go_at_call 108; (with_reducible refine cI.out.mono ?_); rintro e w4 ⟨rfl, hA1⟩; have HF4 := Lib.hid (HF3.out.aft HC.out hA1); clear hA1))
                      (try simp only [Exit.inBlock, Exit.then])
                      refine bodyPost_ret (results_none rfl _ _ _) rfl ?_
                      exact ⟨rfl, _, (HS.out _ HP4.out (HS4.out (by simp))).1, (HS.out _ HP4.out (HS4.out (by simp))).2, HF4.out.end⟩
                    | false =>
                      go_wp2_with (first | (go_at_call 108; (with_reducible refine cI.out.mono ?_); rintro e w4 ⟨rfl, hA1⟩; have HF4 := Lib.hid (HF3.out.aft HC.out hA1); clear hA1))
                      go_meet
                      case rel => exact ⟨dr, HP4, HF4⟩
                case rest =>
                  obtain ⟨d3, HP3, HF5⟩ := hcut
                  clear x0 x1 HF3 HP2 HB2 hd2
                  have x0 := HF5.out.x0
                  unfold lessV at x0
                  have x1 := HF5.out.x1
                  unfold swapV at x1
                  have hd3 : d3.size = S.n := HF5.out.at'.size
                  have HB3 : Hid (Go.Sort.Below S.lt a' b' d3) := Lib.hid (HB.out.perm (by omega) HP3.out)
                  go_upto_region 18 with fail
                  go_cut [83] (fun t83 wx => ∃ c : Bool, t83 = .bool c ∧ Hid (c = true → 0 < a' ∧ S.lt d3[a' - 1]! d3[p2]! = false) ∧ Hid (Fr S rb w d3 wx))
                  case first =>
                    by_cases ha0 : a' = 0
                    · subst ha0
                      rw [show ((0 : Nat) : Int) = 0 from rfl] at *
                      go_wp2_with fail
                      go_meet
                      case rel => exact ⟨false, rfl, Lib.hid (fun h => by cases h), HF5⟩
                    · have ha0i : (0 : Int) < (a' : Int) := by omega
                      obtain ⟨b1, hb1⟩ : ∃ x, x = S.lt d3[a' - 1]! d3[p2]! := ⟨_, rfl⟩
                      have cL := Lib.hid (HF5.out.less HC.out (a' - 1) p2 (by omega) (by omega))
                      rw [← hb1, show ((a' - 1 : Nat) : Int) = (a' : Int) - 1 by omega] at cL
                      have Hb1 := Lib.hid hb1
                      clear hb1
                      cases b1 <;> (go_wp2_with (first | (go_at_call 75; (with_reducible refine cL.out.mono ?_); rintro e w6 ⟨rfl, hF6⟩; have HF6 := Lib.hid hF6; clear hF6)); go_meet)
                      · exact ⟨true, rfl, Lib.hid (fun _ => ⟨by omega, Hb1.out.symm⟩), HF6⟩
                      · exact ⟨false, rfl, Lib.hid (fun h => by cases h), HF6⟩
                  case rest =>
                    obtain ⟨cc, rfl, HC3, HF6⟩ := hcut
                    clear x0 x1 HF5
                    have x0 := HF6.out.x0
                    unfold lessV at x0
                    have x1 := HF6.out.x1
                    unfold swapV at x1
                    cases cc with
                    | true =>
                      obtain ⟨ha1, hnl⟩ := HC3.out rfl
                      have cI := cPeq a' b' p2 d3 _ HF6.out.at' (by omega) hp22 hb'
                      obtain ⟨rv, hrv⟩ : ∃ x, x = Go.Sort.partitionEqual S.lt d3 a' b' p2 := ⟨_, rfl⟩
                      obtain ⟨mid, d4⟩ := rv
                      obtain ⟨q1, q2, q3, q4, q5⟩ := Go.Sort.round_eq HO.out (Go.Sort.partitionEqual_holds S.lt) ha1 hp21 hp22 (by omega) HB3.out hnl hrv.symm
                      rw [← hrv] at cI
                      have HB4 := Lib.hid q4
                      have HS4 : Hid (∀ R, PermIn mid b' d4 R → SortedIn S.lt mid b' R → PermIn a b d R ∧ SortedIn S.lt a b R) := Lib.hid (fun R h1 h2 => HS.out R (permIn_trans _ _ _ a' b' HP3.out (q5 R h1 h2).1) (q5 R h1 h2).2)
                      clear q4 q5 hrv hnl
                      go_wp2_with (first | (go_at_call 109; (with_reducible refine cI.out.mono ?_); rintro e w7 ⟨rfl, hA1⟩; have HF7 := Lib.hid (HF6.out.aft HC.out hA1); clear hA1))
                      go_roundw
                      case rel => exact ⟨mid, b', lim2, wb, wp, d4, rfl, rfl, rfl, rfl, rfl, q2, hb', by omega, hlm2, HF7, HB4, HS4⟩
                      case measure => simp [RowKit.intOf]; omega
                    | false =>
                      have cI := cPart a' b' p2 d3 _ HF6.out.at' (by omega) hp22 hb'
                      obtain ⟨rv, hrv⟩ : ∃ x, x = Go.Sort.partition S.lt d3 a' b' p2 := ⟨_, rfl⟩
                      obtain ⟨mid, ap, d4⟩ := rv
                      obtain ⟨q1, q2, q3, q4, q5, q6, q7⟩ := Go.Sort.round_part HO.out (Go.Sort.partition_holds S.lt) hp21 hp22 (by omega) HB3.out hrv.symm
                      rw [← hrv] at cI
                      have HQ4 := Lib.hid q4
                      have HQ5 := Lib.hid q5
                      have HQ6 := Lib.hid q6
                      have HQ7 := Lib.hid q7
                      clear q4 q5 q6 q7 hrv HB HB3 HC3
                      go_upto_region 22 with (first | (go_at_call 110; (with_reducible refine cI.out.mono ?_); rintro e w7 ⟨rfl, hA1⟩; have HF7 := Lib.hid (HF6.out.aft HC.out hA1); clear hA1))
                      clear x0 x1 HF6 cI
                      have x0 := HF7.out.x0
                      unfold lessV at x0
                      have x1 := HF7.out.x1
                      unfold swapV at x1
                      obtain ⟨lL, hlL⟩ : ∃ x, x = mid - a' := ⟨_, rfl⟩
                      obtain ⟨rL, hrL⟩ : ∃ x, x = b' - mid := ⟨_, rfl⟩
                      have hlLi : (mid : Int) - (a' : Int) = (lL : Int) := by omega
                      have hrLi : (b' : Int) - (mid : Int) = (rL : Int) := by omega
                      have hl1 : a' + lL ≤ mid ∧ mid ≤ a' + lL := by omega
                      have hr1 : mid + rL ≤ b' ∧ b' ≤ mid + rL := by omega
                      obtain ⟨hl1, hl2⟩ := hl1
                      obtain ⟨hr1, hr2⟩ := hr1
                      clear hlL hrL
                      have hd4 : d4.size = S.n := by omega
                      by_cases hlt : lL < rL
                      · have hlti : (lL : Int) < (rL : Int) := by omega
                        have cJ := cPdq a' mid lim2 d4 w7 (by omega) HF7.out.at' q1 (by omega) hlm2 HQ4.out
                        go_wp2_with (first | (go_at_call 90; (with_reducible refine cJ.out.mono ?_); rintro e w8 ⟨rfl, dl, hP8, hS8, hA1⟩; have HF8 := Lib.hid (HF7.out.aft HC.out hA1); have HX8 := Lib.hid (HQ6.out dl hP8 hS8); clear hA1 hP8 hS8))
                        have HS8 : Hid (∀ R, PermIn (mid + 1) b' dl R → SortedIn S.lt (mid + 1) b' R → PermIn a b d R ∧ SortedIn S.lt a b R) := Lib.hid (fun R h1 h2 => HS.out R (permIn_trans _ _ _ a' b' HP3.out (HX8.out.2 R h1 h2).1) (HX8.out.2 R h1 h2).2)
                        have HB8 := Lib.hid HX8.out.1
                        go_roundw
                        case rel => exact ⟨mid + 1, b', lim2, _, ap, dl, by go_num, rfl, rfl, rfl, rfl, by omega, hb', by omega, hlm2, HF8, HB8, HS8⟩
                        case measure => simp [RowKit.intOf]; omega
                      · have hlti : ¬ (lL : Int) < (rL : Int) := by omega
                        have cJ := cPdq (mid + 1) b' lim2 d4 w7 (by omega) HF7.out.at' (by omega) hb' hlm2 HQ5.out
                        rw [show ((mid + 1 : Nat) : Int) = (mid : Int) + 1 by omega] at cJ
                        go_wp2_with (first | (go_at_call 90; (with_reducible refine cJ.out.mono ?_); rintro e w8 ⟨rfl, dl, hP8, hS8, hA1⟩; have HF8 := Lib.hid (HF7.out.aft HC.out hA1); have HX8 := Lib.hid (HQ7.out dl hP8 hS8); clear hA1 hP8 hS8))
                        have HS8 : Hid (∀ R, PermIn a' mid dl R → SortedIn S.lt a' mid R → PermIn a b d R ∧ SortedIn S.lt a b R) := Lib.hid (fun R h1 h2 => HS.out R (permIn_trans _ _ _ a' b' HP3.out (HX8.out.2 R h1 h2).1) (HX8.out.2 R h1 h2).2)
                        have HB8 := Lib.hid HX8.out.1
                        go_roundw
                        case rel => exact ⟨a', mid, lim2, _, ap, dl, rfl, rfl, rfl, rfl, rfl, q1, by omega, by omega, hlm2, HF8, HB8, HS8⟩
                        case measure => simp [RowKit.intOf]; omega
end Sq
end Mt
end Go.Proofs.Ytkejjiohkhlnnaa

namespace Go.Proofs.Ytkejjiohkhlnnaa
open Go.RowKit Go.Lib
namespace Mt
namespace Sq
open Go.Sort (PermIn SortedIn SWO)
open Srt (siT siE infoT infoE descT packT kindE)

theorem siK_two {n : Nat} (h : 2 ≤ n) : swapperK n siE 23 = 9 := by
  have h2 : swapperK 2 siE 23 = 9 := by kernel_rfl
  have e : swapperK n siE 23 = swapperK 2 siE 23 := by
    unfold swapperK
    have h0 : (n == 0) = false := by simp; omega
    have h1 : (n == 1) = false := by simp; omega
    rw [h0, h1]
    rfl
  rw [e, h2]
theorem find9 : Try.prog.funcs.findIdx? (·.name == "internal/reflectlite" ++ ".Swapper$" ++ toString 9) = some 100 := by kernel_rfl
theorem find1 : Try.prog.funcs.findIdx? (·.name == "internal/reflectlite" ++ ".Swapper$" ++ toString 1) = some 92 := by kernel_rfl
theorem find2 : Try.prog.funcs.findIdx? (·.name == "internal/reflectlite" ++ ".Swapper$" ++ toString 2) = some 93 := by kernel_rfl
/-- the world in which pdqsort_func is called -/
noncomputable def sliceW (p : Option Addr) (n c : Nat) (w : World) : World :=
  (w.alloc (.cells #[.slice p n c] 38)).alloc (.cells #[.pointer (some ⟨Try.prog.globals.size, 38, none⟩), .pointer (some ⟨w.heap.size, 0, none⟩), .int .u64 151] 147)
set_option maxHeartbeats 4000000 in
set_option maxRecDepth 100000 in
theorem slice_of_pdq (p : Option Addr) (n c : Nat) (hn : n ≤ 1000000) (k f : Nat) (hk : swapperK n siE 23 = k) (hf : Try.prog.funcs.findIdx? (·.name == "internal/reflectlite" ++ ".Swapper$" ++ toString k) = some f) (B : Array Value) (hB : (if k ≤ 2 then #[] else #[.slice p n c, typeHandle Try.prog 22]) = B) (lf : Fn) (la lb : Array Value) (w : World) (R : World → Prop)
    (hp : ∀ lim : Nat, lim ≤ 1000 → Calls Try.prog 90 #[.agg #[.func lf la lb, .func (.func f) #[] B], .int .i64 0, .int .i64 n, .int .i64 lim] (sliceW p n c w) fun e w' => e = .returned (.tuple #[]) ∧ R w') :
    Calls Try.prog 74 #[.iface 38 (.slice p n c), .func lf la lb] w fun e w' => e = .returned (.tuple #[]) ∧ R w' := by
  have hv := run_valueOf_slice (P := Try.prog) 38 22 siT infoT descT p n c w
  have hs := fun w => run_swapper_slice (P := Try.prog) 38 22 siT siE infoT descT infoE 23 kindE p n c f (by rw [hk]; exact hf) w
  rw [hk, hB] at hs
  have hl := fun a w ha => run_valueLen_slice (P := Try.prog) 38 22 siT infoT descT packT a p n c w ha
  have hlim : Lib.bitLen n ≤ 1000 := Nat.le_trans (Lib.bitLen_le n 20 (by omega) (by omega)) (by omega)
  have cP := Lib.hid (hp (Lib.bitLen n) hlim)
  have cL := fun w => Lib.hid (len_any (n : Int) w (by omega) (by omega))
  simp only [Int.toNat_natCast] at cL
  generalize Lib.bitLen n = lim at *
  unfold sliceW at cP
  simp only [typeHandle] at hv hl
  have hgs : Try.prog.globals.size = 0 := by kernel_rfl
  rw [hgs] at hv cP
  simp only [hgs] at hl
  have wr : IntKind.u64.wrap (n : Int) = n := by simp [IntKind.wrap, IntKind.bits, IntKind.signed]; omega
  clear hp hB hk hf hlim
  go_enter Try.func74, Try.ntmps74
  go_wp2
  rw [run_callFunc_extern Try.func86 (by kernel_rfl) (by kernel_rfl) (by kernel_rfl) (e := fun args => Extern.ReflectliteValue.unpack (args.getD 0 (.tuple #[]))) (by kernel_rfl),
    show Sem.run Try.prog ((fun args : Array Value => Extern.ReflectliteValue.unpack (args.getD 0 (.tuple #[]))) #[.iface 38 (.slice p n c)]) w = _ from hv]
  simp only [Result.andThen]
  rw [Oper.upon_value]
  go_wp2
  rw [run_callFunc_extern Try.func87 (by kernel_rfl) (by kernel_rfl) (by kernel_rfl) (e := Extern.ReflectliteSwapper.swapper "internal/reflectlite" (Extern.ReflectliteValue.valueError "Swapper")) (by kernel_rfl), hs]
  simp only [Result.andThen]
  rw [Oper.upon_value]
  go_wp2
  rw [run_callFunc_extern Try.func88 (by kernel_rfl) (by kernel_rfl) (by kernel_rfl) (e := Extern.ReflectliteValue.method (Extern.ReflectliteValue.valueError "reflectlite.Value.Len" 0) Extern.ReflectliteValue.len) (by kernel_rfl),
    hl _ _ (by simp)]
  simp only [Result.andThen]
  rw [Oper.upon_value]
  go_wp2_with (first
    | (go_at_call 89; (with_reducible refine (cL _).out.mono ?_); rintro e w' ⟨rfl, rfl⟩)
    | (go_at_call 90; (with_reducible refine cP.out.mono ?_); rintro e w' ⟨rfl, hR⟩))
  go_end0
  exact ⟨rfl, hR⟩
theorem sliceW_below (p : Option Addr) (n c : Nat) (w : World) : Below w.heap.size w (sliceW p n c w) := by
  unfold sliceW
  exact ((Below.refl _ _).alloc (Nat.le_refl _) _).alloc (by simp) _
theorem slice_any {α : Type} [Inhabited α] {S : SortD α} (C : SortIn S) (hO : SWO S.lt) (d : Array α) (w : World) (h : At S d w) (h2 : 2 ≤ S.n) :
    Calls Try.prog 74 #[.iface 38 (.slice (some ⟨S.blk, 0, none⟩) S.n S.c), lessV S] w fun e w' => e = .returned (.tuple #[]) ∧ ∃ R, PermIn 0 S.n d R ∧ SortedIn S.lt 0 S.n R ∧ Aft S R w w' := by
  have hb := sliceW_below (some ⟨S.blk, 0, none⟩) S.n S.c w
  refine slice_of_pdq (some ⟨S.blk, 0, none⟩) S.n S.c C.small 9 _ (siK_two h2) find9 #[.slice (some ⟨S.blk, 0, none⟩) S.n S.c, S.th] (by rw [C.th]; rfl) _ _ _ w _ (fun lim hlim => ?_)
  have := pdq_any C hO (S.n + 1) 0 S.n lim d _ (by omega) (h.below hb) (Nat.zero_le _) (Nat.le_refl _) hlim (Or.inl rfl)
  exact this.mono fun e w' ⟨he, R, r1, r2, r3⟩ => ⟨he, R, r1, r2, r3.trans (.below hb)⟩
set_option maxHeartbeats 4000000 in
set_option maxRecDepth 100000 in
theorem ins_tiny (lf sf : Fn) (la lb sa sb : Array Value) (n : Nat) (hn : n ≤ 1) (w : World) :
    Calls Try.prog 103 #[.agg #[.func lf la lb, .func sf sa sb], .int .i64 0, .int .i64 n] w fun e w' => e = .returned (.tuple #[]) ∧ Below w.heap.size w w' := by
  have hni : ¬ ((1 : Int) < (n : Int)) := by omega
  go_enter Try.func103, Try.ntmps103
  go_wp2_with fail
  go_loopw [6] (fun t wr => t = .int .i64 1 ∧ Below w.heap.size w wr) (fun t _ => 0)
  case atStart => exact ⟨rfl, (Below.refl _ _).alloc (Nat.le_refl _) _⟩
  case round =>
    obtain ⟨rfl, hb⟩ := hrel
    go_wp2_with fail
    go_end0
    exact ⟨rfl, hb⟩
set_option maxHeartbeats 4000000 in
set_option maxRecDepth 100000 in
theorem pdq_tiny (lf sf : Fn) (la lb sa sb : Array Value) (n lim : Nat) (hn : n ≤ 1) (w : World) :
    Calls Try.prog 90 #[.agg #[.func lf la lb, .func sf sa sb], .int .i64 0, .int .i64 n, .int .i64 lim] w fun e w' => e = .returned (.tuple #[]) ∧ Below w.heap.size w w' := by
  have cI := fun w => Lib.hid (ins_tiny lf sf la lb sa sb n hn w)
  have hni : (n : Int) ≤ 12 := by omega
  go_enter Try.func90, Try.ntmps90
  go_wp2_with fail
  refine wp_loop_rounds 1 ?_
  rw [rounds_succ]
  go_wp2_with (first | (go_at_call 103; (with_reducible refine (cI _).out.mono ?_); rintro e w1 ⟨rfl, hb1⟩))
  refine bodyPost_ret (v := .tuple #[]) (results_none Try.results90 _ _ _) rfl ?_
  exact ⟨rfl, ((Below.refl _ _).alloc (Nat.le_refl _) _).trans (hb1.mono (by simp))⟩
theorem slice_tiny (p : Option Addr) (n c : Nat) (hn : n ≤ 1) (lf : Fn) (la lb : Array Value) (w : World) :
    Calls Try.prog 74 #[.iface 38 (.slice p n c), .func lf la lb] w fun e w' => e = .returned (.tuple #[]) ∧ Below w.heap.size w w' := by
  have hb := sliceW_below p n c w
  rcases (by omega : n = 0 ∨ n = 1) with rfl | rfl
  · exact slice_of_pdq p 0 c (by omega) 1 _ (by kernel_rfl) find1 #[] rfl lf la lb w _ (fun lim _ => (pdq_tiny _ _ _ _ _ _ 0 lim (by omega) _).mono fun e w' h => ⟨h.1, hb.trans (h.2.mono hb.size)⟩)
  · exact slice_of_pdq p 1 c (by omega) 2 _ (by kernel_rfl) find2 #[] rfl lf la lb w _ (fun lim _ => (pdq_tiny _ _ _ _ _ _ 1 lim (by omega) _).mono fun e w' h => ⟨h.1, hb.trans (h.2.mono hb.size)⟩)
end Sq
end Mt
end Go.Proofs.Ytkejjiohkhlnnaa
