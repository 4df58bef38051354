/-
  What Try does, whatever the function does that it is handed.
-/
import Derived.Test.YtgodidoibcomcaaBTryDef
import Derived.Deep.Cut
import Derived.Deep.DeepCutAuto
namespace Go.Proofs.Ytgodidoibcomcaa.Bk
open Go.RowKit Go.Proofs.Ytgodidoibcomcaa

theorem Env.tail {w0 : World} {τ : Own} {w : World} {S : List Ent} {L : List RSl} {C : List Box} {x : Box} (E : Env w0 τ w S L (x :: C)) : Env w0 τ w S L C :=
  ⟨E.fresh, E.old, E.below, E.st, E.rows, fun z hz => E.boxes z (List.mem_cons_of_mem _ hz), (List.nodup_cons.1 E.keys).2⟩
theorem Env.low {w0 : World} {τ : Own} {w : World} {S : List Ent} {L : List RSl} {C : List Box} {s : Nat} (E : Env w0 τ w S L C) (h0 : s ≠ boxS) (o : Obj) :
    Env w0 (adopted s .lows w.heap.size (w.alloc o).heap.size τ) (w.alloc o) S L C ∧ adopted s .lows w.heap.size (w.alloc o).heap.size τ w.heap.size = some (s, .lows) ∧ (w.alloc o).heap[w.heap.size]? = some o := by
  have hz : (w.alloc o).heap.size = w.heap.size + 1 := by simp
  have T := box_turn E.fresh s .lows o
  obtain ⟨h1, h2, h3, h4, h5⟩ := E.turned T (.inl h0)
  exact ⟨⟨h1, h2, h3, fun z hz => (E.st z hz).idle T (fun _ h => h), h4, h5, E.keys⟩, adopted_in (Nat.le_refl _) (by omega), (MapKept.heap_alloc w o).1⟩

/-- what the function that Try is handed does, at whatever further variables -/
def TryFn (w0 : World) (s sb : Nat) (ar : List Int) (rows : List (Row × Int)) (ls : List (Nat × Int)) (n : Nat) (S : List Ent) (L : List RSl) (C : List Box) (F : Nat) (caps : Array Value)
    (P : Bool → List (Row × Int) → List (Nat × Int) → Nat → Nat → List Ent → List RSl → List Box → Prop) : Prop :=
  ∀ (τ1 : Own) (w1 : World) (b5 : Nat) (X : List Box), Env w0 τ1 w1 (⟨s, sb, ar, rows, ls ++ [(b5, (rows.length : Int))], n⟩ :: S) L (X ++ C) →
    Calls Try.prog F caps w1 fun e w2 => ∃ (say : Bool) (τ2 : Own) (rows2 : List (Row × Int)) (ls2 : List (Nat × Int)) (k n2 : Nat) (S2 : List Ent) (L2 : List RSl) (C2 : List Box), e = .returned (.bool say) ∧ Env w0 τ2 w2 (⟨s, sb, ar, rows2, ls2 ++ [(b5, (k : Int))], n2⟩ :: S2) L2 (X ++ C2) ∧ ls2.length = ls.length ∧ k ≤ rows2.length ∧ n2 ≤ 100000000000 ∧ (∀ z ∈ S2, z.s ≠ s) ∧ (∀ z ∈ S2, z.s ≠ boxS) ∧ P say rows2 ls2 k n2 S2 L2 C2

/-- what Try leaves -/
def TryEnd (w0 : World) (s sb : Nat) (ar : List Int) (ls : List (Nat × Int)) (P : Bool → List (Row × Int) → List (Nat × Int) → Nat → Nat → List Ent → List RSl → List Box → Prop) (e : Ending) (w' : World) : Prop :=
  ∃ (say : Bool) (τ' : Own) (rows2 : List (Row × Int)) (ls2 : List (Nat × Int)) (k n2 : Nat) (S2 : List Ent) (L2 : List RSl) (C2 : List Box), e = .returned (.bool say) ∧ Env w0 τ' w' (⟨s, sb, ar, if say then rows2 else rows2.take k, if say then ls2 else lowMix k ls2.length ls2, n2⟩ :: S2) L2 C2 ∧ ls2.length = ls.length ∧ k ≤ rows2.length ∧ (∀ z ∈ S2, z.s ≠ s) ∧ (∀ z ∈ S2, z.s ≠ boxS) ∧ P say rows2 ls2 k n2 S2 L2 C2

set_option linter.unusedSimpArgs false in
set_option maxHeartbeats 8000000 in
set_option maxRecDepth 8000 in
theorem env_try {w0 : World} {τ : Own} {w : World} {S : List Ent} {L : List RSl} {C : List Box} {s sb : Nat} {ar : List Int} {rows : List (Row × Int)} {ls : List (Nat × Int)} {n : Nat}
    (E : Env w0 τ w (⟨s, sb, ar, rows, ls, n⟩ :: S) L C) (h0 : s ≠ boxS) (hr : s < refS) (hne : ∀ z ∈ S, z.s ≠ s) (hll : ls.length ≤ 100000000000) (F : Nat) (caps : Array Value)
    {P : Bool → List (Row × Int) → List (Nat × Int) → Nat → Nat → List Ent → List RSl → List Box → Prop} (hcf : ∀ w : World, (callFunc F caps).run Try.prog w = .ok (.enter F caps) w) (hf : TryFn w0 s sb ar rows ls n S L C F caps P) :
    Calls Try.prog 23 #[.pointer (some ⟨sb, 0, none⟩), .func (.func F) #[] caps] w (TryEnd w0 s sb ar ls P) := by
  obtain ⟨W1, hW1⟩ : ∃ W, W = w.alloc (.cells #[.pointer (some ⟨sb, 0, none⟩)] 25) := ⟨_, rfl⟩
  obtain ⟨b2, hb2⟩ : ∃ b, b = w.heap.size := ⟨_, rfl⟩
  obtain ⟨τ1, E1⟩ : ∃ τ1, Env w0 τ1 W1 (⟨s, sb, ar, rows, ls, n⟩ :: S) L ((b2, .cells #[.pointer (some ⟨sb, 0, none⟩)] 25) :: C) := ⟨_, by rw [hW1, hb2]; exact E.box _⟩
  obtain ⟨W2, hW2⟩ : ∃ W, W = W1.alloc (.cells #[.bool false] 4) := ⟨_, rfl⟩
  obtain ⟨b4, hb4⟩ : ∃ b, b = W1.heap.size := ⟨_, rfl⟩
  obtain ⟨τ2, E2⟩ : ∃ τ2, Env w0 τ2 W2 (⟨s, sb, ar, rows, ls, n⟩ :: S) L ((b4, .cells #[.bool false] 4) :: (b2, .cells #[.pointer (some ⟨sb, 0, none⟩)] 25) :: C) := ⟨_, by rw [hW2, hb4]; exact E1.box _⟩
  obtain ⟨σ, h1, h2, h3, h4, h, hs2⟩ := (E2.st _ (List.mem_cons_self ..)).1 hr
  simp only at h1 h2 h3 h4 hs2
  obtain ⟨W3, hW3⟩ : ∃ W, W = W2.alloc (.cells #[.int .i64 (rows.length : Int)] 3) := ⟨_, rfl⟩
  obtain ⟨b5, hb5⟩ : ∃ b, b = W2.heap.size := ⟨_, rfl⟩
  obtain ⟨τ3, E3, t5, k5, hs3⟩ : ∃ τ3, Env w0 τ3 W3 (⟨s, sb, ar, rows, ls, n⟩ :: S) L ((b4, .cells #[.bool false] 4) :: (b2, .cells #[.pointer (some ⟨sb, 0, none⟩)] 25) :: C) ∧ τ3 b5 = some (s, .lows) ∧ W3.heap[b5]? = some (.cells #[.int .i64 (rows.length : Int)] 3 (0, 0)) ∧ StoreAt s sb σ h τ3 W3 := by
    rw [hW3, hb5]
    obtain ⟨q1, q2, q3⟩ := E2.low h0 (.cells #[.int .i64 (rows.length : Int)] 3)
    exact ⟨_, q1, q2, q3, hs2.kept (box_turn E2.fresh s .lows _) (.inr fun _ h => h)⟩
  obtain ⟨W4, hW4⟩ : ∃ W, W = W3.alloc (.cells #[.int .i64 (ls.length : Int)] 3) := ⟨_, rfl⟩
  obtain ⟨b6, hb6⟩ : ∃ b, b = W3.heap.size := ⟨_, rfl⟩
  obtain ⟨τ4, E4, t5, k5, hs4⟩ : ∃ τ4, Env w0 τ4 W4 (⟨s, sb, ar, rows, ls, n⟩ :: S) L ((b6, .cells #[.int .i64 (ls.length : Int)] 3) :: (b4, .cells #[.bool false] 4) :: (b2, .cells #[.pointer (some ⟨sb, 0, none⟩)] 25) :: C) ∧ τ4 b5 = some (s, .lows) ∧ W4.heap[b5]? = some (.cells #[.int .i64 (rows.length : Int)] 3 (0, 0)) ∧ StoreAt s sb σ h τ4 W4 := by
    have hlt := (Array.getElem?_eq_some_iff.1 k5).1
    rw [hW4, hb6]
    exact ⟨_, E3.box _, by rw [adopted_out (by omega)]; exact t5, (Below.heap_alloc W3 _ b5 hlt).trans k5, hs3.kept (box_turn E3.fresh boxS .still _) (.inr fun _ h => h)⟩
  have hnew : ∀ y ∈ σ.lows, y.1 ≠ b5 := fun y hy e => by
    have := (Array.getElem?_eq_some_iff.1 (hs2.lows.2.2.1 y hy).2.1).1
    omega
  have hnb : h.vL.ownBlock ≠ some b5 := fun e => by
    have := (hs2.lows.1.lt b5 e).2
    omega
  have hp := fun (wA w2 : World) (v' : Value) => hs4.pushLow (wA := wA) (w2 := w2) (v' := v') t5 k5 hnb hnew
  have HSt := Lib.hid hs4
  obtain ⟨c2, f2⟩ := E2.cell (k := 1) rfl (j := 0) rfl
  obtain ⟨c4, f4⟩ := E2.cell (k := 0) rfl (j := 0) rfl
  simp only [List.getElem_toArray, List.getElem_cons_zero] at c2 c4
  obtain ⟨aR, cR, hvR, _⟩ := hs2.vR
  have c1 := hs2.head.cells.2.1
  rw [hvR, show σ.rows.length = rows.length from by rw [h2.1, List.length_map]] at c1
  have c72 := hs2.head.cells.2.2.2.2.2.2.2
  have c7 := hs4.head.cells.2.2.2.2.2.2.2
  have fz := hs4.head.frozen 7
  have hoL := hs4.lows.1
  obtain ⟨aL, cL, hL⟩ := hs4.lows.form
  rw [h3] at hL hoL hp hnew
  rw [hL] at hoL hp
  have c7a : (W4.alloc (.cells #[.pointer (some ⟨b5, 0, none⟩)] 86)).cell? ⟨sb, 7, none⟩ = some h.vL := on_cell ((Below.refl _ _).alloc (Nat.le_refl _) _) c7
  have HL := Lib.hid hL
  have HPush := Lib.hid hp
  have hr2 : h.vL.ownBlock ≠ some b2 := fun e => by
    have q1 := hs4.lows.2.1 b2 e
    have q2 := (E4.boxes (b2, .cells #[.pointer (some ⟨sb, 0, none⟩)] 25) (by simp)).1
    simp only at q2
    rw [q1] at q2
    simp at q2
  have hrs : h.vL.ownBlock ≠ some sb := fun e => by
    have q1 := hs4.lows.2.1 sb e
    rw [hs4.mine] at q1
    cases q1
  have ns2 : ¬ sb = b2 := fun e => by
    have q2 := (E4.boxes (b2, .cells #[.pointer (some ⟨sb, 0, none⟩)] 25) (by simp)).1
    simp only at q2
    rw [← e, hs4.mine] at q2
    simp at q2
  have hfin : ∀ (h' : Hd) (τ5 : Own) (w5 : World), StoreAt s sb (σ.withLows (ls ++ [(b5, (rows.length : Int))])) h' τ5 w5 → Turn s (fun _ => True) τ4 τ5 W4 w5 → Env w0 τ5 w5 (⟨s, sb, ar, rows, ls ++ [(b5, (rows.length : Int))], n⟩ :: S) L ((b6, .cells #[.int .i64 (ls.length : Int)] 3) :: (b4, .cells #[.bool false] 4) :: (b2, .cells #[.pointer (some ⟨sb, 0, none⟩)] 25) :: C) := fun h' τ5 w5 q T => E4.turn T h0 (.of hr ⟨σ.withLows (ls ++ [(b5, (rows.length : Int))]), h1, h2, rfl, h4, h', q⟩) hne
  have HFin := Lib.hid hfin
  have c23 := (E3.cell (k := 1) rfl (j := 0) rfl).1
  have c24 := (E4.cell (k := 2) rfl (j := 0) rfl).1
  simp only [List.getElem_toArray, List.getElem_cons_zero] at c23 c24
  have c73 := hs3.head.cells.2.2.2.2.2.2.2
  have HW2 := Lib.hid hW2
  have HW1 := Lib.hid hW1
  have HW3 := Lib.hid hW3
  have HW4 := Lib.hid hW4
  have HB2 := Lib.hid hb2
  have HB4 := Lib.hid hb4
  have HB5 := Lib.hid hb5
  have HB6 := Lib.hid hb6
  rw [hL] at c72 c73 c7 c7a hr2 hrs
  clear hp hfin hs2 hs3 hs4 E1 E2 E3 E4 h1 h2 h3 h4 hvR hL hW1 hW2 hW3 hW4 hb2 hb4 hb5 hb6 k5 t5 hnew hnb E c72
  have hmf : ∀ (fn : Fn) (first cap : Array Value) (w : World), (Instr.makeFunc fn first cap).run Try.prog w = .ok (.func fn first cap) w := fun _ _ _ _ => rfl
  go_enter_defers Try.func23, Try.ntmps23
  go_upto_region 1 with fail
  rw [← HW1.out, ← HW2.out, ← HB2.out, show b2 + 1 = b4 from by rw [HB2.out, HB4.out, HW1.out]; simp]
  have hnf : ∀ w : World, (binOp .eql 47 (.func (.func F) #[] caps) .nilFunc).run Try.prog w = .ok (.bool false) w := fun w => by kernel_rfl
  go_upto_region 4 with fail
  rw [← HW3.out, ← HB5.out]
  go_upto_region 5 with fail
  rw [← HW4.out, ← HB6.out]
  go_cut [] from 23 to 31 (fun wx => Hid (∃ τ5, Env w0 τ5 wx (⟨s, sb, ar, rows, ls ++ [(b5, (rows.length : Int))], n⟩ :: S) L ((b6, .cells #[.int .i64 (ls.length : Int)] 3) :: (b4, .cells #[.bool false] 4) :: (b2, .cells #[.pointer (some ⟨sb, 0, none⟩)] 25) :: C)))
  case first =>
    have c2 := c24
    clear c24 c23 c73 c4 f4 c1 f2
    refine wp_region_noPanic ?_
    refine wp_region_held_drew (S := (fun w' => w'.cell? ⟨b2, 0, none⟩ = some (.pointer (some ⟨sb, 0, none⟩)))) (by kernel_rfl) ?_ (fun hHeld => ?_)
    · first | assumption | exact c2 | go_keep
    refine wpAnyH_take (i := 0) (oi := _) (v := (.pointer (some ⟨sb, 0, none⟩))) rfl (by kernel_rfl) (by kernel_rfl) (by kernel_rfl) (fun _ _ _ h => h) (Or.inl ⟨by rfl, ?_⟩) (by assumption) ?_
    · intro w hSw
      (try dsimp only at hSw)
      go_simp
    (try simp only [Act.put, List.setIfInBounds_toArray, List.set_cons_zero, List.set_cons_succ])
    refine wpAnyH_take (i := 1) (oi := _) (v := (.pointer (some ⟨sb, 0, none⟩))) rfl (by kernel_rfl) (by kernel_rfl) (by kernel_rfl) (fun _ _ _ h => h) (Or.inl ⟨by rfl, ?_⟩) (by assumption) ?_
    · intro w hSw
      (try dsimp only at hSw)
      go_simp
    (try simp only [Act.put, List.setIfInBounds_toArray, List.set_cons_zero, List.set_cons_succ])
    refine wpAnyH_take (i := 2) (oi := _) (v := (.pointer (some ⟨sb, 0, none⟩))) rfl (by kernel_rfl) (by kernel_rfl) (by kernel_rfl) (fun _ _ _ h => h) (Or.inl ⟨by rfl, ?_⟩) (by assumption) ?_
    · intro w hSw
      (try dsimp only at hSw)
      go_simp
    (try simp only [Act.put, List.setIfInBounds_toArray, List.set_cons_zero, List.set_cons_succ])
    refine wpAnyH_take (i := 3) (oi := _) (v := (.pointer (some ⟨sb, 7, none⟩))) rfl (by kernel_rfl) (by kernel_rfl) (by kernel_rfl) (fun _ _ _ h => h) (Or.inl ⟨by rfl, ?_⟩) (by assumption) ?_
    · intro w hSw
      (try dsimp only at hSw)
      go_simp
    (try simp only [Act.put, List.setIfInBounds_toArray, List.set_cons_zero, List.set_cons_succ])
    refine wpAnyH_ready (rs := [4, 5]) (by kernel_rfl) (by simp) ?_
    refine AllReadyH.cons (o := _) rfl (fun K hK => ?_) ?_
    · go_simp
      refine hK.out _ _ ?_ (fun hHeld => ?_)
      · first | assumption | exact hHeld | go_keep
      clear hK K
      (try simp only [Act.put, List.setIfInBounds_toArray, List.set_cons_zero, List.set_cons_succ])
      refine wpAnyH_ready (rs := [5]) (by kernel_rfl) (by simp) ?_
      refine AllReadyH.cons (o := _) rfl (fun K hK => ?_) ?_
      · go_simp
        refine hK.out _ _ ?_ (fun hHeld => ?_)
        · first | assumption | exact hHeld | go_keep
        clear hK K
        (try simp only [Act.put, List.setIfInBounds_toArray, List.set_cons_zero, List.set_cons_succ])
        refine wpAnyH_ready (rs := [6]) (by kernel_rfl) (by simp) ?_
        refine AllReadyH.cons (o := _) rfl (fun K hK => ?_) ?_
        · refine step_append_any elemPtr _ rfl _ _ rfl 0 _ ls.length (ls.map (fun x => Value.pointer (some ⟨x.1, 0, none⟩))) rfl (by exact hoL.alloc (.cells #[.pointer (some ⟨b5, 0, none⟩)] 86)) (some ⟨W4.heap.size, 0, none⟩) 1 1 [.pointer (some ⟨b5, 0, none⟩)] rfl (by exact source_new W4 [.pointer (some ⟨b5, 0, none⟩)] 86) rfl (by simp [Value.oneCell']) (by unfold maxLen; omega) (by omega) (by simp) ?_
          intro v' w2 hown2 hgrow hblk
          obtain ⟨g', cap', rfl⟩ := owns_slice hown2
          have hgrow2 : (W4.alloc (.cells #[.pointer (some ⟨b5, 0, none⟩)] 86)).grownBy w2 (Value.slice aL ls.length cL).ownBlock := by first | exact hgrow | exact undrew hgrow
          have hblk2 : (Value.slice (some ⟨g', 0, none⟩) (ls.length + 1) cap').ownBlock = (Value.slice aL ls.length cL).ownBlock ∨ (Value.slice (some ⟨g', 0, none⟩) (ls.length + 1) cap').ownBlock = some (W4.alloc (.cells #[.pointer (some ⟨b5, 0, none⟩)] 86)).heap.size := hblk
          clear hgrow hblk
          have hbA : Below W4.heap.size W4 (W4.alloc (.cells #[.pointer (some ⟨b5, 0, none⟩)] 86)) := (Below.refl _ _).alloc (Nat.le_refl _) _
          have d2 : w2.cell? ⟨b2, 0, none⟩ = some (.pointer (some ⟨sb, 0, none⟩)) := hgrow2.cell (on_cell hbA c2) (fun e => hr2 e.symm)
          have d7 := hgrow2.cell (on_cell hbA c7) (fun e => hrs e.symm)
          have kf : w2.frozen? ⟨sb, 7, none⟩ = false := (World.frozen?_of_block (w := W4) ((hgrow2.block sb (by rw [asz]; have := World.block_lt_of_cell? _ _ c7; simp only at this; omega) (fun e => hrs e.symm)).trans (Below.heap_alloc W4 _ sb (World.block_lt_of_cell? _ _ c7)))).trans fz
          obtain ⟨τ5, h5, T5⟩ := HPush.out _ _ _ hbA hown2 hgrow2 hblk2
          refine hK.out _ _ ?_ (fun hHeld => ?_)
          · exact d2
          clear hK K
          (try simp only [Act.put, List.setIfInBounds_toArray, List.set_cons_zero, List.set_cons_succ])
          refine wpAnyH_take (i := 7) (oi := _) (v := (.pointer (some ⟨sb, 0, none⟩))) rfl (by kernel_rfl) (by kernel_rfl) (by kernel_rfl) (fun _ _ _ h => h) (Or.inl ⟨by rfl, ?_⟩) (by assumption) ?_
          · intro w hSw
            (try dsimp only at hSw)
            go_simp
          (try simp only [Act.put, List.setIfInBounds_toArray, List.set_cons_zero, List.set_cons_succ])
          refine wpAnyH_take (i := 8) (oi := _) (v := (.pointer (some ⟨sb, 7, none⟩))) rfl (by kernel_rfl) (by kernel_rfl) (by kernel_rfl) (fun _ _ _ h => h) (Or.inl ⟨by rfl, ?_⟩) (by assumption) ?_
          · intro w hSw
            (try dsimp only at hSw)
            go_simp
          (try simp only [Act.put, List.setIfInBounds_toArray, List.set_cons_zero, List.set_cons_succ])
          refine wpAnyH_ready (rs := [9]) (by kernel_rfl) (by simp) ?_
          refine AllReadyH.cons (o := _) rfl (fun K hK => ?_) ?_
          · go_simp
            refine hK.out _ _ ?_ (fun hHeld => ?_)
            · exact (World.cell?_setCell_far _ _ _ _ ns2).trans d2
            clear hK K
            (try simp only [Act.put, List.setIfInBounds_toArray, List.set_cons_zero, List.set_cons_succ])
            refine wpAnyH_done (by kernel_rfl) ?_ _
            refine NoPanic.normal ?_
            go_wp2_with fail
            go_meet
            case rel => exact Lib.hid ⟨τ5, HFin.out _ _ _ h5 T5⟩
          exact AllReadyH.nil
        exact AllReadyH.nil
      exact AllReadyH.nil
    refine AllReadyH.cons (o := _) rfl (fun K hK => ?_) ?_
    · go_simp
      refine hK.out _ _ ?_ (fun hHeld => ?_)
      · first | assumption | exact hHeld | go_keep
      clear hK K
      (try simp only [Act.put, List.setIfInBounds_toArray, List.set_cons_zero, List.set_cons_succ])
      refine wpAnyH_ready (rs := [4]) (by kernel_rfl) (by simp) ?_
      refine AllReadyH.cons (o := _) rfl (fun K hK => ?_) ?_
      · go_simp
        refine hK.out _ _ ?_ (fun hHeld => ?_)
        · first | assumption | exact hHeld | go_keep
        clear hK K
        (try simp only [Act.put, List.setIfInBounds_toArray, List.set_cons_zero, List.set_cons_succ])
        refine wpAnyH_ready (rs := [6]) (by kernel_rfl) (by simp) ?_
        refine AllReadyH.cons (o := _) rfl (fun K hK => ?_) ?_
        · refine step_append_any elemPtr _ rfl _ _ rfl 0 _ ls.length (ls.map (fun x => Value.pointer (some ⟨x.1, 0, none⟩))) rfl (by exact hoL.alloc (.cells #[.pointer (some ⟨b5, 0, none⟩)] 86)) (some ⟨W4.heap.size, 0, none⟩) 1 1 [.pointer (some ⟨b5, 0, none⟩)] rfl (by exact source_new W4 [.pointer (some ⟨b5, 0, none⟩)] 86) rfl (by simp [Value.oneCell']) (by unfold maxLen; omega) (by omega) (by simp) ?_
          intro v' w2 hown2 hgrow hblk
          obtain ⟨g', cap', rfl⟩ := owns_slice hown2
          have hgrow2 : (W4.alloc (.cells #[.pointer (some ⟨b5, 0, none⟩)] 86)).grownBy w2 (Value.slice aL ls.length cL).ownBlock := by first | exact hgrow | exact undrew hgrow
          have hblk2 : (Value.slice (some ⟨g', 0, none⟩) (ls.length + 1) cap').ownBlock = (Value.slice aL ls.length cL).ownBlock ∨ (Value.slice (some ⟨g', 0, none⟩) (ls.length + 1) cap').ownBlock = some (W4.alloc (.cells #[.pointer (some ⟨b5, 0, none⟩)] 86)).heap.size := hblk
          clear hgrow hblk
          have hbA : Below W4.heap.size W4 (W4.alloc (.cells #[.pointer (some ⟨b5, 0, none⟩)] 86)) := (Below.refl _ _).alloc (Nat.le_refl _) _
          have d2 : w2.cell? ⟨b2, 0, none⟩ = some (.pointer (some ⟨sb, 0, none⟩)) := hgrow2.cell (on_cell hbA c2) (fun e => hr2 e.symm)
          have d7 := hgrow2.cell (on_cell hbA c7) (fun e => hrs e.symm)
          have kf : w2.frozen? ⟨sb, 7, none⟩ = false := (World.frozen?_of_block (w := W4) ((hgrow2.block sb (by rw [asz]; have := World.block_lt_of_cell? _ _ c7; simp only at this; omega) (fun e => hrs e.symm)).trans (Below.heap_alloc W4 _ sb (World.block_lt_of_cell? _ _ c7)))).trans fz
          obtain ⟨τ5, h5, T5⟩ := HPush.out _ _ _ hbA hown2 hgrow2 hblk2
          refine hK.out _ _ ?_ (fun hHeld => ?_)
          · exact d2
          clear hK K
          (try simp only [Act.put, List.setIfInBounds_toArray, List.set_cons_zero, List.set_cons_succ])
          refine wpAnyH_take (i := 7) (oi := _) (v := (.pointer (some ⟨sb, 0, none⟩))) rfl (by kernel_rfl) (by kernel_rfl) (by kernel_rfl) (fun _ _ _ h => h) (Or.inl ⟨by rfl, ?_⟩) (by assumption) ?_
          · intro w hSw
            (try dsimp only at hSw)
            go_simp
          (try simp only [Act.put, List.setIfInBounds_toArray, List.set_cons_zero, List.set_cons_succ])
          refine wpAnyH_take (i := 8) (oi := _) (v := (.pointer (some ⟨sb, 7, none⟩))) rfl (by kernel_rfl) (by kernel_rfl) (by kernel_rfl) (fun _ _ _ h => h) (Or.inl ⟨by rfl, ?_⟩) (by assumption) ?_
          · intro w hSw
            (try dsimp only at hSw)
            go_simp
          (try simp only [Act.put, List.setIfInBounds_toArray, List.set_cons_zero, List.set_cons_succ])
          refine wpAnyH_ready (rs := [9]) (by kernel_rfl) (by simp) ?_
          refine AllReadyH.cons (o := _) rfl (fun K hK => ?_) ?_
          · go_simp
            refine hK.out _ _ ?_ (fun hHeld => ?_)
            · exact (World.cell?_setCell_far _ _ _ _ ns2).trans d2
            clear hK K
            (try simp only [Act.put, List.setIfInBounds_toArray, List.set_cons_zero, List.set_cons_succ])
            refine wpAnyH_done (by kernel_rfl) ?_ _
            refine NoPanic.normal ?_
            go_wp2_with fail
            go_meet
            case rel => exact Lib.hid ⟨τ5, HFin.out _ _ _ h5 T5⟩
          exact AllReadyH.nil
        exact AllReadyH.nil
      exact AllReadyH.nil
    exact AllReadyH.nil
  case rest =>
    obtain ⟨τ5, E5⟩ := hcut.out
    have cF := Lib.hid (hf τ5 wc b5 [(b6, .cells #[.int .i64 (ls.length : Int)] 3), (b4, .cells #[.bool false] 4), (b2, .cells #[.pointer (some ⟨sb, 0, none⟩)] 25)] E5)
    clear E5 hcut c24 c23 c73 c4 f4 c1 f2 c2 c7 fz hoL hr2 hrs HPush HFin HSt k5 t5 HL
    go_wp2_with fail
    with_reducible refine cF.out.mono ?_
    rintro e w6 ⟨say, τ6, rows2, ls2, k, n2, S2, L2, C2, rfl, E6, hl6, hk6, hn6, hne6, hbx6, hP6⟩
    obtain ⟨d4, f4⟩ := E6.cell (k := 1) rfl (j := 0) rfl
    have E7 := E6.setBox (fun z hz => by
      rcases List.mem_cons.1 hz with rfl | hz
      · exact h0
      · exact hbx6 z hz) (k := 1) (b := b4) (cs := #[.bool false]) (T := 4) (fr := (0, 0)) rfl 0 (.bool say)
    have HE7 := Lib.hid (show Env w0 τ6 (w6.setCell ⟨b4, 0, none⟩ (.bool say)) (⟨s, sb, ar, rows2, ls2 ++ [(b5, (k : Int))], n2⟩ :: S2) L2 ([(b6, .cells #[.int .i64 (ls2.length : Int)] 3), (b4, .cells #[.bool say] 4), (b2, .cells #[.pointer (some ⟨sb, 0, none⟩)] 25)] ++ C2) from by rw [hl6]; exact E7)
    have HP6 := Lib.hid hP6
    have HL6 := Lib.hid hl6
    clear E6 E7 cF hP6 hl6
    go_wp2_with fail
    refine leaves_cons (f := 48) (args := #[.pointer (some ⟨b4, 0, none⟩), .pointer (some ⟨b2, 0, none⟩), .pointer (some ⟨b6, 0, none⟩), .pointer (some ⟨b5, 0, none⟩)]) (by simp) (by simp [go_sem]) ?_
    refine (trydef_any (n := n2) (k := k) (i2 := 2) (i4 := 1) (i6 := 0) say HE7.out h0 hr hne6 hk6 hn6 rfl rfl rfl).mono ?_
    rintro e u' w8 ⟨rfl, rfl, τ8, E8⟩
    have d8 := (E8.cell (k := 1) rfl (j := 0) rfl).1
    simp only [List.getElem_toArray, List.getElem_cons_zero] at d8
    have HE8 := Lib.hid E8.tail.tail.tail
    clear E8 HE7
    simp [Leaves, settle, results, Try.results23, go_sem, d8]
    exact ⟨say, τ8, rows2, ls2, k, n2, S2, L2, C2, rfl, HE8.out, HL6.out, hk6, hne6, hbx6, HP6.out⟩
end Go.Proofs.Ytgodidoibcomcaa.Bk
