/-
  Copy of the document's store: a second one with the same rows and times, of an owner of its own.
-/
import Derived.Test.YtgodidoibcomcaaRAdd
namespace Go.Proofs.Ytgodidoibcomcaa
open Go.RowKit

/-- the owners behind a copy's head: its arities are still, its times .num, the last block the head -/
def copyRef (s lo mid n : Nat) (τ : Own) : Own := fun j => if j < lo then τ j else if j < mid then some (s, .still) else if j < n then some (s, .num) else if j = n then some (s, .head) else none

theorem rcopy_store {s : Nat} {τ : Own} {w V1 V2 : World} {ar born : List Int} {clock : Nat} {a : Option Addr} {c : Nat} {vb : Value} (hb1 : Below w.heap.size w V1) (hi : IntsZ (fun j => w.heap.size ≤ j) V1 a c ar) (hb2 : Below V1.heap.size V1 V2) (ob : V2.ownsRow V1.heap.size 3 1 vb born.length (born.map (Value.int .i64))) :
    let W := V2.alloc (.cells #[.slice a ar.length c, .slice none 0 0, vb, .int .i64 (clock : Int)] 104)
    RefP s V2.heap.size ar [] born clock (copyRef s w.heap.size V1.heap.size V2.heap.size τ) W a c (.slice none 0 0) vb ∧ Turn s (fun _ => False) τ (copyRef s w.heap.size V1.heap.size V2.heap.size τ) w W := by
  intro W
  have s1 := hb1.size
  have s2 := hb2.size
  have s4 : W.heap.size = V2.heap.size + 1 := by show (World.alloc _ _).heap.size = _; rw [asz]
  have hB : Below w.heap.size w W := (hb1.trans (hb2.mono s1)).alloc (by omega) _
  have b2 : Below V2.heap.size V2 W := (Below.refl _ _).alloc (Nat.le_refl _) _
  have hS : W.heap[V2.heap.size]? = some (.cells #[.slice a ar.length c, .slice none 0 0, vb, .int .i64 (clock : Int)] 104 (0, 0)) := (MapKept.heap_alloc V2 _).1
  have fresh : Fresh (copyRef s w.heap.size V1.heap.size V2.heap.size τ) W := fun j hj => by
    unfold copyRef
    rw [if_neg (by omega), if_neg (by omega), if_neg (by omega), if_neg (by omega)]
  have tS : copyRef s w.heap.size V1.heap.size V2.heap.size τ V2.heap.size = some (s, .head) := by unfold copyRef; rw [if_neg (by omega), if_neg (by omega), if_neg (by omega), if_pos rfl]
  have hT : Turn s (fun _ => False) τ (copyRef s w.heap.size V1.heap.size V2.heap.size τ) w W := ⟨hB.os, hB.tape, hB.output, hB.size, fun j hj _ => hB.block j hj, fun j hj => by unfold copyRef; rw [if_pos hj], (fun j hj s' r e => by
    unfold copyRef at e
    rw [if_neg (by omega)] at e
    repeat' split at e
    all_goals first | (cases e; rfl) | cases e), fresh⟩
  refine ⟨⟨fresh, tS, hS, ?_, ⟨[], World.ownsRow_nil _ _ _ _, (fun g e => by cases e), RowCells.nil _ _⟩, ⟨?_, fun g e => ?_⟩⟩, hT⟩
  · refine hi.keep (fun j hj _ => (b2.block j (by omega)).trans (hb2.block j hj)) (fun j hj hz => ?_)
    have hz : w.heap.size ≤ j := hz
    show copyRef s w.heap.size V1.heap.size V2.heap.size τ j = _
    unfold copyRef
    rw [if_neg (by omega), if_pos hj]
  · exact owns_low (owns_block ob (fun g e => b2.block g (ob.lt g e).2)) (Nat.zero_le _)
  · obtain ⟨h1, h2⟩ := ob.lt g e
    unfold copyRef
    rw [if_neg (by omega), if_neg (by omega), if_pos h2]

/-- what Copy leaves -/
def RCopyEnd (s' : Nat) (ρ : Rf) (τ : Own) (w : World) (e : Ending) (w' : World) : Prop := ∃ cb τ', e = .returned (.pointer (some ⟨cb, 0, none⟩)) ∧ IsRef s' cb ρ τ' w' ∧ Turn s' (fun _ => True) τ τ' w w'

set_option linter.unusedSimpArgs false in
set_option maxHeartbeats 8000000 in
set_option maxRecDepth 8000 in
theorem rcopy_any {s s' rb : Nat} {ρ : Rf} {τ : Own} {w : World} (hs : IsRef s rb ρ τ w) (hne : s ≠ s') :
    Calls Try.prog 61 #[.pointer (some ⟨rb, 0, none⟩)] w (RCopyEnd s' ρ τ w) := by
  obtain ⟨aA, cA, vL, vB, hs⟩ := hs
  have hfr := hs.fresh
  have hm := hs.many
  have hln := hs.len
  have hpr := hs.preds
  obtain ⟨k0, k1, k2, k3, k4⟩ := hs.cells
  obtain ⟨aB, cB, rfl, hIB⟩ := intsZ_of_row hs.born.1
  obtain ⟨aL, cL, rfl, _⟩ := hs.listZ
  have cI1 := Lib.hid (fun (W : World) (hW : Below w.heap.size w W) => rints_own aA cA ρ.ar W (hs.ar.below hW (Nat.le_refl _)).ints (by omega))
  have cI2 := Lib.hid (fun (W : World) (hW : Below w.heap.size w W) => rints_own aB cB ρ.born W (hIB.below hW (Nat.le_refl _)).ints (by omega))
  have HS := Lib.hid hs
  clear hs k1 hIB hln
  go_enter Try.func61, Try.ntmps61
  go_upto_region 1 with fail
  obtain ⟨V1, hV1⟩ : ∃ V, V = w.drew := ⟨_, rfl⟩
  have hB1 : Below w.heap.size w V1 := by rw [hV1]; exact (Below.refl _ _).drew
  refine wp_region_noPanic ?_
  refine wp_region_held_drew (S := (fun w' => w'.cell? ⟨rb, 0, none⟩ = some (.slice aA ρ.ar.length cA) ∧ w'.cell? ⟨rb, 2, none⟩ = some (.slice aB ρ.born.length cB) ∧ w'.cell? ⟨rb, 3, none⟩ = some (.int .i64 (ρ.clock : Int)))) (by kernel_rfl) ?_ (fun hHeld => ?_)
  · rw [← hV1]; exact ⟨on_cell hB1 k0, on_cell hB1 k2, on_cell hB1 k3⟩
  rw [← hV1] at hHeld ⊢
  clear hV1
  refine wpAnyH_take (i := 0) (oi := ⟨some 5, _, _, _, _, _⟩) (v := ?_) rfl (by kernel_rfl) (by kernel_rfl) (by kernel_rfl) (fun _ _ _ h => h) (Or.inl ⟨by rfl, ?_⟩) (by assumption) ?_
  rotate_left 1
  · intro w hSw
    (try dsimp only at hSw)
    go_simp
    all_goals with_reducible rfl
  (try simp only [Act.put, List.setIfInBounds_toArray, List.set_cons_zero, List.set_cons_succ])
  refine wpAnyH_take (i := 1) (oi := ⟨some 6, _, _, _, _, _⟩) (v := ?_) rfl (by kernel_rfl) (by kernel_rfl) (by kernel_rfl) (fun _ _ _ h => h) (Or.inl ⟨by rfl, ?_⟩) (by assumption) ?_
  rotate_left 1
  · intro w hSw
    (try dsimp only at hSw)
    go_simp
    all_goals with_reducible rfl
  (try simp only [Act.put, List.setIfInBounds_toArray, List.set_cons_zero, List.set_cons_succ])
  refine wpAnyH_take (i := 2) (oi := ⟨some 7, _, _, _, _, _⟩) (v := ?_) rfl (by kernel_rfl) (by kernel_rfl) (by kernel_rfl) (fun _ _ _ h => h) (Or.inl ⟨by rfl, ?_⟩) (by assumption) ?_
  rotate_left 1
  · intro w hSw
    (try dsimp only at hSw)
    go_simp
    all_goals with_reducible rfl
  (try simp only [Act.put, List.setIfInBounds_toArray, List.set_cons_zero, List.set_cons_succ])
  refine wpAnyH_take (i := 3) (oi := ⟨some 8, _, _, _, _, _⟩) (v := ?_) rfl (by kernel_rfl) (by kernel_rfl) (by kernel_rfl) (fun _ _ _ h => h) (Or.inl ⟨by rfl, ?_⟩) (by assumption) ?_
  rotate_left 1
  · intro w hSw
    (try dsimp only at hSw)
    go_simp
    all_goals with_reducible rfl
  (try simp only [Act.put, List.setIfInBounds_toArray, List.set_cons_zero, List.set_cons_succ])
  refine wpAnyH_take (i := 5) (oi := ⟨some 10, _, _, _, _, _⟩) (v := ?_) rfl (by kernel_rfl) (by kernel_rfl) (by kernel_rfl) (fun _ _ _ h => h) (Or.inl ⟨by rfl, ?_⟩) (by assumption) ?_
  rotate_left 1
  · intro w hSw
    (try dsimp only at hSw)
    go_simp
    all_goals with_reducible rfl
  (try simp only [Act.put, List.setIfInBounds_toArray, List.set_cons_zero, List.set_cons_succ])
  refine wpAnyH_take (i := 6) (oi := ⟨some 11, _, _, _, _, _⟩) (v := ?_) rfl (by kernel_rfl) (by kernel_rfl) (by kernel_rfl) (fun _ _ _ h => h) (Or.inl ⟨by rfl, ?_⟩) (by assumption) ?_
  rotate_left 1
  · intro w hSw
    (try dsimp only at hSw)
    go_simp
    all_goals with_reducible rfl
  (try simp only [Act.put, List.setIfInBounds_toArray, List.set_cons_zero, List.set_cons_succ])
  refine wpAnyH_take (i := 7) (oi := ⟨some 12, _, _, _, _, _⟩) (v := ?_) rfl (by kernel_rfl) (by kernel_rfl) (by kernel_rfl) (fun _ _ _ h => h) (Or.inl ⟨by rfl, ?_⟩) (by assumption) ?_
  rotate_left 1
  · intro w hSw
    (try dsimp only at hSw)
    go_simp
    all_goals with_reducible rfl
  (try simp only [Act.put, List.setIfInBounds_toArray, List.set_cons_zero, List.set_cons_succ])
  refine wpAnyH_take (i := 8) (oi := ⟨some 13, _, _, _, _, _⟩) (v := ?_) rfl (by kernel_rfl) (by kernel_rfl) (by kernel_rfl) (fun _ _ _ h => h) (Or.inl ⟨by rfl, ?_⟩) (by assumption) ?_
  rotate_left 1
  · intro w hSw
    (try dsimp only at hSw)
    go_simp
    all_goals with_reducible rfl
  (try simp only [Act.put, List.setIfInBounds_toArray, List.set_cons_zero, List.set_cons_succ])
  refine wpAnyH_take (i := 10) (oi := ⟨some 15, _, _, _, _, _⟩) (v := ?_) rfl (by kernel_rfl) (by kernel_rfl) (by kernel_rfl) (fun _ _ _ h => h) (Or.inl ⟨by rfl, ?_⟩) (by assumption) ?_
  rotate_left 1
  · intro w hSw
    (try dsimp only at hSw)
    go_simp
    all_goals with_reducible rfl
  (try simp only [Act.put, List.setIfInBounds_toArray, List.set_cons_zero, List.set_cons_succ])
  refine wpAnyH_take (i := 11) (oi := ⟨some 16, _, _, _, _, _⟩) (v := ?_) rfl (by kernel_rfl) (by kernel_rfl) (by kernel_rfl) (fun _ _ _ h => h) (Or.inl ⟨by rfl, ?_⟩) (by assumption) ?_
  rotate_left 1
  · intro w hSw
    (try dsimp only at hSw)
    go_simp
    all_goals with_reducible rfl
  (try simp only [Act.put, List.setIfInBounds_toArray, List.set_cons_zero, List.set_cons_succ])
  refine wpAnyH_take (i := 12) (oi := ⟨some 17, _, _, _, _, _⟩) (v := ?_) rfl (by kernel_rfl) (by kernel_rfl) (by kernel_rfl) (fun _ _ _ h => h) (Or.inl ⟨by rfl, ?_⟩) (by assumption) ?_
  rotate_left 1
  · intro w hSw
    (try dsimp only at hSw)
    go_simp
    all_goals with_reducible rfl
  (try simp only [Act.put, List.setIfInBounds_toArray, List.set_cons_zero, List.set_cons_succ])
  refine wpAnyH_take (i := 13) (oi := ⟨some 18, _, _, _, _, _⟩) (v := ?_) rfl (by kernel_rfl) (by kernel_rfl) (by kernel_rfl) (fun _ _ _ h => h) (Or.inl ⟨by rfl, ?_⟩) (by assumption) ?_
  rotate_left 1
  · intro w hSw
    (try dsimp only at hSw)
    go_simp
    all_goals with_reducible rfl
  (try simp only [Act.put, List.setIfInBounds_toArray, List.set_cons_zero, List.set_cons_succ])
  refine wpAnyH_ready (rs := [4]) (by kernel_rfl) (by simp) ?_
  refine AllReadyH.cons (o := _) rfl (fun K hK => ?_) ?_
  · have cK := cI1.out _ hB1
    go_simp
    with_reducible refine cK.mono ?_
    rintro e V2 ⟨v2, rfl, hI2, hb2⟩
    obtain ⟨a2, c2, rfl, hZ2⟩ := intsZ_of_row hI2
    have HZ2 := Lib.hid (hZ2.zone (Z' := fun j => w.heap.size ≤ j) (fun j hj => Nat.le_trans hB1.size hj))
    clear hI2 hZ2
    have hB2 : Below w.heap.size w V2 := hB1.trans (hb2.mono hB1.size)
    have hq2 : Below V2.heap.size V2 V2 := Below.refl _ _
    refine hK.out _ _ ?_ (fun hHeld => ?_)
    · exact ⟨on_cell hB2 k0, on_cell hB2 k2, on_cell hB2 k3⟩
    clear hK K
    (try simp only [Act.put, List.setIfInBounds_toArray, List.set_cons_zero, List.set_cons_succ])
    refine wpAnyH_ready (rs := [9]) (by kernel_rfl) (by simp) ?_
    refine AllReadyH.cons (o := _) rfl (fun K hK => ?_) ?_
    · have cK := cI2.out _ hB2
      go_simp
      with_reducible refine cK.mono ?_
      rintro e V3 ⟨v3, rfl, hI3, hb3⟩
      obtain ⟨a3, c3, rfl⟩ := owns_shape hI3
      have HO3 := Lib.hid (owns_low hI3 (hq2.size))
      clear hI3
      have hB3 : Below w.heap.size w V3 := hB2.trans (hb3.mono hB2.size)
      have hq3 : Below V2.heap.size V2 V3 := hq2.trans (hb3.mono hq2.size)
      refine hK.out _ _ ?_ (fun hHeld => ?_)
      · exact ⟨on_cell hB3 k0, on_cell hB3 k2, on_cell hB3 k3⟩
      clear hK K
      (try simp only [Act.put, List.setIfInBounds_toArray, List.set_cons_zero, List.set_cons_succ])
      refine wpAnyH_take (i := 14) (oi := ⟨some 19, _, _, _, _, _⟩) (v := ?_) rfl (by kernel_rfl) (by kernel_rfl) (by kernel_rfl) (fun _ _ _ h => h) (Or.inl ⟨by rfl, ?_⟩) (by assumption) ?_
      rotate_left 1
      · intro w hSw
        (try dsimp only at hSw)
        go_simp
        all_goals with_reducible rfl
      (try simp only [Act.put, List.setIfInBounds_toArray, List.set_cons_zero, List.set_cons_succ])
      refine wpAnyH_ready (rs := [15]) (by kernel_rfl) (by simp) ?_
      refine AllReadyH.cons (o := _) rfl (fun K hK => ?_) ?_
      · go_simp
        have hC4 := Lib.hid (rcopy_store (s := s') (τ := τ) (clock := ρ.clock) hB2 HZ2.out hq3 HO3.out)
        have hb4 : Below V3.heap.size V3 (V3.alloc (.cells #[.slice a2 ρ.ar.length c2, .slice none 0 0, .slice a3 ρ.born.length c3, .int .i64 (ρ.clock : Int)] 104)) := (Below.refl _ _).alloc (Nat.le_refl _) _
        have hB4 := hB3.trans (hb4.mono hB3.size)
        obtain ⟨V4, hV4⟩ : ∃ W, W = V3.alloc (.cells #[.slice a2 ρ.ar.length c2, .slice none 0 0, .slice a3 ρ.born.length c3, .int .i64 (ρ.clock : Int)] 104) := ⟨_, rfl⟩
        obtain ⟨q, hq⟩ : ∃ b, b = V3.heap.size := ⟨_, rfl⟩
        rw [← hV4, ← hq] at hC4
        rw [← hV4] at hB4
        rw [← hV4, ← hq]
        clear hV4 hq hb4
        refine hK.out _ _ ?_ (fun hHeld => ?_)
        · exact ⟨on_cell hB4 k0, on_cell hB4 k2, on_cell hB4 k3⟩
        clear hK K
        (try simp only [Act.put, List.setIfInBounds_toArray, List.set_cons_zero, List.set_cons_succ])
        refine wpAnyH_take (i := 16) (oi := ⟨some 3, _, _, _, _, _⟩) (v := ?_) rfl (by kernel_rfl) (by kernel_rfl) (by kernel_rfl) (fun _ _ _ h => h) (Or.inl ⟨by rfl, ?_⟩) (by assumption) ?_
        rotate_left 1
        · intro w hSw
          (try dsimp only at hSw)
          go_simp
          all_goals with_reducible rfl
        (try simp only [Act.put, List.setIfInBounds_toArray, List.set_cons_zero, List.set_cons_succ])
        refine wpAnyH_done (by kernel_rfl) ?_ _
        refine NoPanic.normal ?_
        go_wp2_with fail
        have hT0 := hC4.out.2
        have HP0 := Lib.hid hC4.out.1
        skip
        generalize copyRef s' w.heap.size _ _ τ = τc at HP0 hT0
        obtain ⟨W0, hW0⟩ : ∃ W, W = V4 := ⟨_, rfl⟩
        rw [← hW0] at HP0 hT0 ⊢
        clear hW0 hHeld hC4
        go_loopw [4] (fun i wr => ∃ (k : Nat) (τr : Own) (vL' : Value), k ≤ ρ.rows.length ∧ i = .int .i64 k ∧ Hid (RefP s' q ρ.ar (ρ.rows.take k) ρ.born ρ.clock τr wr a2 c2 vL' (.slice a3 ρ.born.length c3)) ∧ Turn s' (fun _ => True) τ τr w wr) (fun i _ => ρ.rows.length - (intOf i).toNat)
        case atStart => exact ⟨0, τc, .slice none 0 0, Nat.zero_le _, rfl, by simpa using HP0, hT0.mono fun _ h => h.elim⟩
        case round =>
          obtain ⟨k, τr, vL', hk, rfl, HP, Tr⟩ := hrel
          have hsr := HS.out.kept Tr (.inl hne)
          have gs := hsr.cells.2.1
          by_cases hlt : k < ρ.rows.length
          · obtain ⟨⟨p, xs⟩, hr⟩ : ∃ r, ρ.rows[k]? = some r := ⟨_, List.getElem?_eq_getElem hlt⟩
            obtain ⟨b, cb, ai, ci, hv, g0, g1, hIr⟩ := hsr.rowAt hr
            simp only [Value.slice.injEq] at hv
            obtain ⟨rfl, -, rfl⟩ := hv
            simp only at g0 g1 hIr
            have HX := Lib.hid hr
            have HIr := Lib.hid hIr
            have hx8 := (HS.out.fits _ (List.mem_of_getElem? hr)).2.2.2.1
            simp only at hx8
            have hlk : (ρ.rows.take k).length = k := by simp; omega
            have hbown : τr b = some (s, .rows) := by obtain ⟨_, _, hg, _⟩ := hsr.list; exact hg b rfl
            have hrown : τr rb = some (s, .head) := hsr.mine
            obtain ⟨csL, hoL, hgL, hcL⟩ := HP.out.list
            rw [hlk] at hoL
            have HoL := Lib.hid hoL
            have HgL := Lib.hid hgL
            have HcL := Lib.hid hcL
            have hqown := HP.out.mine
            have hqb : ¬ rb = q := fun e => by rw [e, hqown] at hrown; simp at hrown; exact hne hrown.symm
            have hqb2 : ¬ b = q := fun e => by rw [e, hqown] at hbown; simp at hbown
            have hnL : ∀ g, vL'.ownBlock = some g → g ≠ q ∧ g ≠ b ∧ g ≠ rb := fun g e => ⟨fun e' => (by have := hgL g e; rw [e', hqown] at this; cases this), fun e' => (by have := hgL g e; rw [e', hbown] at this; simp at this; exact hne this), fun e' => (by have := hgL g e; rw [e', hrown] at this; cases this)⟩
            have HnL := Lib.hid hnL
            have gl := HP.out.cells.2.1
            have fzT := HP.out.cells.2.2.2.2 1
            have cR := Lib.hid (fun (W : World) (hW : Below wr.heap.size wr W) => rrow_own p ai ci xs W (HIr.out.below hW (Nat.le_refl _)) (by omega))
            have hko : (k : Int) < (ρ.rows.length : Int) := by omega
            have hlenT : k ≤ 100000000000 := by omega
            clear hsr hr hIr hoL hgL hcL hnL hbown hrown hqown
            go_upto_region 5 with fail
            obtain ⟨V5, hV5⟩ : ∃ V, V = wr.drew := ⟨_, rfl⟩
            have hB5 : Below wr.heap.size wr V5 := by rw [hV5]; exact (Below.refl _ _).drew
            refine wp_region_noPanic ?_
            refine wp_region_held_drew (S := (fun w' => w'.cell? ⟨rb, 1, none⟩ = some (.slice (some ⟨b, 0, none⟩) ρ.rows.length cL) ∧ w'.cell? ⟨b, k * 2, none⟩ = some (.int .i64 p) ∧ w'.cell? ⟨b, k * 2 + 1, none⟩ = some (.slice ai xs.length ci))) (by kernel_rfl) ?_ (fun hHeld => ?_)
            · rw [← hV5]; exact ⟨on_cell hB5 gs, on_cell hB5 g0, on_cell hB5 g1⟩
            rw [← hV5] at hHeld ⊢
            clear hV5
            refine wpAnyH_take (i := 0) (oi := ⟨some 30, _, _, _, _, _⟩) (v := ?_) rfl (by kernel_rfl) (by kernel_rfl) (by kernel_rfl) (fun _ _ _ h => h) (Or.inl ⟨by rfl, ?_⟩) (by assumption) ?_
            rotate_left 1
            · intro w hSw
              (try dsimp only at hSw)
              go_simp
              all_goals with_reducible rfl
            (try simp only [Act.put, List.setIfInBounds_toArray, List.set_cons_zero, List.set_cons_succ])
            refine wpAnyH_take (i := 1) (oi := ⟨some 31, _, _, _, _, _⟩) (v := ?_) rfl (by kernel_rfl) (by kernel_rfl) (by kernel_rfl) (fun _ _ _ h => h) (Or.inl ⟨by rfl, ?_⟩) (by assumption) ?_
            rotate_left 1
            · intro w hSw
              (try dsimp only at hSw)
              go_simp
              all_goals with_reducible rfl
            (try simp only [Act.put, List.setIfInBounds_toArray, List.set_cons_zero, List.set_cons_succ])
            refine wpAnyH_take (i := 2) (oi := ⟨some 32, _, _, _, _, _⟩) (v := ?_) rfl (by kernel_rfl) (by kernel_rfl) (by kernel_rfl) (fun _ _ _ h => h) (Or.inl ⟨by rfl, ?_⟩) (by assumption) ?_
            rotate_left 1
            · intro w hSw
              (try dsimp only at hSw)
              go_simp
              all_goals with_reducible rfl
            (try simp only [Act.put, List.setIfInBounds_toArray, List.set_cons_zero, List.set_cons_succ])
            refine wpAnyH_take (i := 3) (oi := ⟨some 33, _, _, _, _, _⟩) (v := ?_) rfl (by kernel_rfl) (by kernel_rfl) (by kernel_rfl) (fun _ _ _ h => h) (Or.inl ⟨by rfl, ?_⟩) (by assumption) ?_
            rotate_left 1
            · intro w hSw
              (try dsimp only at hSw)
              go_simp
              all_goals with_reducible rfl
            (try simp only [Act.put, List.setIfInBounds_toArray, List.set_cons_zero, List.set_cons_succ])
            refine wpAnyH_take (i := 5) (oi := ⟨some 35, _, _, _, _, _⟩) (v := ?_) rfl (by kernel_rfl) (by kernel_rfl) (by kernel_rfl) (fun _ _ _ h => h) (Or.inl ⟨by rfl, ?_⟩) (by assumption) ?_
            rotate_left 1
            · intro w hSw
              (try dsimp only at hSw)
              go_simp
              all_goals with_reducible rfl
            (try simp only [Act.put, List.setIfInBounds_toArray, List.set_cons_zero, List.set_cons_succ])
            refine wpAnyH_take (i := 6) (oi := ⟨some 36, _, _, _, _, _⟩) (v := ?_) rfl (by kernel_rfl) (by kernel_rfl) (by kernel_rfl) (fun _ _ _ h => h) (Or.inl ⟨by rfl, ?_⟩) (by assumption) ?_
            rotate_left 1
            · intro w hSw
              (try dsimp only at hSw)
              go_simp
              all_goals with_reducible rfl
            (try simp only [Act.put, List.setIfInBounds_toArray, List.set_cons_zero, List.set_cons_succ])
            refine wpAnyH_take (i := 7) (oi := ⟨some 37, _, _, _, _, _⟩) (v := ?_) rfl (by kernel_rfl) (by kernel_rfl) (by kernel_rfl) (fun _ _ _ h => h) (Or.inl ⟨by rfl, ?_⟩) (by assumption) ?_
            rotate_left 1
            · intro w hSw
              (try dsimp only at hSw)
              go_simp
              all_goals with_reducible rfl
            (try simp only [Act.put, List.setIfInBounds_toArray, List.set_cons_zero, List.set_cons_succ])
            refine wpAnyH_take (i := 8) (oi := ⟨some 38, _, _, _, _, _⟩) (v := ?_) rfl (by kernel_rfl) (by kernel_rfl) (by kernel_rfl) (fun _ _ _ h => h) (Or.inl ⟨by rfl, ?_⟩) (by assumption) ?_
            rotate_left 1
            · intro w hSw
              (try dsimp only at hSw)
              go_simp
              all_goals with_reducible rfl
            (try simp only [Act.put, List.setIfInBounds_toArray, List.set_cons_zero, List.set_cons_succ])
            refine wpAnyH_take (i := 9) (oi := ⟨some 39, _, _, _, _, _⟩) (v := ?_) rfl (by kernel_rfl) (by kernel_rfl) (by kernel_rfl) (fun _ _ _ h => h) (Or.inl ⟨by rfl, ?_⟩) (by assumption) ?_
            rotate_left 1
            · intro w hSw
              (try dsimp only at hSw)
              go_simp
              all_goals with_reducible rfl
            (try simp only [Act.put, List.setIfInBounds_toArray, List.set_cons_zero, List.set_cons_succ])
            refine wpAnyH_take (i := 10) (oi := ⟨some 40, _, _, _, _, _⟩) (v := ?_) rfl (by kernel_rfl) (by kernel_rfl) (by kernel_rfl) (fun _ _ _ h => h) (Or.inl ⟨by rfl, ?_⟩) (by assumption) ?_
            rotate_left 1
            · intro w hSw
              (try dsimp only at hSw)
              go_simp
              all_goals with_reducible rfl
            (try simp only [Act.put, List.setIfInBounds_toArray, List.set_cons_zero, List.set_cons_succ])
            refine wpAnyH_take (i := 11) (oi := ⟨some 41, _, _, _, _, _⟩) (v := ?_) rfl (by kernel_rfl) (by kernel_rfl) (by kernel_rfl) (fun _ _ _ h => h) (Or.inl ⟨by rfl, ?_⟩) (by assumption) ?_
            rotate_left 1
            · intro w hSw
              (try dsimp only at hSw)
              go_simp
              all_goals with_reducible rfl
            (try simp only [Act.put, List.setIfInBounds_toArray, List.set_cons_zero, List.set_cons_succ])
            refine wpAnyH_ready (rs := [4, 12]) (by kernel_rfl) (by simp) ?_
            refine AllReadyH.cons (o := _) rfl (fun K hK => ?_) ?_
            · have dL := on_cell hB5 gl
              go_simp
              refine hK.out _ _ ?_ (fun hHeld => ?_)
              · exact ⟨on_cell hB5 gs, on_cell hB5 g0, on_cell hB5 g1⟩
              clear hK K
              (try simp only [Act.put, List.setIfInBounds_toArray, List.set_cons_zero, List.set_cons_succ])
              refine wpAnyH_ready (rs := [12]) (by kernel_rfl) (by simp) ?_
              refine AllReadyH.cons (o := _) rfl (fun K hK => ?_) ?_
              · have cK := cR.out _ hB5
                go_simp
                with_reducible refine cK.mono ?_
                rintro e V7 ⟨a2, c2, rfl, hI7, hb7⟩
                have hB7 : Below wr.heap.size wr V7 := hB5.trans (hb7.mono hB5.size)
                have HI7 := Lib.hid (owns_low hI7 hB5.size)
                clear hI7 hb7
                refine hK.out _ _ ?_ (fun hHeld => ?_)
                · exact ⟨on_cell hB7 gs, on_cell hB7 g0, on_cell hB7 g1⟩
                clear hK K
                (try simp only [Act.put, List.setIfInBounds_toArray, List.set_cons_zero, List.set_cons_succ])
                refine wpAnyH_ready (rs := [13]) (by kernel_rfl) (by simp) ?_
                refine AllReadyH.cons (o := _) rfl (fun K hK => ?_) ?_
                · go_simp
                  obtain ⟨V8, hV8⟩ : ∃ W, W = V7.alloc (.cells #[.int .i64 p, .slice a2 xs.length c2] 28) := ⟨_, rfl⟩
                  obtain ⟨q8, hq8⟩ : ∃ b, b = V7.heap.size := ⟨_, rfl⟩
                  rw [← hV8, ← hq8]
                  have hb8 : Below V7.heap.size V7 V8 := by rw [hV8]; exact (Below.refl _ _).alloc (Nat.le_refl _) _
                  have src8 : Source V8 (some ⟨q8, 0, none⟩) 1 1 [.int .i64 p, .slice a2 xs.length c2] := by rw [hV8, hq8]; exact source_new V7 [.int .i64 p, .slice a2 xs.length c2] 28
                  have hB8 : Below wr.heap.size wr V8 := hB7.trans (hb8.mono hB7.size)
                  have HI8 := Lib.hid (owns_below HI7.out hb8 (Nat.le_refl _))
                  clear hb8 hV8 hq8
                  refine hK.out _ _ ?_ (fun hHeld => ?_)
                  · exact ⟨on_cell hB8 gs, on_cell hB8 g0, on_cell hB8 g1⟩
                  clear hK K
                  (try simp only [Act.put, List.setIfInBounds_toArray, List.set_cons_zero, List.set_cons_succ])
                  refine wpAnyH_ready (rs := [14]) (by kernel_rfl) (by simp) ?_
                  refine AllReadyH.cons (o := _) rfl (fun K hK => ?_) ?_
                  · have ho9 := owns_below HoL.out hB8 (Nat.le_refl _)
                    refine step_append_any elemRow _ rfl _ _ rfl 0 _ k csL rfl ho9 (some ⟨q8, 0, none⟩) 1 1 [.int .i64 p, .slice a2 xs.length c2] rfl src8 rfl (by simp [Value.oneCell']) (by unfold maxLen; omega) (by omega) (Nat.zero_le _) ?_
                    intro v9 V9 hown9 hgrow9 hblk9
                    have hP9 := Lib.hid (HP.out.putList (p := p) (xs := xs) (by rw [hlk]; exact HoL.out) HgL.out HcL.out hB8 HI8.out (by rw [hlk]; exact hown9) hgrow9 hblk9)
                    have d9 := hgrow9.cell (on_cell hB8 gl) (fun e => (HnL.out _ e.symm).1 rfl)
                    have z9 : V9.frozen? ⟨q, 1, none⟩ = false := (World.frozen?_of_block (w := V8) (hgrow9.block q (World.block_lt_of_cell? _ _ (on_cell hB8 gl)) (fun e => (HnL.out _ e.symm).1 rfl))).trans ((hB8.frozen (p := ⟨q, 1, none⟩) (World.block_lt_of_cell? _ _ gl)).trans fzT)
                    have js9 := hgrow9.cell (on_cell hB8 gs) (fun e => (HnL.out _ e.symm).2.2 rfl)
                    have j09 := hgrow9.cell (on_cell hB8 g0) (fun e => (HnL.out _ e.symm).2.1 rfl)
                    have j19 := hgrow9.cell (on_cell hB8 g1) (fun e => (HnL.out _ e.symm).2.1 rfl)
                    obtain ⟨x9, y9, rfl⟩ := owns_slice hown9
                    clear hown9 hgrow9 hblk9 ho9
                    refine hK.out _ _ ?_ (fun hHeld => ?_)
                    · exact ⟨js9, j09, j19⟩
                    clear hK K
                    (try simp only [Act.put, List.setIfInBounds_toArray, List.set_cons_zero, List.set_cons_succ])
                    refine wpAnyH_take (i := 15) (oi := ⟨some 45, _, _, _, _, _⟩) (v := ?_) rfl (by kernel_rfl) (by kernel_rfl) (by kernel_rfl) (fun _ _ _ h => h) (Or.inl ⟨by rfl, ?_⟩) (by assumption) ?_
                    rotate_left 1
                    · intro w hSw
                      (try dsimp only at hSw)
                      go_simp
                      all_goals with_reducible rfl
                    (try simp only [Act.put, List.setIfInBounds_toArray, List.set_cons_zero, List.set_cons_succ])
                    refine wpAnyH_take (i := 16) (oi := ⟨some 46, _, _, _, _, _⟩) (v := ?_) rfl (by kernel_rfl) (by kernel_rfl) (by kernel_rfl) (fun _ _ _ h => h) (Or.inl ⟨by rfl, ?_⟩) (by assumption) ?_
                    rotate_left 1
                    · intro w hSw
                      (try dsimp only at hSw)
                      go_simp
                      all_goals with_reducible rfl
                    (try simp only [Act.put, List.setIfInBounds_toArray, List.set_cons_zero, List.set_cons_succ])
                    refine wpAnyH_ready (rs := [17]) (by kernel_rfl) (by simp) ?_
                    refine AllReadyH.cons (o := _) rfl (fun K hK => ?_) ?_
                    · go_simp
                      refine hK.out _ _ ?_ (fun hHeld => ?_)
                      · exact ⟨(World.cell?_setCell_far _ _ _ _ (Ne.symm hqb)).trans js9, (World.cell?_setCell_far _ _ _ _ (Ne.symm hqb2)).trans j09, (World.cell?_setCell_far _ _ _ _ (Ne.symm hqb2)).trans j19⟩
                      clear hK K
                      (try simp only [Act.put, List.setIfInBounds_toArray, List.set_cons_zero, List.set_cons_succ])
                      refine wpAnyH_done (by kernel_rfl) ?_ _
                      refine NoPanic.normal ?_
                      obtain ⟨τ11, P11, T11⟩ := hP9.out
                      rw [← take_snoc' HX.out] at P11
                      have HP11 := Lib.hid P11
                      clear P11 hHeld
                      go_wp2_with fail
                      go_roundw
                      case rel => exact ⟨k + 1, τ11, _, by omega, by go_num, HP11, Tr.trans (T11.mono fun _ _ => trivial)⟩
                      case measure => simp [intOf]; omega
                    exact AllReadyH.nil
                  exact AllReadyH.nil
                exact AllReadyH.nil
              exact AllReadyH.nil
            refine AllReadyH.cons (o := _) rfl (fun K hK => ?_) ?_
            · have cK := cR.out _ hB5
              go_simp
              with_reducible refine cK.mono ?_
              rintro e V12 ⟨a2, c2, rfl, hI12, hb12⟩
              have hB12 : Below wr.heap.size wr V12 := hB5.trans (hb12.mono hB5.size)
              have HI12 := Lib.hid (owns_low hI12 hB5.size)
              clear hI12 hb12
              refine hK.out _ _ ?_ (fun hHeld => ?_)
              · exact ⟨on_cell hB12 gs, on_cell hB12 g0, on_cell hB12 g1⟩
              clear hK K
              (try simp only [Act.put, List.setIfInBounds_toArray, List.set_cons_zero, List.set_cons_succ])
              refine wpAnyH_ready (rs := [4, 13]) (by kernel_rfl) (by simp) ?_
              refine AllReadyH.cons (o := _) rfl (fun K hK => ?_) ?_
              · have dL := on_cell hB12 gl
                go_simp
                refine hK.out _ _ ?_ (fun hHeld => ?_)
                · exact ⟨on_cell hB12 gs, on_cell hB12 g0, on_cell hB12 g1⟩
                clear hK K
                (try simp only [Act.put, List.setIfInBounds_toArray, List.set_cons_zero, List.set_cons_succ])
                refine wpAnyH_ready (rs := [13]) (by kernel_rfl) (by simp) ?_
                refine AllReadyH.cons (o := _) rfl (fun K hK => ?_) ?_
                · go_simp
                  obtain ⟨V14, hV14⟩ : ∃ W, W = V12.alloc (.cells #[.int .i64 p, .slice a2 xs.length c2] 28) := ⟨_, rfl⟩
                  obtain ⟨q14, hq14⟩ : ∃ b, b = V12.heap.size := ⟨_, rfl⟩
                  rw [← hV14, ← hq14]
                  have hb14 : Below V12.heap.size V12 V14 := by rw [hV14]; exact (Below.refl _ _).alloc (Nat.le_refl _) _
                  have src14 : Source V14 (some ⟨q14, 0, none⟩) 1 1 [.int .i64 p, .slice a2 xs.length c2] := by rw [hV14, hq14]; exact source_new V12 [.int .i64 p, .slice a2 xs.length c2] 28
                  have hB14 : Below wr.heap.size wr V14 := hB12.trans (hb14.mono hB12.size)
                  have HI14 := Lib.hid (owns_below HI12.out hb14 (Nat.le_refl _))
                  clear hb14 hV14 hq14
                  refine hK.out _ _ ?_ (fun hHeld => ?_)
                  · exact ⟨on_cell hB14 gs, on_cell hB14 g0, on_cell hB14 g1⟩
                  clear hK K
                  (try simp only [Act.put, List.setIfInBounds_toArray, List.set_cons_zero, List.set_cons_succ])
                  refine wpAnyH_ready (rs := [14]) (by kernel_rfl) (by simp) ?_
                  refine AllReadyH.cons (o := _) rfl (fun K hK => ?_) ?_
                  · have ho15 := owns_below HoL.out hB14 (Nat.le_refl _)
                    refine step_append_any elemRow _ rfl _ _ rfl 0 _ k csL rfl ho15 (some ⟨q14, 0, none⟩) 1 1 [.int .i64 p, .slice a2 xs.length c2] rfl src14 rfl (by simp [Value.oneCell']) (by unfold maxLen; omega) (by omega) (Nat.zero_le _) ?_
                    intro v15 V15 hown15 hgrow15 hblk15
                    have hP15 := Lib.hid (HP.out.putList (p := p) (xs := xs) (by rw [hlk]; exact HoL.out) HgL.out HcL.out hB14 HI14.out (by rw [hlk]; exact hown15) hgrow15 hblk15)
                    have d15 := hgrow15.cell (on_cell hB14 gl) (fun e => (HnL.out _ e.symm).1 rfl)
                    have z15 : V15.frozen? ⟨q, 1, none⟩ = false := (World.frozen?_of_block (w := V14) (hgrow15.block q (World.block_lt_of_cell? _ _ (on_cell hB14 gl)) (fun e => (HnL.out _ e.symm).1 rfl))).trans ((hB14.frozen (p := ⟨q, 1, none⟩) (World.block_lt_of_cell? _ _ gl)).trans fzT)
                    have js15 := hgrow15.cell (on_cell hB14 gs) (fun e => (HnL.out _ e.symm).2.2 rfl)
                    have j015 := hgrow15.cell (on_cell hB14 g0) (fun e => (HnL.out _ e.symm).2.1 rfl)
                    have j115 := hgrow15.cell (on_cell hB14 g1) (fun e => (HnL.out _ e.symm).2.1 rfl)
                    obtain ⟨x15, y15, rfl⟩ := owns_slice hown15
                    clear hown15 hgrow15 hblk15 ho15
                    refine hK.out _ _ ?_ (fun hHeld => ?_)
                    · exact ⟨js15, j015, j115⟩
                    clear hK K
                    (try simp only [Act.put, List.setIfInBounds_toArray, List.set_cons_zero, List.set_cons_succ])
                    refine wpAnyH_take (i := 15) (oi := ⟨some 45, _, _, _, _, _⟩) (v := ?_) rfl (by kernel_rfl) (by kernel_rfl) (by kernel_rfl) (fun _ _ _ h => h) (Or.inl ⟨by rfl, ?_⟩) (by assumption) ?_
                    rotate_left 1
                    · intro w hSw
                      (try dsimp only at hSw)
                      go_simp
                      all_goals with_reducible rfl
                    (try simp only [Act.put, List.setIfInBounds_toArray, List.set_cons_zero, List.set_cons_succ])
                    refine wpAnyH_take (i := 16) (oi := ⟨some 46, _, _, _, _, _⟩) (v := ?_) rfl (by kernel_rfl) (by kernel_rfl) (by kernel_rfl) (fun _ _ _ h => h) (Or.inl ⟨by rfl, ?_⟩) (by assumption) ?_
                    rotate_left 1
                    · intro w hSw
                      (try dsimp only at hSw)
                      go_simp
                      all_goals with_reducible rfl
                    (try simp only [Act.put, List.setIfInBounds_toArray, List.set_cons_zero, List.set_cons_succ])
                    refine wpAnyH_ready (rs := [17]) (by kernel_rfl) (by simp) ?_
                    refine AllReadyH.cons (o := _) rfl (fun K hK => ?_) ?_
                    · go_simp
                      refine hK.out _ _ ?_ (fun hHeld => ?_)
                      · exact ⟨(World.cell?_setCell_far _ _ _ _ (Ne.symm hqb)).trans js15, (World.cell?_setCell_far _ _ _ _ (Ne.symm hqb2)).trans j015, (World.cell?_setCell_far _ _ _ _ (Ne.symm hqb2)).trans j115⟩
                      clear hK K
                      (try simp only [Act.put, List.setIfInBounds_toArray, List.set_cons_zero, List.set_cons_succ])
                      refine wpAnyH_done (by kernel_rfl) ?_ _
                      refine NoPanic.normal ?_
                      obtain ⟨τ17, P17, T17⟩ := hP15.out
                      rw [← take_snoc' HX.out] at P17
                      have HP17 := Lib.hid P17
                      clear P17 hHeld
                      go_wp2_with fail
                      go_roundw
                      case rel => exact ⟨k + 1, τ17, _, by omega, by go_num, HP17, Tr.trans (T17.mono fun _ _ => trivial)⟩
                      case measure => simp [intOf]; omega
                    exact AllReadyH.nil
                  exact AllReadyH.nil
                exact AllReadyH.nil
              refine AllReadyH.cons (o := _) rfl (fun K hK => ?_) ?_
              · go_simp
                obtain ⟨V18, hV18⟩ : ∃ W, W = V12.alloc (.cells #[.int .i64 p, .slice a2 xs.length c2] 28) := ⟨_, rfl⟩
                obtain ⟨q18, hq18⟩ : ∃ b, b = V12.heap.size := ⟨_, rfl⟩
                rw [← hV18, ← hq18]
                have hb18 : Below V12.heap.size V12 V18 := by rw [hV18]; exact (Below.refl _ _).alloc (Nat.le_refl _) _
                have src18 : Source V18 (some ⟨q18, 0, none⟩) 1 1 [.int .i64 p, .slice a2 xs.length c2] := by rw [hV18, hq18]; exact source_new V12 [.int .i64 p, .slice a2 xs.length c2] 28
                have hB18 : Below wr.heap.size wr V18 := hB12.trans (hb18.mono hB12.size)
                have HI18 := Lib.hid (owns_below HI12.out hb18 (Nat.le_refl _))
                clear hb18 hV18 hq18
                refine hK.out _ _ ?_ (fun hHeld => ?_)
                · exact ⟨on_cell hB18 gs, on_cell hB18 g0, on_cell hB18 g1⟩
                clear hK K
                (try simp only [Act.put, List.setIfInBounds_toArray, List.set_cons_zero, List.set_cons_succ])
                refine wpAnyH_ready (rs := [4]) (by kernel_rfl) (by simp) ?_
                refine AllReadyH.cons (o := _) rfl (fun K hK => ?_) ?_
                · have dL := on_cell hB18 gl
                  go_simp
                  refine hK.out _ _ ?_ (fun hHeld => ?_)
                  · exact ⟨on_cell hB18 gs, on_cell hB18 g0, on_cell hB18 g1⟩
                  clear hK K
                  (try simp only [Act.put, List.setIfInBounds_toArray, List.set_cons_zero, List.set_cons_succ])
                  refine wpAnyH_ready (rs := [14]) (by kernel_rfl) (by simp) ?_
                  refine AllReadyH.cons (o := _) rfl (fun K hK => ?_) ?_
                  · have ho20 := owns_below HoL.out hB18 (Nat.le_refl _)
                    refine step_append_any elemRow _ rfl _ _ rfl 0 _ k csL rfl ho20 (some ⟨q18, 0, none⟩) 1 1 [.int .i64 p, .slice a2 xs.length c2] rfl src18 rfl (by simp [Value.oneCell']) (by unfold maxLen; omega) (by omega) (Nat.zero_le _) ?_
                    intro v20 V20 hown20 hgrow20 hblk20
                    have hP20 := Lib.hid (HP.out.putList (p := p) (xs := xs) (by rw [hlk]; exact HoL.out) HgL.out HcL.out hB18 HI18.out (by rw [hlk]; exact hown20) hgrow20 hblk20)
                    have d20 := hgrow20.cell (on_cell hB18 gl) (fun e => (HnL.out _ e.symm).1 rfl)
                    have z20 : V20.frozen? ⟨q, 1, none⟩ = false := (World.frozen?_of_block (w := V18) (hgrow20.block q (World.block_lt_of_cell? _ _ (on_cell hB18 gl)) (fun e => (HnL.out _ e.symm).1 rfl))).trans ((hB18.frozen (p := ⟨q, 1, none⟩) (World.block_lt_of_cell? _ _ gl)).trans fzT)
                    have js20 := hgrow20.cell (on_cell hB18 gs) (fun e => (HnL.out _ e.symm).2.2 rfl)
                    have j020 := hgrow20.cell (on_cell hB18 g0) (fun e => (HnL.out _ e.symm).2.1 rfl)
                    have j120 := hgrow20.cell (on_cell hB18 g1) (fun e => (HnL.out _ e.symm).2.1 rfl)
                    obtain ⟨x20, y20, rfl⟩ := owns_slice hown20
                    clear hown20 hgrow20 hblk20 ho20
                    refine hK.out _ _ ?_ (fun hHeld => ?_)
                    · exact ⟨js20, j020, j120⟩
                    clear hK K
                    (try simp only [Act.put, List.setIfInBounds_toArray, List.set_cons_zero, List.set_cons_succ])
                    refine wpAnyH_take (i := 15) (oi := ⟨some 45, _, _, _, _, _⟩) (v := ?_) rfl (by kernel_rfl) (by kernel_rfl) (by kernel_rfl) (fun _ _ _ h => h) (Or.inl ⟨by rfl, ?_⟩) (by assumption) ?_
                    rotate_left 1
                    · intro w hSw
                      (try dsimp only at hSw)
                      go_simp
                      all_goals with_reducible rfl
                    (try simp only [Act.put, List.setIfInBounds_toArray, List.set_cons_zero, List.set_cons_succ])
                    refine wpAnyH_take (i := 16) (oi := ⟨some 46, _, _, _, _, _⟩) (v := ?_) rfl (by kernel_rfl) (by kernel_rfl) (by kernel_rfl) (fun _ _ _ h => h) (Or.inl ⟨by rfl, ?_⟩) (by assumption) ?_
                    rotate_left 1
                    · intro w hSw
                      (try dsimp only at hSw)
                      go_simp
                      all_goals with_reducible rfl
                    (try simp only [Act.put, List.setIfInBounds_toArray, List.set_cons_zero, List.set_cons_succ])
                    refine wpAnyH_ready (rs := [17]) (by kernel_rfl) (by simp) ?_
                    refine AllReadyH.cons (o := _) rfl (fun K hK => ?_) ?_
                    · go_simp
                      refine hK.out _ _ ?_ (fun hHeld => ?_)
                      · exact ⟨(World.cell?_setCell_far _ _ _ _ (Ne.symm hqb)).trans js20, (World.cell?_setCell_far _ _ _ _ (Ne.symm hqb2)).trans j020, (World.cell?_setCell_far _ _ _ _ (Ne.symm hqb2)).trans j120⟩
                      clear hK K
                      (try simp only [Act.put, List.setIfInBounds_toArray, List.set_cons_zero, List.set_cons_succ])
                      refine wpAnyH_done (by kernel_rfl) ?_ _
                      refine NoPanic.normal ?_
                      obtain ⟨τ22, P22, T22⟩ := hP20.out
                      rw [← take_snoc' HX.out] at P22
                      have HP22 := Lib.hid P22
                      clear P22 hHeld
                      go_wp2_with fail
                      go_roundw
                      case rel => exact ⟨k + 1, τ22, _, by omega, by go_num, HP22, Tr.trans (T22.mono fun _ _ => trivial)⟩
                      case measure => simp [intOf]; omega
                    exact AllReadyH.nil
                  exact AllReadyH.nil
                exact AllReadyH.nil
              exact AllReadyH.nil
            exact AllReadyH.nil
          · have hke : k = ρ.rows.length := by omega
            subst hke
            have hP := HP.out
            rw [List.take_length] at hP
            have hfin := Lib.hid (⟨_, _, _, _, ⟨hP.fresh, hP.mine, hP.head, hP.ar, hP.list, hP.born, HS.out.len, HS.out.fits, HS.out.arity, HS.out.preds, HS.out.many⟩⟩ : IsRef s' q ρ τr wr)
            clear hP hsr
            go_wp2_with fail
            go_ret
            exact ⟨q, τr, rfl, hfin.out, Tr⟩
      exact AllReadyH.nil
    exact AllReadyH.nil
  exact AllReadyH.nil
end Go.Proofs.Ytgodidoibcomcaa
