/-
  The walk of the law StoreOnce.
-/
import Derived.Test.YtgodidoibcomcaaSHolds
import Derived.Test.YtgodidoibcomcaaSBatch
namespace Go.Proofs.Ytgodidoibcomcaa
open Go.RowKit
open Go.Maps (Keyed)

set_option maxHeartbeats 8000000 in
set_option maxRecDepth 8000 in
theorem once_any (aa ab : Option Addr) (ca cb : Nat) (ar : List Int) (B : List (List Row)) (w : World) (ha : IntsZ (fun _ => True) w aa ca ar) (hb : BatchesZ (fun _ => True) w ab B) (hlar : ar.length ≤ 9223372036854775807) (hlB : B.length ≤ 9223372036854775807)
    (hr : ∀ m ∈ B, ∀ r ∈ m, RowOk r) (hsum : (B.map List.length).sum ≤ 1000000000) :
    Calls Try.prog 3 #[.slice aa ar.length ca, .slice ab B.length cb] w fun e w' => e = .returned (.bool true) ∧ Below w.heap.size w w' := by
  have HA := Lib.hid (ha.zone (Z' := fun j => noOwn j = none) (fun _ _ => rfl))
  have HB := Lib.hid (hb.keep (w' := w) (Z' := fun j => noOwn j = none) (fun _ _ _ => rfl) (fun _ _ _ => rfl))
  have HR := Lib.hid hr
  have cF := Lib.hid (fits_any aa ca ar w ha.ints hlar)
  by_cases hf : fitsL ar = true
  · have hl := fits_len hf
    have cM := Lib.hid (made_any (s := 0) (τ := noOwn) aa ca ar w (fun _ _ => rfl) ha.ints hf)
    have HF := Lib.hid hf
    rw [hf] at cF
    clear ha hb hr hf
    go_enter Try.func3, Try.ntmps3
    go_wp2_with (first
      | (go_at_call 12; refine cF.out.mono ?_; rintro e w0 ⟨rfl, rfl⟩)
      | (go_at_call 13; refine cM.out.mono ?_; rintro e w1 ⟨sb, τ1, rfl, hs1, T1⟩))
    have hbb : Below w1.heap.size w1 (w1.alloc (.cells #[.int .i64 (ar.length : Int), .slice none 0 0] 28)) := (Below.refl _ _).alloc (Nat.le_refl _) _
    have T2 : Turn 0 (fun _ => True) noOwn τ1 w0 (w1.alloc (.cells #[.int .i64 (ar.length : Int), .slice none 0 0] 28)) := T1.trans (Turn.of_below hbb T1.fresh)
    have hs2 := hs1.below hbb
    have hw2 : RowsZ (fun j => τ1 j = none) (w1.alloc (.cells #[.int .i64 (ar.length : Int), .slice none 0 0] 28)) (some ⟨w1.heap.size, 0, none⟩) 1 (madeSt ar).rows := ⟨.inr ⟨w1.heap.size, 0, rfl, T1.fresh _ (Nat.le_refl _), fun i hi => by
      have : i = 0 := by simp [madeSt, St.push] at hi; omega
      subst this
      exact ⟨by simp [madeSt, St.push], none, 0, by simp [madeSt, St.push], .inl rfl, fun _ => ⟨rfl, rfl⟩⟩⟩, fun h => by cases h⟩
    have hrow1 : (madeSt ar).rows.length = 1 := rfl
    go_loopw [6, 7] (fun v i wr => ∃ (k : Nat) (σ : St) (τr : Own) (av : Option Addr) (cv : Nat), k ≤ B.length ∧ i = .int .i64 k ∧ v = .slice av σ.rows.length cv ∧ Hid (IsStore 0 sb σ τr wr ∧ RowsZ (fun j => τr j = none) wr av cv σ.rows ∧ σ.ar = ar ++ [0]) ∧ σ.births + ((B.drop k).map List.length).sum ≤ 1000000001 ∧ Turn 0 (fun _ => True) noOwn τr w0 wr) (fun _ i _ => B.length - (intOf i).toNat)
    case atStart => exact ⟨0, madeSt ar, τ1, some ⟨w1.heap.size, 0, none⟩, 1, Nat.zero_le _, rfl, rfl, Lib.hid ⟨hs2, hw2, rfl⟩, by simp [madeSt, St.push]; omega, T2⟩
    case round =>
      clear hs1 hs2 hw2 T2 hbb T1 cF cM
      obtain ⟨k, σ, τr, av, cv, hk, rfl, rfl, HS, hbirth, Tr⟩ := hrel
      have hmany : σ.rows.length ≤ σ.births := by obtain ⟨⟨_, h⟩, _⟩ := HS.out; exact h.sound.many
      have hfitσ : ∀ r ∈ σ.rows, FitsRow σ.ar r := by obtain ⟨⟨_, h⟩, _⟩ := HS.out; exact h.sound.fits
      have HFS := Lib.hid hfitσ
      clear hfitσ
      by_cases hlt : k < B.length
      · rcases (freeBatches_turn Tr HB.out) with hn | ⟨b, o, rfl, _, hc⟩
        · rw [hn] at hlt; simp at hlt
        · obtain ⟨ai, ci, c0, hm0⟩ := hc k hlt
          obtain ⟨m, hm⟩ : ∃ m, m = B[k] := ⟨_, rfl⟩
          rw [← hm] at c0 hm0
          have hdrop : ((B.drop k).map List.length).sum = m.length + ((B.drop (k + 1)).map List.length).sum := by
            rw [List.drop_eq_getElem_cons hlt, ← hm]; rfl
          rw [hdrop] at hbirth
          have hmr : ∀ r ∈ m, RowOk r := HR.out m (by rw [hm]; exact List.getElem_mem hlt)
          have hfit : ∀ r ∈ m.map (shape ar), FitsRow σ.ar r := fun r hr => by
            obtain ⟨x, hx, rfl⟩ := List.mem_map.1 hr
            rw [HS.out.2.2]
            exact shape_fits HF.out (hmr x hx)
          have har8 : ∀ {r : Row} {ar : List Int}, FitsRow ar r → r.2.length * 8 ≤ 140737488351232 := fun h => by have := h.2.2.2.1; omega
          obtain ⟨M, hM⟩ : ∃ M, m.map (shape ar) = M := ⟨_, rfl⟩
          have hmap : M.length = m.length := by rw [← hM]; simp
          rw [hM] at hfit
          have cS := Lib.hid (shaped_any (Z := fun j => τr j = none) _ ai ca ci ar m wr (free_turn Tr HA.out).ints HF.out hm0 (fun r hr => hmr r hr) (by omega))
          rw [hM] at cS
          have HFit := Lib.hid hfit
          have hfr : Fresh τr wr := Tr.fresh
          have HFr := Lib.hid hfr
          obtain ⟨J, hJ⟩ : ∃ J, joinedL σ.rows M = J := ⟨_, rfl⟩
          have hJ1 : σ.rows.length ≤ J.length := by rw [← hJ]; exact joinedL_ge _ _
          have hJ2 : J.length ≤ σ.rows.length + M.length := by rw [← hJ]; exact joinedL_length _ _
          have hMl : M.length ≤ 1000000001 := by omega
          have hbM : σ.births + (M.length + ((B.drop (k + 1)).map List.length).sum) ≤ 1000000001 := by omega
          have hbm := hbM
          have HJ := Lib.hid hJ
          clear hc hm0 hmr hdrop hm hfit hM hmap hbirth hfr hJ
          go_wp2_with (first
            | (go_at_call 14; refine cS.out.mono ?_; rintro e w2 ⟨vm, rfl, hOm, hb2⟩
               obtain ⟨am, cm, rfl, hRm⟩ := hOm.rowsZ (fun _ h => h)
               have hRm' := hRm.zone (Z' := fun j => τr j = none) (fun j hj => HFr.out j hj)
               have hRw := HS.out.2.1.below hb2 (Nat.le_refl _)
               have cJ := Lib.hid (joined_any av am cv cm σ.rows M w2 hRw hRm' (fun r hr => har8 (HFS.out r hr)) (fun r hr => har8 (HFit.out r hr)) (by omega))
               rw [HJ.out] at cJ
               have HRm := Lib.hid hRm'
               clear hOm hRm hRm' hRw)
            | (go_at_call 15; refine cJ.out.mono ?_; rintro e w3 ⟨vj, rfl, hOj, hb3⟩
               have sz2 := hb2.size
               obtain ⟨aj, cj, rfl, hRj⟩ := hOj.rowsZ (fun _ h => .inr h)
               have HRj := Lib.hid (hRj.zone (Z' := fun j => τr j = none) (fun j hj => by
                 rcases hj with hj | hj
                 · exact hj
                 · exact HFr.out j (Nat.le_trans sz2 hj)))
               have hb23 : Below wr.heap.size wr w3 := hb2.trans (hb3.mono sz2)
               have cA := Lib.hid (add_any (HS.out.1.below hb23) am cm M (HRm.out.below hb3 (Nat.le_refl _)) HFit.out (by omega))
               simp only [addAll_rows, HJ.out] at cA
               clear hOj hRj)
            | (go_at_call 16; refine cA.out.mono ?_; rintro e w4 ⟨rfl, τ4, hs4, T4⟩))
          have hbb' := addAll_births σ M
          go_roundw
          case rel => exact ⟨k + 1, σ.addAll M, τ4, aj, cj, by omega, by go_num, by rw [addAll_rows, HJ.out], Lib.hid ⟨hs4, by rw [addAll_rows, HJ.out]; exact freeRows_turn T4 HRj.out, (addAll_ar σ M).trans HS.out.2.2⟩, by omega, Tr.trans ((Turn.of_below hb23 HFr.out).trans T4)⟩
          case measure => simp [intOf]; omega
      · have hsl : σ.rows.length ≤ 1000000001 := by omega
        have cA := Lib.hid (add_any HS.out.1 av cv σ.rows HS.out.2.1 HFS.out (by omega))
        simp only [addAll_self σ σ.rows (fun _ h => h), Int.sub_self] at cA
        have hfr : Fresh τr wr := Tr.fresh
        clear hbirth
        go_wp2_with (first
          | (go_at_call 16; refine cA.out.mono ?_; rintro e w4 ⟨rfl, τ4, hs4, T4⟩
             have cH := Lib.hid (holds_any hs4 ((ar.length : Int) + 1) av cv (freeRows_turn T4 HS.out.2.1) (by omega) (by omega) (by omega)))
          | (go_at_call 17; refine cH.out.mono ?_; rintro e w5 ⟨rfl, hb5⟩))
        go_ret
        exact ⟨rfl, below_of_turn (Tr.trans (T4.trans (Turn.of_below hb5 T4.fresh)))⟩
  · have hff : fitsL ar = false := by simpa using hf
    rw [hff] at cF
    clear ha hb hr hf
    go_enter Try.func3, Try.ntmps3
    go_wp2_with (go_at_call 12; refine cF.out.mono ?_; rintro e w0 ⟨rfl, rfl⟩)
    go_ret
    exact ⟨rfl, Below.refl _ _⟩
end Go.Proofs.Ytgodidoibcomcaa
