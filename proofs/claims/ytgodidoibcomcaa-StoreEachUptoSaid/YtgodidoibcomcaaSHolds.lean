/-
  What holds of the law's package answers of the rows that the store holds: true.
-/
import Derived.Test.YtgodidoibcomcaaSMade
namespace Go.Proofs.Ytgodidoibcomcaa
open Go.RowKit
open Go.Maps (Keyed)

theorem ofK_at (rows : List Row) (r : Row) (q : Int) : ofK (rows ++ [r]) (.int .i64 q) = if r.1 = q then ofK rows (.int .i64 q) ++ [(rows.length : Int)] else ofK rows (.int .i64 q) := by
  rw [ofK_snoc]
  unfold updL
  by_cases h : r.1 = q
  · rw [if_pos h, if_pos (by rw [h])]
  · rw [if_neg h, if_neg (fun e => h (by simp at e; exact e.symm))]

set_option maxHeartbeats 8000000 in
set_option maxRecDepth 8000 in
theorem holds_any {Z : Nat → Prop} {s sb : Nat} {σ : St} {τ : Own} {w : World} (hs : IsStore s sb σ τ w) (preds : Int) (a : Option Addr) (c : Nat) (hw : RowsZ Z w a c σ.rows) (hp0 : 0 ≤ preds) (hp1 : preds ≤ 1000) (hB : σ.rows.length ≤ 1000000000000) :
    Calls Try.prog 17 #[.pointer (some ⟨sb, 0, none⟩), .int .i64 preds, .slice a σ.rows.length c] w fun e w' => e = .returned (.bool true) ∧ Below w.heap.size w w' := by
  obtain ⟨h, hst⟩ := id hs
  have HS := Lib.hid hst
  have HW := Lib.hid hw
  have hfit : ∀ r ∈ σ.rows, r.2.length ≤ 8 := fun r hr => (hst.sound.fits r hr).2.2.2.1
  have HF := Lib.hid hfit
  have HT := Lib.hid (told_any hs hB)
  clear hs hst hw hfit
  go_enter Try.func17, Try.ntmps17
  go_wp2_with (go_at_call 45; refine HT.out.mono ?_; rintro e w0 ⟨v0, rfl, hO0, hb0⟩; obtain ⟨al, cl, rfl, hRl⟩ := hO0.rowsZ (fun _ h => h))
  have HRl := Lib.hid hRl
  have HRw := Lib.hid (HW.out.below hb0 (Nat.le_refl _))
  have HS0 := Lib.hid (HS.out.below hb0)
  clear hRl hO0 HT HW HS
  go_loopw [9] (fun i wr => ∃ k : Nat, k ≤ σ.rows.length ∧ i = .int .i64 k ∧ Below w0.heap.size w0 wr) (fun i _ => σ.rows.length - (intOf i).toNat)
  case atStart => exact ⟨0, Nat.zero_le _, rfl, Below.refl _ _⟩
  case round =>
    obtain ⟨k, hk, rfl, hbel⟩ := hrel
    by_cases hlt : k < σ.rows.length
    · rcases HRl.out.1 with hn | ⟨b1, o1, rfl, _, hc1⟩
      · rw [hn] at hlt; simp at hlt
      · rcases HRw.out.1 with hn | ⟨b2, o2, rfl, _, hc2⟩
        · rw [hn] at hlt; simp at hlt
        · obtain ⟨p, a1, c1, xs, c0, d0, HI, HX⟩ := rows_at hc1 hlt
          obtain ⟨p2, a2, c2, xs2, c3, d3, HI2, HX2⟩ := rows_at hc2 hlt
          have he : (p2, xs2) = (p, xs) := by
            have := HX2.out
            rw [HX.out] at this
            exact (Option.some.inj this).symm
          cases he
          have e0 := (hbel.cell (World.block_lt_of_cell? _ _ c0)).trans c0
          have e1 := (hbel.cell (World.block_lt_of_cell? _ _ d0)).trans d0
          have e2 := (hbel.cell (World.block_lt_of_cell? _ _ c3)).trans c3
          have e3 := (hbel.cell (World.block_lt_of_cell? _ _ d3)).trans d3
          have hx8 := HF.out _ (List.mem_of_getElem? HX.out)
          simp only at hx8
          clear hc1 hc2 c0 d0 c3 d3
          have cE := fun (W : World) (hW : Below w0.heap.size w0 W) => Lib.hid (equal_any p p a1 a2 c1 c2 xs xs W (HI.out.below hW (Nat.le_refl _)).ints (HI2.out.below hW (Nat.le_refl _)).ints (by omega))
          simp only [decide_true] at cE
          have cN := fun (W : World) (hW : Below w0.heap.size w0 W) => Lib.hid (num_yes (HS0.out.below hW) k p a2 c2 xs (HI2.out.below hW (Nat.le_refl _)) HX.out)
          have cH := fun (W : World) (hW : Below w0.heap.size w0 W) => Lib.hid (has_yes (HS0.out.below hW) k p a2 c2 xs (HI2.out.below hW (Nat.le_refl _)) HX.out)
          go_upto_region 7 with fail
          go_region_held3 (fun w' => Below w0.heap.size w0 w' ∧ w'.cell? ⟨b1, o1 + k * 2, none⟩ = some (.int .i64 p) ∧ w'.cell? ⟨b1, o1 + k * 2 + 1, none⟩ = some (.slice a1 xs.length c1) ∧ w'.cell? ⟨b2, o2 + k * 2, none⟩ = some (.int .i64 p) ∧ w'.cell? ⟨b2, o2 + k * 2 + 1, none⟩ = some (.slice a2 xs.length c2)) (first | assumption | exact ⟨hbel.drew, e0, e1, e2, e3⟩ | go_keep) (first
            | (go_at_call 35
               have hH := (‹Below w0.heap.size w0 _ ∧ _ ∧ _›)
               with_reducible refine (cE _ hH.1).out.mono ?_
               rintro e w1 ⟨rfl, hb⟩
               have hS : Below w0.heap.size w0 w1 ∧ w1.cell? ⟨b1, o1 + k * 2, none⟩ = some (.int .i64 p) ∧ w1.cell? ⟨b1, o1 + k * 2 + 1, none⟩ = some (.slice a1 xs.length c1) ∧ w1.cell? ⟨b2, o2 + k * 2, none⟩ = some (.int .i64 p) ∧ w1.cell? ⟨b2, o2 + k * 2 + 1, none⟩ = some (.slice a2 xs.length c2) := ⟨hH.1.trans (hb.mono hH.1.size), on_cell hb hH.2.1, on_cell hb hH.2.2.1, on_cell hb hH.2.2.2.1, on_cell hb hH.2.2.2.2⟩)
            | (go_at_call 39
               have hH := (‹Below w0.heap.size w0 _ ∧ _ ∧ _›)
               with_reducible refine (cN _ hH.1).out.mono ?_
               rintro e w1 ⟨rfl, hb⟩
               have hS : Below w0.heap.size w0 w1 ∧ w1.cell? ⟨b1, o1 + k * 2, none⟩ = some (.int .i64 p) ∧ w1.cell? ⟨b1, o1 + k * 2 + 1, none⟩ = some (.slice a1 xs.length c1) ∧ w1.cell? ⟨b2, o2 + k * 2, none⟩ = some (.int .i64 p) ∧ w1.cell? ⟨b2, o2 + k * 2 + 1, none⟩ = some (.slice a2 xs.length c2) := ⟨hH.1.trans (hb.mono hH.1.size), on_cell hb hH.2.1, on_cell hb hH.2.2.1, on_cell hb hH.2.2.2.1, on_cell hb hH.2.2.2.2⟩)
            | (go_at_call 46
               have hH := (‹Below w0.heap.size w0 _ ∧ _ ∧ _›)
               with_reducible refine (cH _ hH.1).out.mono ?_
               rintro e w1 ⟨rfl, hb⟩
               have hS : Below w0.heap.size w0 w1 ∧ w1.cell? ⟨b1, o1 + k * 2, none⟩ = some (.int .i64 p) ∧ w1.cell? ⟨b1, o1 + k * 2 + 1, none⟩ = some (.slice a1 xs.length c1) ∧ w1.cell? ⟨b2, o2 + k * 2, none⟩ = some (.int .i64 p) ∧ w1.cell? ⟨b2, o2 + k * 2 + 1, none⟩ = some (.slice a2 xs.length c2) := ⟨hH.1.trans (hb.mono hH.1.size), on_cell hb hH.2.1, on_cell hb hH.2.2.1, on_cell hb hH.2.2.2.1, on_cell hb hH.2.2.2.2⟩))
          all_goals
            have hE := (‹Below w0.heap.size w0 _ ∧ _ ∧ _›).1
            go_wp2
            go_roundw
            case rel => exact ⟨k + 1, by omega, by go_num, hE⟩
            case measure => simp [intOf]; omega
    · obtain ⟨w1, hw1⟩ : ∃ w1, w1 = wr := ⟨_, rfl⟩
      subst hw1
      have HR1 := Lib.hid (HRw.out.below hbel (Nat.le_refl _))
      have HS1 := Lib.hid (HS0.out.below hbel)
      have hb1 := hb0.trans (hbel.mono hb0.size)
      clear HRl HRw HS0
      go_wp2
      go_loopw [10] (fun i wr => ∃ q : Int, -1 ≤ q ∧ q ≤ preds + 1 ∧ i = .int .i64 q ∧ Below w1.heap.size w1 wr) (fun i _ => (preds + 1 - intOf i).toNat)
      case atStart => exact ⟨-1, by omega, by omega, rfl, Below.refl _ _⟩
      case round =>
        obtain ⟨q, hq0, hq1, rfl, hbel1⟩ := hrel
        obtain ⟨wo, hwo⟩ : ∃ wo, wo = wr := ⟨_, rfl⟩
        subst hwo
        by_cases hqp : q ≤ preds
        · go_wp2
          go_loopw [11, 12] (fun v i wr => ∃ j : Nat, j ≤ σ.rows.length ∧ i = .int .i64 j ∧ wr.ownsRow wo.heap.size 3 1 v (ofK (σ.rows.take j) (.int .i64 q)).length ((ofK (σ.rows.take j) (.int .i64 q)).map (Value.int .i64)) ∧ Below wo.heap.size wo wr) (fun _ i _ => σ.rows.length - (intOf i).toNat)
          case atStart => exact ⟨0, Nat.zero_le _, rfl, World.ownsRow_nil _ _ _ _, Below.refl _ _⟩
          case round =>
            obtain ⟨j, hj, rfl, hown, hbel2⟩ := hrel
            by_cases hlt2 : j < σ.rows.length
            · rcases HR1.out.1 with hn | ⟨b2, o2, rfl, _, hc2⟩
              · rw [hn] at hlt2; simp at hlt2
              · obtain ⟨p, a2, c2, xs, c3, d3, HI2, HX⟩ := rows_at hc2 hlt2
                have e2 := (hbel2.cell (Nat.lt_of_lt_of_le (World.block_lt_of_cell? _ _ c3) hbel1.size)).trans ((hbel1.cell (World.block_lt_of_cell? _ _ c3)).trans c3)
                have hlj : (σ.rows.take j).length = j := by simp; omega
                have hK := ofK_at (σ.rows.take j) (p, xs) q
                rw [← take_snoc' HX.out, hlj] at hK
                have hlenK : (ofK (σ.rows.take j) (.int .i64 q)).length ≤ (σ.rows.take j).length := idxL_length (fun r => Value.int .i64 q = .int .i64 r.1) (σ.rows.take j)
                rw [hlj] at hlenK
                obtain ⟨L, hL⟩ : ∃ L, ofK (σ.rows.take j) (.int .i64 q) = L := ⟨_, rfl⟩
                rw [hL] at hown hK hlenK
                have HK := Lib.hid hK
                have sz2 := hbel2.size
                clear hc2 c3 d3 hK hL
                by_cases hpq : p = q
                · subst hpq
                  go_wp2_with (at_builtin; refine wpList_append_any elemInt _ rfl _ _ rfl wo.heap.size _ L.length (L.map (Value.int .i64)) rfl (hown.alloc _) (some ⟨wr.heap.size, 0, none⟩) 1 1 [.int .i64 (j : Int)] rfl (source_new _ _ _) rfl (by simp [Value.oneCell']) (by unfold maxLen; omega) (by omega) (by simp; omega) ?_; intro v' w2 hown2 hgrow2 _)
                  have hb4 : Below wo.heap.size wo w2 := (hbel2.alloc sz2 _).grown hgrow2 (by simp; omega) (fun j hj => by have := (hown.lt j hj).1; omega)
                  go_roundw
                  case rel => exact ⟨j + 1, by omega, by go_num, by rw [HK.out, if_pos rfl]; simpa using hown2, hb4⟩
                  case measure => simp [intOf]; omega
                · have hne : (p == q) = false := by simpa using hpq
                  go_wp2
                  go_roundw
                  case rel => exact ⟨j + 1, by omega, by go_num, by rw [HK.out, if_neg hpq]; exact hown, hbel2⟩
                  case measure => simp [intOf]; omega
            · have hje : j = σ.rows.length := by omega
              subst hje
              rw [List.take_length] at hown
              have hlenK : (ofK σ.rows (.int .i64 q)).length ≤ σ.rows.length := idxL_length (fun r => Value.int .i64 q = .int .i64 r.1) σ.rows
              have hbB := hbel1.trans (hbel2.mono hbel1.size)
              obtain ⟨av, cv, hv, hI⟩ := intsZ_of_row hown
              have HOf := Lib.hid (of_any (HS1.out.below hbB) q ⟨by omega, by omega⟩ hB)
              have HIv := Lib.hid hI
              subst hv
              clear hown hI
              go_wp2_with (first
                | (go_at_call 36; refine HOf.out.mono ?_; rintro e w3 ⟨a3, c3, rfl, hI3, hb3⟩; have hE3 := Lib.hid (equalInts_any a3 av c3 cv (ofK σ.rows (.int .i64 q)) (ofK σ.rows (.int .i64 q)) w3 hI3.ints (HIv.out.below hb3 (Nat.le_refl _)).ints (by omega)); simp only [decide_true] at hE3)
                | (go_at_call 18; refine hE3.out.mono ?_; rintro e w4 ⟨rfl, n4, rfl⟩))
              go_roundw
              case rel => exact ⟨q + 1, by omega, by omega, by go_num, below_drewN (hbB.trans (hb3.mono hbB.size)) _⟩
              case measure => simp [intOf]; omega
        · go_wp2
          go_ret
          exact ⟨rfl, hb1.trans (hbel1.mono hb1.size)⟩
end Go.Proofs.Ytgodidoibcomcaa
