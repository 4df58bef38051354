/-
  The walk of the law StoreFound.
-/
import Derived.Test.YtgodidoibcomcaaSHolds
import Derived.Test.YtgodidoibcomcaaSWhere
namespace Go.Proofs.Ytgodidoibcomcaa
open Go.RowKit
open Go.Maps (Keyed)

theorem noInts {P : Program} {f : Nat} {args : Array Value} {w0 w : World} (h : Calls P f args w0 (IntsEnd [] w)) : Calls P f args w0 fun e w' => ∃ a c, e = .returned (.slice a 0 c) ∧ Below w.heap.size w w' :=
  h.mono fun _ _ ⟨a, c, h1, _, h2⟩ => ⟨a, c, h1, h2⟩

set_option maxHeartbeats 16000000 in
set_option maxRecDepth 8000 in
theorem found_any (aa ab : Option Addr) (ca cb : Nat) (ar : List Int) (m : List Row) (odd : Int) (w : World) (ha : IntsZ (fun _ => True) w aa ca ar) (hb : RowsZ (fun _ => True) w ab cb m) (hlar : ar.length ≤ 9223372036854775807)
    (hr : ∀ r ∈ m, RowOk r) (hodd : Rng odd) (hsum : m.length ≤ 1000000000) :
    Calls Try.prog 4 #[.slice aa ar.length ca, .slice ab m.length cb, .int .i64 odd] w fun e w' => e = .returned (.bool true) ∧ Below w.heap.size w w' := by
  have HA := Lib.hid (ha.zone (Z' := fun j => noOwn j = none) (fun _ _ => rfl))
  have HB := Lib.hid (hb.zone (Z' := fun j => noOwn j = none) (fun _ _ => rfl))
  have HR := Lib.hid hr
  have HOdd := Lib.hid hodd
  have cF := Lib.hid (fits_any aa ca ar w ha.ints hlar)
  by_cases hf : fitsL ar = true
  · have hl := fits_len hf
    have cM := Lib.hid (made_any (s := 0) (τ := noOwn) aa ca ar w (fun _ _ => rfl) ha.ints hf)
    have HF := Lib.hid hf
    rw [hf] at cF
    obtain ⟨M, hM⟩ : ∃ M, m.map (shape ar) = M := ⟨_, rfl⟩
    have hMl : M.length ≤ 1000000000 := by rw [← hM]; simpa using hsum
    have hfit : ∀ r ∈ (madeSt ar).rows ++ M, FitsRow (madeSt ar).ar r := fun r hr' => by
      rcases List.mem_append.1 hr' with hr' | hr'
      · have : r = ((ar.length : Int), []) := by simpa [madeSt, St.push] using hr'
        subst this
        exact fits_row0
      · rw [← hM] at hr'
        obtain ⟨x, hx, rfl⟩ := List.mem_map.1 hr'
        exact shape_fits hf (hr x hx)
    obtain ⟨J, hJ⟩ : ∃ J, joinedL (madeSt ar).rows M = J := ⟨_, rfl⟩
    have hJ1 : 1 ≤ J.length := by rw [← hJ]; exact joinedL_ge (madeSt ar).rows M
    have hJ2 : J.length ≤ 1 + M.length := by rw [← hJ]; exact joinedL_length (madeSt ar).rows M
    have hfitJ : ∀ r ∈ J, FitsRow (madeSt ar).ar r := fun r hr' => by
      rw [← hJ, joinedL_mem] at hr'
      exact hfit r (List.mem_append.2 hr')
    have hrowsJ : ((madeSt ar).addAll J).rows = J := by rw [addAll_rows, ← hJ]; exact joinedL_twice _ _
    have hJ8 : ∀ r ∈ (madeSt ar).rows ++ M, r.2.length * 8 ≤ 140737488351232 := fun r hr' => by have := (hfit r hr').2.2.2.1; omega
    have HFJ := Lib.hid hfitJ
    have HRJ := Lib.hid hrowsJ
    have HJ := Lib.hid hJ
    have HJ8 := Lib.hid hJ8
    have HM := Lib.hid hM
    clear ha hb hr hf hodd hfit hfitJ hrowsJ hJ hJ8 hM
    go_enter Try.func4, Try.ntmps4
    go_wp2_with (first
      | (go_at_call 12; refine cF.out.mono ?_; rintro e w0 ⟨rfl, rfl⟩)
      | (go_at_call 13; refine cM.out.mono ?_; rintro e w1 ⟨sb, τ1, rfl, hs1, T1⟩
         have hbb : Below w1.heap.size w1 (w1.alloc (.cells #[.int .i64 (ar.length : Int), .slice none 0 0] 28)) := (Below.refl _ _).alloc (Nat.le_refl _) _
         have T2 : Turn 0 (fun _ => True) noOwn τ1 w0 (w1.alloc (.cells #[.int .i64 (ar.length : Int), .slice none 0 0] 28)) := T1.trans (Turn.of_below hbb T1.fresh)
         have HS2 := Lib.hid (hs1.below hbb)
         have hw2 : RowsZ (fun j => τ1 j = none) (w1.alloc (.cells #[.int .i64 (ar.length : Int), .slice none 0 0] 28)) (some ⟨w1.heap.size, 0, none⟩) 1 (madeSt ar).rows := ⟨.inr ⟨w1.heap.size, 0, rfl, T1.fresh _ (Nat.le_refl _), fun i hi => by
           have : i = 0 := by simp [madeSt, St.push] at hi; omega
           subst this
           exact ⟨by simp [madeSt, St.push], none, 0, by simp [madeSt, St.push], .inl rfl, fun _ => ⟨rfl, rfl⟩⟩⟩, fun h => by cases h⟩
         have HW2 := Lib.hid hw2
         have HT2 := Lib.hid T2
         have cS := Lib.hid (shaped_any (Z := fun j => τ1 j = none) _ ab ca cb ar m _ (free_turn T2 HA.out).ints HF.out (freeRows_turn T2 HB.out) (fun r hr => HR.out r hr) (by omega))
         rw [HM.out] at cS
         clear hs1 T1 hbb T2 hw2)
      | (go_at_call 14; refine cS.out.mono ?_; rintro e w2 ⟨vm, rfl, hOm, hb2⟩
         obtain ⟨am, cm, rfl, hRm⟩ := hOm.rowsZ (fun _ h => h)
         have hRm' := hRm.zone (Z' := fun j => τ1 j = none) (fun j hj => HT2.out.fresh j hj)
         have cJ := Lib.hid (joined_any (some ⟨w1.heap.size, 0, none⟩) am 1 cm (madeSt ar).rows M w2 (HW2.out.below hb2 (Nat.le_refl _)) hRm' (fun r hr => HJ8.out r (List.mem_append.2 (.inl hr))) (fun r hr => HJ8.out r (List.mem_append.2 (.inr hr))) (by have h1 : (madeSt ar).rows.length = 1 := rfl; omega))
         rw [HJ.out, show (madeSt ar).rows.length = 1 from rfl] at cJ
         clear hOm hRm hRm')
      | (go_at_call 15; refine cJ.out.mono ?_; rintro e w3 ⟨vj, rfl, hOj, hb3⟩
         have sz2 := hb2.size
         obtain ⟨aj, cj, rfl, hRj⟩ := hOj.rowsZ (fun _ h => .inr h)
         have HRj := Lib.hid (hRj.zone (Z' := fun j => τ1 j = none) (fun j hj => by
           rcases hj with hj | hj
           · exact hj
           · exact HT2.out.fresh j (Nat.le_trans sz2 hj)))
         have hb23 := hb2.trans (hb3.mono sz2)
         have T3 : Turn 0 (fun _ => True) noOwn τ1 w0 w3 := HT2.out.trans (Turn.of_below hb23 HT2.out.fresh)
         have cA := Lib.hid (add_any (HS2.out.below hb23) aj cj J HRj.out HFJ.out (by show 1 + J.length ≤ _; omega))
         simp only [HRJ.out] at cA
         rw [show (madeSt ar).rows.length = 1 from rfl] at cA
         have HT3 := Lib.hid T3
         clear hOj hRj T3 cJ cS cM cF HS2 HW2 HT2 hb2 hb3 hb23 sz2)
      | (go_at_call 16; refine cA.out.mono ?_; rintro e w4 ⟨rfl, τ4, hs4, T4⟩
         have hw4 := freeRows_turn T4 HRj.out
         have hN : J = ((madeSt ar).addAll J).rows := HRJ.out.symm
         have hw4' := hw4
         rw [hN] at hw4'
         have cH := Lib.hid (holds_any hs4 ((ar.length : Int) + 1) aj cj hw4' (by omega) (by omega) (by rw [HRJ.out]; omega))
         rw [HRJ.out] at cH
         have HS4 := Lib.hid hs4
         have HW4 := Lib.hid hw4
         have HT4 := Lib.hid (HT3.out.trans T4)
         clear hN hw4 hw4' hs4 T4 HRj HT3 cA)
      | (go_at_call 17; refine cH.out.mono ?_; rintro e w5 ⟨rfl, hb5⟩
         have HW5 := Lib.hid (HW4.out.below hb5 (Nat.le_refl _))
         have HT5 := Lib.hid (HT4.out.trans (Turn.of_below hb5 HT4.out.fresh))
         have cW := fun (W : World) (hW : Below w5.heap.size w5 W) (p i x : Int) (hp : Rng p) (hi : Rng i) (hx : Rng x) => Lib.hid (show Calls Try.prog 19 #[.pointer (some ⟨sb, 0, none⟩), .int .i64 p, .int .i64 i, .int .i64 x] W (IntsEnd (whK J (placeV p i x)) W) by
           obtain ⟨h, hst⟩ := (HS4.out.below hb5).below hW
           have := where_any hst p i x hp hi hx (by rw [HRJ.out]; omega)
           rw [HRJ.out] at this
           exact this)
         clear HS4 HW4 HT4 cH hb5))
    go_loopw [11] (fun v wr => ∃ i : Nat, i ≤ J.length ∧ v = .int .i64 i ∧ Below w5.heap.size w5 wr) (fun v _ => J.length - (intOf v).toNat)
    case atStart => exact ⟨0, Nat.zero_le _, rfl, Below.refl _ _⟩
    case round =>
      obtain ⟨i, hi, rfl, hbel1⟩ := hrel
      obtain ⟨wo1, hwo1⟩ : ∃ wo1, wo1 = wr := ⟨_, rfl⟩
      subst hwo1
      by_cases hlt1 : i < J.length
      · rcases HW5.out.1 with hn | ⟨bw, ow, rfl, _, hcw⟩
        · rw [hn] at hlt1; simp at hlt1
        · have HCW := Lib.hid hcw
          obtain ⟨p, a1, c1, xs, d0, d1, HI1, HX1⟩ := rows_at hcw hlt1
          have e0 := (hbel1.cell (World.block_lt_of_cell? _ _ d0)).trans d0
          have e1 := (hbel1.cell (World.block_lt_of_cell? _ _ d1)).trans d1
          have hfr := HFJ.out _ (List.mem_of_getElem? HX1.out)
          have hpR : Rng p := keyI_rng hfr (by show (ar ++ [0]).length ≤ 128; simp; omega) p (by simp [keyI])
          have hx8 : xs.length ≤ 8 := hfr.2.2.2.1
          have hxR : ∀ x ∈ xs, Rng x := fun x hx => by have := hfr.2.2.2.2 x hx; exact ⟨by omega, by omega⟩
          have HFR := Lib.hid hfr
          have HXR := Lib.hid hxR
          have HPR := Lib.hid hpR
          clear hcw d0 d1 hfr hxR hpR
          have hbb : Below wo1.heap.size wo1 (wo1.alloc (.cells #[.int .i64 p, .slice a1 xs.length c1] 28)) := (Below.refl _ _).alloc (Nat.le_refl _) _
          have y0 : (wo1.alloc (.cells #[.int .i64 p, .slice a1 xs.length c1] 28)).cell? ⟨wo1.heap.size, 0, none⟩ = some (.int .i64 p) := by simp
          have y1 : (wo1.alloc (.cells #[.int .i64 p, .slice a1 xs.length c1] 28)).cell? ⟨wo1.heap.size, 1, none⟩ = some (.slice a1 xs.length c1) := by simp
          go_wp2
          obtain ⟨W1, hW1⟩ : ∃ W1, W1 = wo1.alloc (.cells #[.int .i64 p, .slice a1 xs.length c1] 28) := ⟨_, rfl⟩
          obtain ⟨b12, hb12⟩ : ∃ b12, b12 = wo1.heap.size := ⟨_, rfl⟩
          have hb51 : Below w5.heap.size w5 W1 := by rw [hW1]; exact hbel1.trans (hbb.mono hbel1.size)
          rw [← hW1, ← hb12] at y0 y1
          rw [← hW1, ← hb12]
          clear hW1 hb12 hbb e0 e1
          go_loopw [13] (fun v wr => ∃ j : Nat, j ≤ xs.length ∧ v = .int .i64 j ∧ Below W1.heap.size W1 wr) (fun v _ => xs.length - (intOf v).toNat)
          case atStart => exact ⟨0, Nat.zero_le _, rfl, Below.refl _ _⟩
          case round =>
            obtain ⟨j, hj, rfl, hbel2⟩ := hrel
            obtain ⟨wo2, hwo2⟩ : ∃ wo2, wo2 = wr := ⟨_, rfl⟩
            subst hwo2
            have z0 := (hbel2.cell (World.block_lt_of_cell? _ _ y0)).trans y0
            have z1 := (hbel2.cell (World.block_lt_of_cell? _ _ y1)).trans y1
            have hb52 : Below w5.heap.size w5 wo2 := hb51.trans (hbel2.mono hb51.size)
            by_cases hlt2 : j < xs.length
            · rcases HI1.out.1 with hn | ⟨ba, oa, rfl, _, hca⟩
              · rw [hn] at hlt2; simp at hlt2
              · have d2 := hca j hlt2
                obtain ⟨x, hx⟩ : ∃ x, xs[j]? = some x := ⟨_, List.getElem?_eq_getElem hlt2⟩
                rw [List.getElem?_eq_getElem hlt2] at hx
                rw [Option.some.inj hx] at d2
                have hx : xs[j]? = some x := by rw [List.getElem?_eq_getElem hlt2]; exact hx
                have HX2 := Lib.hid hx
                have z2 := (hb52.cell (World.block_lt_of_cell? _ _ d2)).trans d2
                have lt2 := Nat.lt_of_lt_of_le (World.block_lt_of_cell? _ _ z2) (Nat.le_refl _)
                clear hca hx d2
                go_wp2
                go_loopw [14, 15, 16] (fun v o i wr => ∃ (k : Nat) (bo : Bool), k ≤ J.length ∧ i = .int .i64 k ∧ o = .bool bo ∧ Hid (bo = true ↔ ∃ r ∈ J.take k, AtP p j odd r) ∧ wr.ownsRow wo2.heap.size 3 1 v (idxL (AtP p j x) (J.take k)).length ((idxL (AtP p j x) (J.take k)).map (Value.int .i64)) ∧ Below wo2.heap.size wo2 wr) (fun _ _ i _ => J.length - (intOf i).toNat)
                case atStart => exact ⟨0, false, Nat.zero_le _, rfl, rfl, Lib.hid (by simp), World.ownsRow_nil _ _ _ _, Below.refl _ _⟩
                case round =>
                  obtain ⟨k, bo, hk, rfl, rfl, HB', hown, hbel3⟩ := hrel
                  by_cases hlt3 : k < J.length
                  · obtain ⟨q, a2, c2, ys, d3, d4, HI3, HX3⟩ := rows_at HCW.out hlt3
                    have u0 := (hb52.cell (World.block_lt_of_cell? _ _ d3)).trans d3
                    have u1 := (hb52.cell (World.block_lt_of_cell? _ _ d4)).trans d4
                    have f0 := on_cell hbel3 u0
                    have f1 := on_cell hbel3 u1
                    have f3 := on_cell hbel3 z0
                    have f4 := on_cell hbel3 z1
                    have f5 := on_cell hbel3 z2
                    have hlk : (J.take k).length = k := by simp; omega
                    have hlenL : (idxL (AtP p j x) (J.take k)).length ≤ (J.take k).length := idxL_length _ _
                    rw [hlk] at hlenL
                    have hsn := idxL_snoc (AtP p j x) (J.take k) (q, ys)
                    rw [← take_snoc' HX3.out, hlk] at hsn
                    have hex : ∀ b : Bool, (b = true ↔ (bo = true ∨ AtP p j odd (q, ys))) → (b = true ↔ ∃ r ∈ J.take (k + 1), AtP p j odd r) := fun b hb => by
                      rw [hb, HB'.out, take_snoc' HX3.out]
                      constructor
                      · rintro (⟨r, h1, h2⟩ | h)
                        · exact ⟨r, List.mem_append.2 (.inl h1), h2⟩
                        · exact ⟨(q, ys), by simp, h⟩
                      · rintro ⟨r, h1, h2⟩
                        rcases List.mem_append.1 h1 with h1 | h1
                        · exact .inl ⟨r, h1, h2⟩
                        · rw [List.mem_singleton] at h1
                          subst h1
                          exact .inr h2
                    have hfk := HFJ.out _ (List.mem_of_getElem? HX3.out)
                    obtain ⟨L, hL⟩ : ∃ L, idxL (AtP p j x) (J.take k) = L := ⟨_, rfl⟩
                    rw [hL] at hown hsn hlenL
                    have HSn := Lib.hid hsn
                    have HEx := Lib.hid hex
                    have HFk := Lib.hid hfk
                    clear hsn hex hfk hL d3 d4
                    by_cases hqp : q = p
                    · subst hqp
                      have hlen : ys.length = xs.length := by
                        have h1 := HFR.out.2.2.1
                        have h2 := HFk.out.2.2.1
                        simp only at h1 h2
                        rw [h1] at h2
                        have := Option.some.inj h2
                        omega
                      rcases HI3.out.1 with hn | ⟨bb, ob, rfl, _, hcb⟩
                      · rw [hn] at hlen; simp at hlen; omega
                      · have d5 := hcb j (by omega)
                        obtain ⟨y, hy⟩ : ∃ y, ys[j]? = some y := ⟨_, List.getElem?_eq_getElem (by omega)⟩
                        rw [List.getElem?_eq_getElem (by omega)] at hy
                        rw [Option.some.inj hy] at d5
                        have hy : ys[j]? = some y := by rw [List.getElem?_eq_getElem (by omega)]; exact hy
                        have u2 := (hb52.cell (World.block_lt_of_cell? _ _ d5)).trans d5
                        have f2 := on_cell hbel3 u2
                        have HY := Lib.hid hy
                        clear hcb d5 hy
                        by_cases hyx : y = x
                        · subst hyx
                          have hA : AtP q j y (q, ys) := ⟨rfl, HY.out⟩
                          cases bo
                          · by_cases hyo : y = odd
                            · have hyof : (y == odd) = true := by simpa using hyo
                              have HN := Lib.hid (HEx.out true (by simp; exact ⟨rfl, by rw [HY.out, hyo]⟩))
                              clear hyo
                              go_wp2
                              go_quiet (fail)
                              go_wp2_with (at_builtin; refine wpList_append_any elemInt _ rfl _ _ rfl wo2.heap.size _ L.length (L.map (Value.int .i64)) rfl (by exact hown.alloc _) (some ⟨wr.heap.size, 0, none⟩) 1 1 [.int .i64 (k : Int)] rfl (by exact source_new wr [.int .i64 (k : Int)] 3) rfl (by simp [Value.oneCell']) (by unfold maxLen; omega) (by omega) (by have := hbel3.size; simp; omega) ?_; intro v' w6 hown6 hgrow6 _; have hb6 : Below wo2.heap.size wo2 w6 := hbel3.trans ((((Below.refl wr.heap.size wr).alloc (Nat.le_refl _) (.cells #[.int .i64 (k : Int)] 3)).mono hbel3.size).trans (grown_below (B := wo2.heap.size) (w := wr.alloc (.cells #[.int .i64 (k : Int)] 3)) (row := u14.ownBlock) ⟨hgrow6.os, hgrow6.tape, hgrow6.output, hgrow6.size, hgrow6.block⟩ (fun j hj => (hown.lt j hj).1) (by rw [asz]; have := hbel3.size; omega))); have g0 := on_cell hb6 u0; have g1 := on_cell hb6 u1; have g2 := on_cell hb6 u2; have g3 := on_cell hb6 z0; have g4 := on_cell hb6 z1; have g5 := on_cell hb6 z2)
                              go_quiet (fail)
                              go_wp2
                              go_roundw
                              case rel => exact ⟨k + 1, true, by omega, by go_num, rfl, (by first | exact HN | exact Lib.hid (by simpa using HN.out)), by rw [HSn.out, if_pos hA, List.length_append, List.map_append]; exact hown6, below_drewN hb6 _⟩
                              case measure => simp [intOf]; omega
                            · have hyof : (y == odd) = false := by simpa using hyo
                              have HN := Lib.hid (HEx.out false (by simp; exact fun h => hyo (Option.some.inj (HY.out.symm.trans h.2))))
                              clear hyo
                              go_wp2
                              go_quiet (fail)
                              go_wp2_with (at_builtin; refine wpList_append_any elemInt _ rfl _ _ rfl wo2.heap.size _ L.length (L.map (Value.int .i64)) rfl (by exact hown.alloc _) (some ⟨wr.heap.size, 0, none⟩) 1 1 [.int .i64 (k : Int)] rfl (by exact source_new wr [.int .i64 (k : Int)] 3) rfl (by simp [Value.oneCell']) (by unfold maxLen; omega) (by omega) (by have := hbel3.size; simp; omega) ?_; intro v' w6 hown6 hgrow6 _; have hb6 : Below wo2.heap.size wo2 w6 := hbel3.trans ((((Below.refl wr.heap.size wr).alloc (Nat.le_refl _) (.cells #[.int .i64 (k : Int)] 3)).mono hbel3.size).trans (grown_below (B := wo2.heap.size) (w := wr.alloc (.cells #[.int .i64 (k : Int)] 3)) (row := u14.ownBlock) ⟨hgrow6.os, hgrow6.tape, hgrow6.output, hgrow6.size, hgrow6.block⟩ (fun j hj => (hown.lt j hj).1) (by rw [asz]; have := hbel3.size; omega))); have g0 := on_cell hb6 u0; have g1 := on_cell hb6 u1; have g2 := on_cell hb6 u2; have g3 := on_cell hb6 z0; have g4 := on_cell hb6 z1; have g5 := on_cell hb6 z2)
                              go_quiet (fail)
                              go_wp2
                              go_roundw
                              case rel => exact ⟨k + 1, false, by omega, by go_num, rfl, (by first | exact HN | exact Lib.hid (by simpa using HN.out)), by rw [HSn.out, if_pos hA, List.length_append, List.map_append]; exact hown6, below_drewN hb6 _⟩
                              case measure => simp [intOf]; omega
                          · have HN := Lib.hid (HEx.out true (by simp))
                            go_wp2
                            go_quiet (fail)
                            go_wp2_with (at_builtin; refine wpList_append_any elemInt _ rfl _ _ rfl wo2.heap.size _ L.length (L.map (Value.int .i64)) rfl (by exact hown.alloc _) (some ⟨wr.heap.size, 0, none⟩) 1 1 [.int .i64 (k : Int)] rfl (by exact source_new wr [.int .i64 (k : Int)] 3) rfl (by simp [Value.oneCell']) (by unfold maxLen; omega) (by omega) (by have := hbel3.size; simp; omega) ?_; intro v' w6 hown6 hgrow6 _; have hb6 : Below wo2.heap.size wo2 w6 := hbel3.trans ((((Below.refl wr.heap.size wr).alloc (Nat.le_refl _) (.cells #[.int .i64 (k : Int)] 3)).mono hbel3.size).trans (grown_below (B := wo2.heap.size) (w := wr.alloc (.cells #[.int .i64 (k : Int)] 3)) (row := u14.ownBlock) ⟨hgrow6.os, hgrow6.tape, hgrow6.output, hgrow6.size, hgrow6.block⟩ (fun j hj => (hown.lt j hj).1) (by rw [asz]; have := hbel3.size; omega))); have g0 := on_cell hb6 u0; have g1 := on_cell hb6 u1; have g2 := on_cell hb6 u2; have g3 := on_cell hb6 z0; have g4 := on_cell hb6 z1; have g5 := on_cell hb6 z2)
                            go_quiet (fail)
                            go_wp2
                            go_roundw
                            case rel => exact ⟨k + 1, true, by omega, by go_num, rfl, (by first | exact HN | exact Lib.hid (by simpa using HN.out)), by rw [HSn.out, if_pos hA, List.length_append, List.map_append]; exact hown6, below_drewN hb6 _⟩
                            case measure => simp [intOf]; omega
                        · have hyxf : (y == x) = false := by simpa using hyx
                          have hA : ¬ AtP q j x (q, ys) := fun h => hyx (Option.some.inj (HY.out.symm.trans h.2))
                          cases bo
                          · by_cases hyo : y = odd
                            · have hyof : (y == odd) = true := by simpa using hyo
                              have HN := Lib.hid (HEx.out true (by simp; exact ⟨rfl, by rw [HY.out, hyo]⟩))
                              clear hyo
                              go_wp2
                              go_quiet (fail)
                              go_wp2
                              go_quiet (fail)
                              go_wp2
                              go_roundw
                              case rel => exact ⟨k + 1, true, by omega, by go_num, rfl, (by first | exact HN | exact Lib.hid (by simpa using HN.out)), by rw [HSn.out, if_neg hA, List.append_nil]; exact hown, below_drewN hbel3 _⟩
                              case measure => simp [intOf]; omega
                            · have hyof : (y == odd) = false := by simpa using hyo
                              have HN := Lib.hid (HEx.out false (by simp; exact fun h => hyo (Option.some.inj (HY.out.symm.trans h.2))))
                              clear hyo
                              go_wp2
                              go_quiet (fail)
                              go_wp2
                              go_quiet (fail)
                              go_wp2
                              go_roundw
                              case rel => exact ⟨k + 1, false, by omega, by go_num, rfl, (by first | exact HN | exact Lib.hid (by simpa using HN.out)), by rw [HSn.out, if_neg hA, List.append_nil]; exact hown, below_drewN hbel3 _⟩
                              case measure => simp [intOf]; omega
                          · have HN := Lib.hid (HEx.out true (by simp))
                            go_wp2
                            go_quiet (fail)
                            go_wp2
                            go_quiet (fail)
                            go_wp2
                            go_roundw
                            case rel => exact ⟨k + 1, true, by omega, by go_num, rfl, (by first | exact HN | exact Lib.hid (by simpa using HN.out)), by rw [HSn.out, if_neg hA, List.append_nil]; exact hown, below_drewN hbel3 _⟩
                            case measure => simp [intOf]; omega
                    · have hqpf : (q == p) = false := by simpa using hqp
                      have hA : ¬ AtP p j x (q, ys) := fun h => hqp h.1
                      cases bo
                      · have HN := Lib.hid (HEx.out false (by simp; exact fun h => hqp h.1))
                        go_wp2
                        go_quiet (fail)
                        go_wp2
                        go_quiet (fail)
                        go_wp2
                        go_roundw
                        case rel => exact ⟨k + 1, false, by omega, by go_num, rfl, (by first | exact HN | exact Lib.hid (by simpa using HN.out)), by rw [HSn.out, if_neg hA, List.append_nil]; exact hown, below_drewN hbel3 _⟩
                        case measure => simp [intOf]; omega
                      · have HN := Lib.hid (HEx.out true (by simp))
                        go_wp2
                        go_quiet (fail)
                        go_wp2
                        go_quiet (fail)
                        go_wp2
                        go_roundw
                        case rel => exact ⟨k + 1, true, by omega, by go_num, rfl, (by first | exact HN | exact Lib.hid (by simpa using HN.out)), by rw [HSn.out, if_neg hA, List.append_nil]; exact hown, below_drewN hbel3 _⟩
                        case measure => simp [intOf]; omega
                  · have hke : k = J.length := by omega
                    subst hke
                    rw [List.take_length] at hown HB'
                    have f3 := on_cell hbel3 z0
                    have f4 := on_cell hbel3 z1
                    have f5 := on_cell hbel3 z2
                    have hWL := whK_nat J p j x
                    have hWO := whK_nat J p j odd
                    have hlenL : (idxL (AtP p j x) J).length ≤ J.length := idxL_length _ _
                    obtain ⟨L, hL⟩ : ∃ L, idxL (AtP p j x) J = L := ⟨_, rfl⟩
                    rw [hL] at hown hWL hlenL
                    have hjR : Rng (j : Int) := ⟨by omega, by omega⟩
                    have hxR : Rng x := HXR.out x (List.mem_of_getElem? HX2.out)
                    have hb53 : Below w5.heap.size w5 wr := hb52.trans (hbel3.mono hb52.size)
                    have cWx := fun (W : World) (hW : Below wo2.heap.size wo2 W) => Lib.hid (show Calls Try.prog 19 #[.pointer (some ⟨sb, 0, none⟩), .int .i64 p, .int .i64 j, .int .i64 x] W (IntsEnd L W) by
                      have := (cW W (hb52.trans (hW.mono hb52.size)) p j x HPR.out hjR hxR).out
                      rw [hWL] at this
                      exact this)
                    have cWo := fun (W : World) (hW : Below wo2.heap.size wo2 W) => Lib.hid (show Calls Try.prog 19 #[.pointer (some ⟨sb, 0, none⟩), .int .i64 p, .int .i64 j, .int .i64 odd] W (IntsEnd (idxL (AtP p j odd) J) W) by
                      have := (cW W (hb52.trans (hW.mono hb52.size)) p j odd HPR.out hjR HOdd.out).out
                      rw [hWO] at this
                      exact this)
                    obtain ⟨av, cv, hv, hIv⟩ := intsZ_of_row hown
                    have HIv := Lib.hid hIv
                    subst hv
                    clear hWL hWO hL hown hIv
                    go_upto_region 25 with fail
                    go_region_held3 (fun w' => Below wo2.heap.size wo2 w' ∧ w'.cell? ⟨b12, 0, none⟩ = some (.int .i64 p) ∧ w'.cell? ⟨b12, 1, none⟩ = some (.slice (some ⟨ba, oa, none⟩) xs.length c1) ∧ w'.cell? ⟨ba, oa + j, none⟩ = some (.int .i64 x)) (first | assumption | exact ⟨hbel3.drew, f3, f4, f5⟩ | go_keep) (first
                      | (go_at_call 19
                         have hH := (‹Below wo2.heap.size wo2 _ ∧ _ ∧ _›)
                         with_reducible refine (cWx _ hH.1).out.mono ?_
                         rintro e w7 ⟨a7, c7, rfl, hI7, hb7⟩
                         have hS : Below wo2.heap.size wo2 w7 ∧ w7.cell? ⟨b12, 0, none⟩ = some (.int .i64 p) ∧ w7.cell? ⟨b12, 1, none⟩ = some (.slice (some ⟨ba, oa, none⟩) xs.length c1) ∧ w7.cell? ⟨ba, oa + j, none⟩ = some (.int .i64 x) := ⟨hH.1.trans (hb7.mono hH.1.size), on_cell hb7 hH.2.1, on_cell hb7 hH.2.2.1, on_cell hb7 hH.2.2.2⟩
                         have HI7 := Lib.hid hI7
                         clear hI7
                         have hwr7 : Below wr.heap.size wr w7 := (Below.refl _ _).drew.trans hb7
                         have hE := Lib.hid (equalInts_any a7 av c7 cv L L w7 HI7.out.ints (HIv.out.below hwr7 (Nat.le_refl _)).ints (by omega))
                         simp only [decide_true] at hE)
                      | (go_at_call 18
                         have hH := (‹Below wo2.heap.size wo2 _ ∧ _ ∧ _›)
                         with_reducible refine hE.out.mono ?_
                         rintro e w8 ⟨rfl, n8, rfl⟩
                         have hS8 : Below wo2.heap.size wo2 (w7.drewN n8) ∧ (w7.drewN n8).cell? ⟨b12, 0, none⟩ = some (.int .i64 p) ∧ (w7.drewN n8).cell? ⟨b12, 1, none⟩ = some (.slice (some ⟨ba, oa, none⟩) xs.length c1) ∧ (w7.drewN n8).cell? ⟨ba, oa + j, none⟩ = some (.int .i64 x) := ⟨below_drewN hH.1 n8, hH.2.1, hH.2.2.1, hH.2.2.2⟩))
                    all_goals
                      have hE8 := hS8.1
                      have g0 := hS8.2.1
                      cases bo
                      · have hno : idxL (AtP p j odd) J = [] := idxL_none (fun r hr h => by
                          have := HB'.out.2 ⟨r, hr, h⟩
                          cases this)
                        have cW9 := cWo _ hE8
                        rw [hno] at cW9
                        go_wp2_with (go_at_call 19; refine cW9.out.mono ?_; rintro e w9 ⟨a9, c9, rfl, _, hb9⟩)
                        go_roundw
                        case rel => exact ⟨j + 1, by omega, by go_num, hbel2.trans ((hE8.trans (hb9.mono hE8.size)).mono hbel2.size)⟩
                        case measure => simp [intOf]; omega
                      · go_wp2
                        go_roundw
                        case rel => exact ⟨j + 1, by omega, by go_num, hbel2.trans (hE8.mono hbel2.size)⟩
                        case measure => simp [intOf]; omega
            · have hje : j = xs.length := by omega
              subst hje
              have hno : whK J (placeV p (xs.length : Nat) odd) = [] := by
                rw [whK_nat]
                refine idxL_none fun r hr h => ?_
                obtain ⟨h1, h2⟩ := h
                have hfr := HFJ.out r hr
                have e1 := HFR.out.2.2.1
                have e2 := hfr.2.2.1
                simp only at e1
                rw [h1, e1] at e2
                have := Option.some.inj e2
                have h3 := (List.getElem?_eq_some_iff.1 h2).1
                omega
              have cW1 := (cW wo2 hb52 p (xs.length : Nat) odd HPR.out ⟨by omega, by omega⟩ HOdd.out)
              rw [hno] at cW1
              replace cW1 := Lib.hid (noInts cW1.out)
              have cW2 := fun (W : World) (hW : Below wo2.heap.size wo2 W) => (cW W (hb52.trans (hW.mono hb52.size)) p (-1) odd HPR.out ⟨by omega, by omega⟩ HOdd.out)
              rw [whK_neg] at cW2
              replace cW2 := fun (W : World) (hW : Below wo2.heap.size wo2 W) => Lib.hid (noInts (cW2 W hW).out)
              replace cW2 := Lib.hid cW2
              clear hno
              replace cW := Lib.hid cW
              go_wp2_with (first
                | (go_at_call 19; with_reducible refine cW1.out.mono ?_; rintro e w7 ⟨a7, c7, rfl, hb7⟩; have f0 := on_cell hb7 z0; have f1 := on_cell hb7 z1)
                | (go_at_call 19; with_reducible refine (cW2.out _ hb7).out.mono ?_; rintro e w8 ⟨a8, c8, rfl, hb8⟩))
              go_roundw
              case rel => exact ⟨i + 1, by omega, by go_num, hb52.trans ((hb7.trans (hb8.mono hb7.size)).mono hb52.size)⟩
              case measure => simp [intOf]; omega
      · go_wp2
        go_ret
        exact ⟨rfl, below_of_turn (HT5.out.trans (Turn.of_below hbel1 HT5.out.fresh))⟩
  · have hff : fitsL ar = false := by simpa using hf
    rw [hff] at cF
    clear ha hb hr hf
    go_enter Try.func4, Try.ntmps4
    go_wp2_with (go_at_call 12; refine cF.out.mono ?_; rintro e w0 ⟨rfl, rfl⟩)
    go_ret
    exact ⟨rfl, Below.refl _ _⟩
end Go.Proofs.Ytgodidoibcomcaa
