/-
  What Extend does: the program's.
-/
import Derived.Test.YtkejjiohkhlnnaaExtL
import Derived.Test.YtkejjiohkhlnnaaRefExt
import Derived.Laws.OwnMore
import Derived.Deep.RegionHeld3
namespace Go.Proofs.Ytkejjiohkhlnnaa
open Go.RowKit
namespace Mt
theorem addr_add0 (b j : Nat) : (⟨b, 0, none⟩ : Addr).add j = ⟨b, j, none⟩ := by unfold Addr.add; split <;> simp_all

theorem row_at {ys : List Int} {zs : List Z} {k : Nat} {z : Z} (h : zs[k]? = some z) : rowL ys (zs.drop k) = if z.1.1 = true then (if 0 ≤ ys.getD z.1.2.toNat 0 ∧ ys.getD z.1.2.toNat 0 ≠ z.2 then none else rowL (ys.set z.1.2.toNat z.2) (zs.drop (k + 1)))
    else if z.1.2 = z.2 then rowL ys (zs.drop (k + 1)) else none := by
  rw [drop_at h]; rfl
theorem made_ints (m : Nat) : (madeCells (Value.int .i64 0).cells (m * 1)).toList = (List.replicate m (0 : Int)).map (Value.int .i64) := by
  rw [Nat.mul_one]
  exact (toList_madeCells_one _ _).trans (by simp)
theorem row_cell {w : World} {base e g n cap : Nat} {ys : List Int} (h : w.ownsRow base e 1 (.slice (some ⟨g, 0, none⟩) n cap) n (ys.map (Value.int .i64))) {k : Nat} {y : Int} (hy : ys[k]? = some y) : w.cell? ⟨g, k, none⟩ = some (.int .i64 y) := by
  have := h.cells (g := g) rfl k (.int .i64 y) (by rw [List.getElem?_map, hy]; rfl)
  rw [addr_add0] at this
  exact this
theorem base_done {ys sub : List Int} {m : Nat} (hl : ys.length = m) (h : ∀ j, j < m → ys[j]? = some (boundL sub (j : Int))) : ys = baseL sub m := by
  apply List.ext_getElem?
  intro j
  by_cases hj : j < m
  · rw [h j hj]; simp [baseL, hj]
  · rw [List.getElem?_eq_none (by omega), List.getElem?_eq_none (by simp [baseL]; omega)]
set_option maxRecDepth 8000 in
set_option maxHeartbeats 20000000 in
theorem extend_any (pred : Int) (ap aa ab : Option Addr) (cp ca cb : Nat) (l : List (Bool × Int)) (args sub : List Int) (w : World) (hp : Slots w ap l) (ha : Ints w aa args) (hb : Ints w ab sub)
    (hl : l.length * 16 ≤ 140737488351232) (hs : sub.length * 8 ≤ 140737488351232) :
    Calls Try.prog 30 #[.agg #[.int .i64 pred, .slice ap l.length cp], .slice aa args.length ca, .slice ab sub.length cb] w (ExtEnd (extL l args sub) w) := by
  obtain ⟨i0, hi, hz0, hz1, hz2⟩ := info_parts info3
  obtain ⟨R, hR⟩ : ∃ R, extL l args sub = R := ⟨_, rfl⟩
  have HR := Lib.hid hR
  rw [hR]
  clear hR
  by_cases hle : l.length = args.length
  case neg =>
    have hRn : R = none := by rw [← HR.out]; simp [extL, hle]
    subst hRn
    clear HR hp ha hb
    have hne : (((l.length : Int)) != (args.length : Int)) = true := by simpa using (by omega : (l.length : Int) ≠ args.length)
    go_enter Try.func30, Try.ntmps30
    go_wp2
    go_ret2
    exact ⟨none, 0, rfl, .inl rfl, (Below.refl _ _).alloc (Nat.le_refl _) _⟩
  have hb0 : Below w.heap.size w (w.alloc (.cells #[.int .i64 pred, .slice ap l.length cp] 27)) := (Below.refl _ _).alloc (Nat.le_refl _) _
  have HP := Lib.hid (hp.below hb0 (Nat.le_refl _))
  have HA := Lib.hid (ha.below hb0)
  have HB := Lib.hid (hb.below hb0)
  have hAP := atP_new w 27 pred ap l.length cp
  obtain ⟨zs, hzs⟩ : ∃ zs, l.zip args = zs := ⟨_, rfl⟩
  have HZ := Lib.hid hzs
  have HL := Lib.hid hle
  rw [← hle]
  clear hp ha hb hzs hle
  go_enter Try.func30, Try.ntmps30
  go_wp2
  have bsz : w.heap.size < (w.alloc (.cells #[.int .i64 pred, .slice ap l.length cp] 27)).heap.size := by simp
  generalize w.alloc (.cells #[.int .i64 pred, .slice ap l.length cp] 27) = w0 at *
  generalize hbq : w.heap.size = b at *
  have HQ := Lib.hid hbq
  clear hbq
  go_loopw [8, 26] (fun mv i wr => ∃ (k m : Nat), k ≤ l.length ∧ mv = .int .i64 m ∧ i = .int .i64 k ∧ m ≤ max sub.length 16 ∧ Hid (chkL badP sub.length zs = chkL badP m (zs.drop k)) ∧ Below w0.heap.size w0 wr) (fun _ i _ => l.length - (intOf i).toNat)
  case atStart => exact ⟨0, sub.length, Nat.zero_le _, rfl, rfl, Nat.le_max_left _ _, Lib.hid rfl, Below.refl _ _⟩
  case round =>
    obtain ⟨k, m, hk, rfl, rfl, hmm, HK, bel⟩ := hrel
    by_cases hlt : k < l.length
    · obtain ⟨bp, op, rfl, v0, n0, c0, c1, HS⟩ := slots_some HP.out hlt
      obtain ⟨ba, oa, rfl, x, c2, HX⟩ := ints_some HA.out (by rw [← HL.out]; exact hlt : k < args.length)
      have hzk : zs[k]? = some ((v0, n0), x) := by rw [← HZ.out]; exact zip_at HS.out HX.out
      have HN := Lib.hid (HK.out.trans (chk_at hzk))
      clear HS HX hzk HK
      have lp := World.block_lt_of_cell? _ _ c0
      have la := World.block_lt_of_cell? _ _ c2
      simp only at lp la
      have e0 := (bel.cell (p := ⟨bp, op + k * 2, none⟩) lp).trans c0
      have e1 := (bel.cell (p := ⟨bp, op + k * 2 + 1, none⟩) lp).trans c1
      have e2 := (bel.cell (p := ⟨ba, oa + k, none⟩) la).trans c2
      have lp := Nat.lt_of_lt_of_le lp bel.size
      have la := Nat.lt_of_lt_of_le la bel.size
      clear c0 c1 c2
      by_cases h1 : n0 < 0
      · have hRn : R = none := by rw [← HR.out]; unfold extL; rw [if_pos HL.out, HZ.out, HN.out]; simp [badP, h1]
        subst hRn
        have d1 : decide (n0 < 0) = true := by simpa using h1
        clear HN HR
        go_wp2
        go_ret2
        exact ⟨none, 0, rfl, .inl rfl, by rw [HQ.out]; exact hb0.trans ((bel.alloc bel.size _).mono (Nat.le_of_lt bsz))⟩
      have d1 : decide (n0 < 0) = false := by simpa using h1
      by_cases h2 : x < 0
      · have hRn : R = none := by rw [← HR.out]; unfold extL; rw [if_pos HL.out, HZ.out, HN.out]; simp [badP, h1, h2]
        subst hRn
        have d2 : decide (x < 0) = true := by simpa using h2
        clear HN HR
        go_wp2
        go_ret2
        exact ⟨none, 0, rfl, .inl rfl, by rw [HQ.out]; exact hb0.trans ((bel.alloc bel.size _).mono (Nat.le_of_lt bsz))⟩
      have d2 : decide (x < 0) = false := by simpa using h2
      cases v0 with
      | true =>
        by_cases h3 : 16 ≤ n0
        · have hRn : R = none := by rw [← HR.out]; unfold extL; rw [if_pos HL.out, HZ.out, HN.out]; simp [badP, h1, h2, h3]
          subst hRn
          have d3 : decide ((16 : Int) ≤ n0) = true := by simpa using h3
          clear HN HR
          go_wp2
          go_ret2
          exact ⟨none, 0, rfl, .inl rfl, by rw [HQ.out]; exact hb0.trans ((bel.alloc bel.size _).mono (Nat.le_of_lt bsz))⟩
        have d3 : decide ((16 : Int) ≤ n0) = false := by simpa using h3
        obtain ⟨q, rfl⟩ := Int.eq_ofNat_of_zero_le (show 0 ≤ n0 by omega)
        have HN2 : Hid (chkL badP sub.length zs = chkL badP (max m (q + 1)) (zs.drop (k + 1))) := Lib.hid (by rw [HN.out]; simp [badP, h1, h2, h3])
        clear HN
        go_wp2
        go_roundw
        case rel => exact ⟨k + 1, (max m (q + 1)), by omega, by congr 1; split <;> omega, by go_num, by omega, HN2, bel.alloc bel.size _⟩
        case measure => simp [intOf]; omega
      | false =>
        have HN2 : Hid (chkL badP sub.length zs = chkL badP m (zs.drop (k + 1))) := Lib.hid (by rw [HN.out]; simp [badP, h1, h2])
        clear HN
        go_wp2
        go_roundw
        case rel => exact ⟨k + 1, m, by omega, rfl, by go_num, by omega, HN2, bel.alloc bel.size _⟩
        case measure => simp [intOf]; omega
    · have hz : zs.length = l.length := by rw [← HZ.out]; simp [HL.out]
      have HCH : Hid (chkL badP sub.length zs = some m) := Lib.hid (by
        have h1 := HK.out
        rw [List.drop_eq_nil_of_le (by omega)] at h1
        exact h1)
      have HM : Hid (rowL (baseL sub m) zs = R) := Lib.hid (by
        rw [← HR.out]; unfold extL; rw [if_pos HL.out, HZ.out, HCH.out]; rfl)
      clear HK HR hz
      go_wp2_with (at_make; refine wpList_make_full _ rfl _ _ 22 rfl w0.heap.size 3 i0 (.int .i64 0) 1 Try.underlying22 hi hz0 hz1 .i64 .i64 _ _ m rfl rfl rfl rfl (by rw [hz2]; omega) (by unfold maxLen; omega) bel.size ?_; intro w1 hown1 hgrow1; rw [made_ints] at hown1; have bel1 : Below w0.heap.size w0 w1 := bel.grown hgrow1 bel.size (fun j hj => by cases hj); clear hgrow1; generalize wr.heap.size = g at *)
      go_loopw [62] (fun i w2 => ∃ (k2 : Nat) (ys : List Int), k2 ≤ m ∧ i = .int .i64 k2 ∧ Hid (ys.length = m) ∧ Hid (∀ j, j < k2 → ys[j]? = some (boundL sub (j : Int))) ∧ w2.ownsRow w0.heap.size 3 1 (.slice (some ⟨g, 0, none⟩) m m) m (ys.map (Value.int .i64)) ∧ Below w0.heap.size w0 w2) (fun i _ => m - (intOf i).toNat)
      case atStart => exact ⟨0, _, Nat.zero_le _, rfl, Lib.hid (by simp), Lib.hid (fun j hj => by omega), hown1, bel1⟩
      case round =>
        clear bel bel1 hown1 hlt hk
        obtain ⟨k2, ys, hk2, rfl, HYL, HYS, hown, bel⟩ := hrel
        by_cases hlt2 : k2 < m
        · obtain ⟨x, hx⟩ : ∃ x, boundL sub (k2 : Int) = x := ⟨_, rfl⟩
          have cB := bound_any ab cb sub (k2 : Int) wr (HB.out.below bel) (by omega)
          rw [hx] at cB
          have HX := Lib.hid hx
          clear hx
          have hf := hown.frozenAt k2
          obtain ⟨y, hy⟩ : ∃ y, ys[k2]? = some y := ⟨_, List.getElem?_eq_getElem (by rw [HYL.out]; exact hlt2)⟩
          have hc := row_cell hown hy
          clear hy
          go_wp2_with fail
          refine cB.mono ?_
          rintro e w3 ⟨rfl, rfl⟩
          go_wp2
          go_roundw
          case rel => exact ⟨k2 + 1, ys.set k2 x, by omega, by go_num, Lib.hid (by rw [List.length_set]; exact HYL.out), Lib.hid (fun j hj => by
              rw [List.getElem?_set]
              split
              · rename_i h; subst h; rw [if_pos (by rw [HYL.out]; omega), HX.out]
              · exact HYS.out j (by omega)), by have := (hown.stored k2 (.int .i64 x)).1; rwa [← List.map_set] at this, bel.setCell (hown.lt g rfl).1 _⟩
          case measure => simp [intOf]; omega
        · have hys : ys = baseL sub m := base_done HYL.out (fun j hj => HYS.out j (by omega))
          obtain ⟨p0, p1⟩ := hAP.below bel bsz
          have HYL0 := HYL.out
          clear HYL HYS
          go_wp2
          go_loopw [75] (fun i w2 => ∃ (k3 : Nat) (ys : List Int), k3 ≤ l.length ∧ i = .int .i64 k3 ∧ Hid (ys.length = m) ∧ Hid (rowL (baseL sub m) zs = rowL ys (zs.drop k3)) ∧ w2.ownsRow w0.heap.size 3 1 (.slice (some ⟨g, 0, none⟩) m m) m (ys.map (Value.int .i64)) ∧ Below w0.heap.size w0 w2) (fun i _ => l.length - (intOf i).toNat)
          case atStart => exact ⟨0, ys, Nat.zero_le _, rfl, Lib.hid HYL0, Lib.hid (by rw [hys]; rfl), hown, bel⟩
          case round =>
            clear bel hown hys HYL0 hlt2 hk2 p0 p1
            clear ys
            obtain ⟨k3, ys, hk3, rfl, HYL, HRW, hown, bel⟩ := hrel
            by_cases hlt3 : k3 < l.length
            · obtain ⟨bp, op, rfl, v0, n0, c0, c1, HS⟩ := slots_some HP.out hlt3
              obtain ⟨ba, oa, rfl, a, c2, HX⟩ := ints_some HA.out (by rw [← HL.out]; exact hlt3 : k3 < args.length)
              have hzk : zs[k3]? = some ((v0, n0), a) := by rw [← HZ.out]; exact zip_at HS.out HX.out
              have HN := Lib.hid (HRW.out.trans (row_at hzk))
              have HIN := Lib.hid (chk_in HCH.out _ (List.mem_of_getElem? hzk))
              clear HS HX hzk HRW
              have lp := World.block_lt_of_cell? _ _ c0
              have la := World.block_lt_of_cell? _ _ c2
              simp only at lp la
              have gb := (hown.lt g rfl).1
              have gs := (hown.lt g rfl).2
              have hga : ba ≠ g := by omega
              have hgw : wr.heap.size ≠ g := by omega
              have e0 := (bel.cell (p := ⟨bp, op + k3 * 2, none⟩) lp).trans c0
              have e1 := (bel.cell (p := ⟨bp, op + k3 * 2 + 1, none⟩) lp).trans c1
              have e2 := (bel.cell (p := ⟨ba, oa + k3, none⟩) la).trans c2
              have lp := Nat.lt_of_lt_of_le lp bel.size
              have la := Nat.lt_of_lt_of_le la bel.size
              clear c0 c1 c2
              cases v0 with
              | false =>
                clear HIN
                by_cases h3 : n0 = a
                · subst h3
                  have d3 : (n0 != n0) = false := by simp
                  have HN2 : Hid (rowL (baseL sub m) zs = rowL ys (zs.drop (k3 + 1))) := Lib.hid (by rw [HN.out]; simp)
                  clear HN
                  go_wp2
                  go_quiet (fail)
                  go_wp2
                  go_roundw
                  case rel => exact ⟨k3 + 1, ys, by omega, by go_num, HYL, HN2, hown.alloc _, below_drewN (bel.alloc bel.size _) _⟩
                  case measure => simp [intOf]; omega
                · have d3 : (n0 != a) = true := by simpa using h3
                  have hRn : R = none := by rw [← HM.out, HN.out]; simp [h3]
                  subst hRn
                  clear HN HM
                  go_wp2
                  go_quiet (fail)
                  go_wp2
                  go_ret2
                  exact ⟨none, 0, rfl, .inl rfl, by rw [HQ.out]; exact hb0.trans ((below_drewN (bel.alloc bel.size _) _).mono (Nat.le_of_lt bsz))⟩
              | true =>
                obtain ⟨hn0, hnm⟩ := HIN.out rfl
                simp only at hn0 hnm
                obtain ⟨q, rfl⟩ := Int.eq_ofNat_of_zero_le hn0
                have hqm : q < m := by omega
                clear HIN hn0
                obtain ⟨y, hy⟩ : ∃ y, ys[q]? = some y := ⟨_, List.getElem?_eq_getElem (by rw [HYL.out]; exact hqm)⟩
                have HY : Hid (ys[q]?.getD 0 = y) := Lib.hid (by rw [hy]; rfl)
                have e3 := row_cell hown hy
                have hf := hown.frozenAt q
                have zq : (0 : Int) ≤ (q : Int) := by omega
                clear hy
                by_cases hx : 0 ≤ y
                · have d2 : decide (0 ≤ y) = true := by simpa using hx
                  by_cases hxa : y = a
                  · subst hxa
                    have d3 : (y != y) = false := by simp
                    have HN2 : Hid (rowL (baseL sub m) zs = rowL (ys.set q y) (zs.drop (k3 + 1))) := Lib.hid (by rw [HN.out]; simp [HY.out])
                    clear HN HY
                    go_wp2
                    go_quiet (fail)
                    go_wp2
                    have sz := bel.size
                    go_region_held3 (fun w' => w'.cell? ⟨wr.heap.size, 1, none⟩ = some (.int .i64 (q : Int)) ∧ w'.cell? ⟨ba, oa + k3, none⟩ = some (.int .i64 y)) (first | exact ⟨(World.cell?_setCell_far _ _ _ _ hgw.symm).trans (by go_keep), (World.cell?_setCell_far _ _ _ _ hga.symm).trans (by go_keep)⟩ | go_keep) (fail)
                    go_wp2
                    go_roundw
                    case rel => exact ⟨k3 + 1, ys.set q y, by omega, by go_num, Lib.hid (by rw [List.length_set]; exact HYL.out), HN2, by
                        have := ((hown.alloc (.cells #[.bool true, .int .i64 (q : Int)] 58)).stored q (.int .i64 y)).1
                        rw [← List.map_set] at this
                        exact this, ((below_drewN (bel.alloc bel.size _) (nq + 1)).setCell (by exact gb) _)⟩
                    case measure => simp [intOf]; omega
                  · have d3 : (y != a) = true := by simpa using hxa
                    have hRn : R = none := by rw [← HM.out, HN.out]; simp [HY.out, hx, hxa]
                    subst hRn
                    clear HN HM HY
                    go_wp2
                    go_quiet (fail)
                    go_wp2
                    go_ret2
                    exact ⟨none, 0, rfl, .inl rfl, by rw [HQ.out]; exact hb0.trans ((below_drewN (bel.alloc bel.size _) _).mono (Nat.le_of_lt bsz))⟩
                · have d2 : decide (0 ≤ y) = false := by simpa using hx
                  have HN2 : Hid (rowL (baseL sub m) zs = rowL (ys.set q a) (zs.drop (k3 + 1))) := Lib.hid (by rw [HN.out]; simp [HY.out, hx])
                  clear HN HY
                  go_wp2
                  go_quiet (fail)
                  go_wp2
                  have sz := bel.size
                  go_region_held3 (fun w' => w'.cell? ⟨wr.heap.size, 1, none⟩ = some (.int .i64 (q : Int)) ∧ w'.cell? ⟨ba, oa + k3, none⟩ = some (.int .i64 a)) (first | exact ⟨(World.cell?_setCell_far _ _ _ _ hgw.symm).trans (by go_keep), (World.cell?_setCell_far _ _ _ _ hga.symm).trans (by go_keep)⟩ | go_keep) (fail)
                  go_wp2
                  go_roundw
                  case rel => exact ⟨k3 + 1, ys.set q a, by omega, by go_num, Lib.hid (by rw [List.length_set]; exact HYL.out), HN2, by
                      have := ((hown.alloc (.cells #[.bool true, .int .i64 (q : Int)] 58)).stored q (.int .i64 a)).1
                      rw [← List.map_set] at this
                      exact this, ((below_drewN (bel.alloc bel.size _) (nq + 1)).setCell (by exact gb) _)⟩
                  case measure => simp [intOf]; omega
            · have hz : zs.length = l.length := by rw [← HZ.out]; simp [HL.out]
              have hRs : R = some ys := by
                rw [← HM.out, HRW.out, List.drop_eq_nil_of_le (by omega)]; rfl
              subst hRs
              clear HRW HM
              go_wp2
              go_ret2
              have hYL := HYL.out
              subst hYL
              exact ⟨_, _, rfl, .inr ⟨g, 0, rfl, fun i hi => by rw [Nat.zero_add]; exact row_cell hown (List.getElem?_eq_getElem hi)⟩, by rw [HQ.out]; exact hb0.trans (bel.mono (Nat.le_of_lt bsz))⟩
end Mt
end Go.Proofs.Ytkejjiohkhlnnaa

