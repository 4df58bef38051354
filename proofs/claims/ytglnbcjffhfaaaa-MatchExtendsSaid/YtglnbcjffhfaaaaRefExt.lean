/-
  What Extend does: the reference's.
-/
import Derived.Test.YtglnbcjffhfaaaaExtL
import Derived.Test.YtglnbcjffhfaaaaGroundsLaw
namespace Go.Proofs.Ytglnbcjffhfaaaa
open Go.RowKit
namespace Mt

/-- what a call of Extend leaves -/
def ExtEnd (R : Option (List Int)) (w : World) (e : Ending) (w' : World) : Prop :=
  ∃ a c, e = .returned (.tuple #[.slice a (R.getD []).length c, .bool R.isSome]) ∧ Ints w' a (R.getD []) ∧ Below w.heap.size w w'
theorem chk_at {bad : Z → Bool} {m : Nat} {zs : List Z} {k : Nat} {z : Z} (h : zs[k]? = some z) : chkL bad m (zs.drop k) = if bad z then none else chkL bad (if z.1.1 then max m (z.1.2.toNat + 1) else m) (zs.drop (k + 1)) := by
  rw [drop_at h]; rfl
theorem col_at {i : Nat} {x : Int} {zs : List Z} {k : Nat} {z : Z} (h : zs[k]? = some z) : colL i x (zs.drop k) = if z.1.1 = true ∧ z.1.2 = i then (if 0 ≤ x ∧ x ≠ z.2 then none else colL i z.2 (zs.drop (k + 1))) else colL i x (zs.drop (k + 1)) := by
  rw [drop_at h]; rfl
theorem ints_some {w : World} {a : Option Addr} {xs : List Int} (h : Ints w a xs) {k : Nat} (hk : k < xs.length) : ∃ b o, a = some ⟨b, o, none⟩ ∧ ∃ x, w.cell? ⟨b, o + k, none⟩ = some (.int .i64 x) ∧ Hid (xs[k]? = some x) := by
  rcases h with rfl | ⟨b, o, rfl, hc⟩
  · simp at hk
  · exact ⟨b, o, rfl, ints_at hc hk⟩
theorem slots_some {w : World} {a : Option Addr} {l : List (Bool × Int)} (h : Slots w a l) {k : Nat} (hk : k < l.length) : ∃ b o, a = some ⟨b, o, none⟩ ∧ ∃ v n, w.cell? ⟨b, o + k * 2, none⟩ = some (.bool v) ∧ w.cell? ⟨b, o + k * 2 + 1, none⟩ = some (.int .i64 n) ∧ Hid (l[k]? = some (v, n)) := by
  rcases h with rfl | ⟨b, o, rfl, hc⟩
  · simp at hk
  · exact ⟨b, o, rfl, slots_at hc hk⟩
set_option maxRecDepth 8000 in
set_option maxHeartbeats 20000000 in
theorem refExtend_any (pred : Int) (ap aa ab : Option Addr) (cp ca cb : Nat) (l : List (Bool × Int)) (args sub : List Int) (w : World) (hp : Slots w ap l) (ha : Ints w aa args) (hb : Ints w ab sub)
    (hl : l.length * 16 ≤ 140737488351232) (hs : sub.length * 8 ≤ 140737488351232) :
    Calls Try.prog 14 #[.agg #[.int .i64 pred, .slice ap l.length cp], .slice aa args.length ca, .slice ab sub.length cb] w (ExtEnd (refExtL l args sub) w) := by
  obtain ⟨i0, hi, hz0, hz1, hz2⟩ := info_parts info3
  obtain ⟨R, hR⟩ : ∃ R, refExtL l args sub = R := ⟨_, rfl⟩
  have HR := Lib.hid hR
  rw [hR]
  clear hR
  by_cases hle : l.length = args.length
  case neg =>
    have hRn : R = none := by rw [← HR.out]; simp [refExtL, hle]
    subst hRn
    clear HR hp ha hb
    have hne : (((l.length : Int)) != (args.length : Int)) = true := by simpa using (by omega : (l.length : Int) ≠ args.length)
    go_enter Try.func14, Try.ntmps14
    go_wp2
    go_ret2
    exact ⟨none, 0, rfl, .inl rfl, (Below.refl _ _).alloc (Nat.le_refl _) _⟩
  have hb0 : Below w.heap.size w (w.alloc (.cells #[.int .i64 pred, .slice ap l.length cp] 24)) := (Below.refl _ _).alloc (Nat.le_refl _) _
  have HP := Lib.hid (hp.below hb0 (Nat.le_refl _))
  have HA := Lib.hid (ha.below hb0)
  have HB := Lib.hid (hb.below hb0)
  have hAP := atP_new w 24 pred ap l.length cp
  obtain ⟨zs, hzs⟩ : ∃ zs, l.zip args = zs := ⟨_, rfl⟩
  have HZ := Lib.hid hzs
  have HL := Lib.hid hle
  rw [← hle]
  clear hp ha hb hzs hle
  go_enter Try.func14, Try.ntmps14
  go_wp2
  have bsz : w.heap.size < (w.alloc (.cells #[.int .i64 pred, .slice ap l.length cp] 24)).heap.size := by simp
  generalize w.alloc (.cells #[.int .i64 pred, .slice ap l.length cp] 24) = w0 at *
  generalize hbq : w.heap.size = b at *
  have HQ := Lib.hid hbq
  clear hbq
  go_loopw [8, 27] (fun mv i wr => ∃ (k m : Nat), k ≤ l.length ∧ mv = .int .i64 m ∧ i = .int .i64 k ∧ m ≤ max sub.length 16 ∧ Hid (chkL badR sub.length zs = chkL badR m (zs.drop k)) ∧ Below w0.heap.size w0 wr) (fun _ i _ => l.length - (intOf i).toNat)
  case atStart => exact ⟨0, sub.length, Nat.zero_le _, rfl, rfl, Nat.le_max_left _ _, Lib.hid rfl, Below.refl _ _⟩
  case round =>
    obtain ⟨k, m, hk, rfl, rfl, hmm, HK, bel⟩ := hrel
    by_cases hlt : k < l.length
    · obtain ⟨bp, op, rfl, v0, n0, c0, c1, HS⟩ := slots_some HP.out hlt
      obtain ⟨ba, oa, rfl, x, c2, HX⟩ := ints_some HA.out (by rw [← HL.out]; exact hlt : k < args.length)
      have hzk : zs[k]? = some ((v0, n0), x) := by rw [← HZ.out]; exact zip_at HS.out HX.out
      have HN := Lib.hid (HK.out.trans (chk_at hzk))
      clear HS HX hzk HK
      have lp := World.block_lt_of_cell? _ _ c0
      have la := World.block_lt_of_cell? _ _ c2
      simp only at lp la
      have e0 := (bel.cell (p := ⟨bp, op + k * 2, none⟩) lp).trans c0
      have e1 := (bel.cell (p := ⟨bp, op + k * 2 + 1, none⟩) lp).trans c1
      have e2 := (bel.cell (p := ⟨ba, oa + k, none⟩) la).trans c2
      have lp := Nat.lt_of_lt_of_le lp bel.size
      have la := Nat.lt_of_lt_of_le la bel.size
      clear c0 c1 c2
      by_cases h1 : n0 < 0
      · have hRn : R = none := by rw [← HR.out]; unfold refExtL; rw [if_pos HL.out, HZ.out, HN.out]; simp [badR, badP, h1]
        subst hRn
        have d1 : decide (n0 < 0) = true := by simpa using h1
        clear HN HR
        go_wp2
        go_quiet (fail)
        go_wp2
        go_ret2
        exact ⟨none, 0, rfl, .inl rfl, by rw [HQ.out]; exact hb0.trans ((below_drewN (bel.alloc bel.size _) nq).mono (Nat.le_of_lt bsz))⟩
      have d1 : decide (n0 < 0) = false := by simpa using h1
      by_cases h2 : x < 0
      · have hRn : R = none := by rw [← HR.out]; unfold refExtL; rw [if_pos HL.out, HZ.out, HN.out]; simp [badR, badP, h1, h2]
        subst hRn
        have d2 : decide (x < 0) = true := by simpa using h2
        clear HN HR
        go_wp2
        go_quiet (fail)
        go_wp2
        go_ret2
        exact ⟨none, 0, rfl, .inl rfl, by rw [HQ.out]; exact hb0.trans ((below_drewN (bel.alloc bel.size _) nq).mono (Nat.le_of_lt bsz))⟩
      have d2 : decide (x < 0) = false := by simpa using h2
      cases v0 with
      | true =>
        by_cases h3 : 16 ≤ n0
        · have hRn : R = none := by rw [← HR.out]; unfold refExtL; rw [if_pos HL.out, HZ.out, HN.out]; simp [badR, badP, h1, h2, h3]
          subst hRn
          have d3 : decide ((16 : Int) ≤ n0) = true := by simpa using h3
          clear HN HR
          go_wp2
          go_quiet (fail)
          go_wp2
          go_ret2
          exact ⟨none, 0, rfl, .inl rfl, by rw [HQ.out]; exact hb0.trans ((below_drewN (bel.alloc bel.size _) nq).mono (Nat.le_of_lt bsz))⟩
        have d3 : decide ((16 : Int) ≤ n0) = false := by simpa using h3
        obtain ⟨q, rfl⟩ := Int.eq_ofNat_of_zero_le (show 0 ≤ n0 by omega)
        have HN2 : Hid (chkL badR sub.length zs = chkL badR (max m (q + 1)) (zs.drop (k + 1))) := Lib.hid (by rw [HN.out]; simp [badR, badP, cst, h1, h2, h3])
        clear HN
        go_wp2
        go_quiet (fail)
        go_wp2
        go_roundw
        case rel => exact ⟨k + 1, (max m (q + 1)), by omega, by congr 1; split <;> omega, by go_num, by omega, HN2, below_drewN (bel.alloc bel.size _) _⟩
        case measure => simp [intOf]; omega
      | false =>
        by_cases h3 : n0 = x
        · subst h3
          have HN2 : Hid (chkL badR sub.length zs = chkL badR m (zs.drop (k + 1))) := Lib.hid (by rw [HN.out]; simp [badR, badP, cst, h1])
          have d3 : (n0 != n0) = false := by simp
          clear HN
          go_wp2
          go_quiet (fail)
          go_wp2
          go_roundw
          case rel => exact ⟨k + 1, m, by omega, rfl, by go_num, by omega, HN2, below_drewN (bel.alloc bel.size _) _⟩
          case measure => simp [intOf]; omega
        have hRn : R = none := by rw [← HR.out]; unfold refExtL; rw [if_pos HL.out, HZ.out, HN.out]; simp [badR, badP, cst, h1, h2, h3]
        subst hRn
        have d3 : (n0 != x) = true := by simpa using h3
        clear HN HR
        go_wp2
        go_quiet (fail)
        go_wp2
        go_ret2
        exact ⟨none, 0, rfl, .inl rfl, by rw [HQ.out]; exact hb0.trans ((below_drewN (bel.alloc bel.size _) nq).mono (Nat.le_of_lt bsz))⟩
    · have hz : zs.length = l.length := by rw [← HZ.out]; simp [HL.out]
      have HM : Hid (tabL (fun (i : Nat) => colL i (boundL sub (i : Int)) zs) m = R) := Lib.hid (by
        have h1 := HK.out
        rw [List.drop_eq_nil_of_le (by omega)] at h1
        rw [← HR.out]; unfold refExtL; rw [if_pos HL.out, HZ.out, h1]; rfl)
      obtain ⟨p0, p1⟩ := hAP.below bel bsz
      clear HK HR hz
      go_wp2
      go_loopw [11, 74] (fun v i w2 => ∃ (k2 : Nat) (xs : List Int), k2 ≤ m ∧ i = .int .i64 k2 ∧ Hid (xs.length = k2) ∧ Hid (tabL (fun (i : Nat) => colL i (boundL sub (i : Int)) zs) k2 = some xs) ∧ w2.ownsRow w0.heap.size 3 1 v k2 (xs.map (Value.int .i64)) ∧ Below w0.heap.size w0 w2) (fun _ i _ => m - (intOf i).toNat)
      case atStart => exact ⟨0, [], Nat.zero_le _, rfl, Lib.hid rfl, Lib.hid rfl, World.ownsRow_nil _ _ _ _, bel⟩
      case round =>
        clear bel p0 p1 hlt hk
        obtain ⟨k2, xs, hk2, rfl, HXL, HXS, hown, bel⟩ := hrel
        by_cases hlt2 : k2 < m
        · by_cases hb1 : k2 < sub.length
          · obtain ⟨bb, ob, rfl, y, c3, HY⟩ := ints_some HB.out hb1
            have lb := World.block_lt_of_cell? _ _ c3
            simp only at lb
            have e3 := (bel.cell (p := ⟨bb, ob + k2, none⟩) lb).trans c3
            clear c3 lb
            by_cases hy : y < 0
            · have HC0 : Hid (boundL sub (k2 : Int) = (-1)) := Lib.hid (by rw [boundL_in HY.out, if_pos hy])
              have dy : decide (0 ≤ y) = false := by simp; omega
              obtain ⟨p0, p1⟩ := hAP.below bel bsz
              go_wp2
              go_loopw [13, 95] (fun xv j w3 => ∃ (j2 : Nat) (x : Int), j2 ≤ l.length ∧ xv = .int .i64 x ∧ j = .int .i64 j2 ∧ Hid (colL k2 (boundL sub (k2 : Int)) zs = colL k2 x (zs.drop j2)) ∧ w3.ownsRow w0.heap.size 3 1 u11 k2 (xs.map (Value.int .i64)) ∧ Below w0.heap.size w0 w3) (fun _ j _ => l.length - (intOf j).toNat)
              case atStart => exact ⟨0, (-1), Nat.zero_le _, rfl, rfl, Lib.hid (by rw [HC0.out]; rfl), hown, bel⟩
              case round =>
                clear bel p0 p1 HC0 hown e3 dy hy HY
                obtain ⟨j2, x, hj2, rfl, rfl, HCL, hown, bel⟩ := hrel
                by_cases hlt3 : j2 < l.length
                · obtain ⟨bp, op, rfl, v0, n0, c0, c1, HS⟩ := slots_some HP.out hlt3
                  obtain ⟨ba, oa, rfl, a, c2, HX⟩ := ints_some HA.out (by rw [← HL.out]; exact hlt3 : j2 < args.length)
                  have hzk : zs[j2]? = some ((v0, n0), a) := by rw [← HZ.out]; exact zip_at HS.out HX.out
                  have HN := Lib.hid (HCL.out.trans (col_at hzk))
                  clear HS HX hzk HCL
                  have lp := World.block_lt_of_cell? _ _ c0
                  have la := World.block_lt_of_cell? _ _ c2
                  simp only at lp la
                  have e0 := (bel.cell (p := ⟨bp, op + j2 * 2, none⟩) lp).trans c0
                  have e1 := (bel.cell (p := ⟨bp, op + j2 * 2 + 1, none⟩) lp).trans c1
                  have e2 := (bel.cell (p := ⟨ba, oa + j2, none⟩) la).trans c2
                  have lp := Nat.lt_of_lt_of_le lp bel.size
                  have la := Nat.lt_of_lt_of_le la bel.size
                  clear c0 c1 c2
                  by_cases hv : v0 = true ∧ n0 = k2
                  · obtain ⟨rfl, rfl⟩ := hv
                    have d1 : (((k2 : Int)) == (k2 : Int)) = true := by simp
                    by_cases hx : 0 ≤ x
                    · have d2 : decide (0 ≤ x) = true := by simpa using hx
                      by_cases hxa : x = a
                      · subst hxa
                        have d3 : (x != x) = false := by simp
                        have HN2 : Hid (colL k2 (boundL sub (k2 : Int)) zs = colL k2 x (zs.drop (j2 + 1))) := Lib.hid (by rw [HN.out]; simp)
                        clear HN
                        go_wp2
                        go_roundw
                        case rel => exact ⟨j2 + 1, x, by omega, rfl, by go_num, HN2, hown.alloc _, bel.alloc bel.size _⟩
                        case measure => simp [intOf]; omega
                      · have d3 : (x != a) = true := by simpa using hxa
                        have hRn : R = none := by rw [← HM.out]; exact tab_none (k := k2) (by rw [HN.out]; simp [hx, hxa]) hlt2
                        subst hRn
                        clear HN HM
                        go_wp2
                        go_ret2
                        exact ⟨none, 0, rfl, .inl rfl, by rw [HQ.out]; exact hb0.trans ((bel.alloc bel.size _).mono (Nat.le_of_lt bsz))⟩
                    · have d2 : decide (0 ≤ x) = false := by simpa using hx
                      have HN2 : Hid (colL k2 (boundL sub (k2 : Int)) zs = colL k2 a (zs.drop (j2 + 1))) := Lib.hid (by rw [HN.out]; simp [hx])
                      clear HN
                      go_wp2
                      go_roundw
                      case rel => exact ⟨j2 + 1, a, by omega, rfl, by go_num, HN2, hown.alloc _, bel.alloc bel.size _⟩
                      case measure => simp [intOf]; omega
                  · have HN2 : Hid (colL k2 (boundL sub (k2 : Int)) zs = colL k2 x (zs.drop (j2 + 1))) := Lib.hid (by rw [HN.out, if_neg hv])
                    clear HN
                    cases v0 with
                    | false =>
                      go_wp2
                      go_roundw
                      case rel => exact ⟨j2 + 1, x, by omega, rfl, by go_num, HN2, hown.alloc _, bel.alloc bel.size _⟩
                      case measure => simp [intOf]; omega
                    | true =>
                      have d1 : (n0 == (k2 : Int)) = false := by simpa using hv
                      go_wp2
                      go_roundw
                      case rel => exact ⟨j2 + 1, x, by omega, rfl, by go_num, HN2, hown.alloc _, bel.alloc bel.size _⟩
                      case measure => simp [intOf]; omega
                · have hz : zs.length = l.length := by rw [← HZ.out]; simp [HL.out]
                  have HF : Hid (tabL (fun (i : Nat) => colL i (boundL sub (i : Int)) zs) (k2 + 1) = some (xs ++ [x])) := Lib.hid (by
                    have h1 := HCL.out
                    rw [List.drop_eq_nil_of_le (by omega)] at h1
                    simp only [tabL, HXS.out, Option.bind_some, h1, colL, Option.map_some])
                  clear hz HCL HXS
                  go_wp2_with (first | (at_builtin; refine wpList_append_own _ rfl _ _ 25 rfl w0.heap.size 3 i0 (.int .i64 0) 1 8 Try.underlying25 hi hz0 hz1 hz2 rfl (by decide) _ _ _ rfl (hown.alloc _) ⟨wr.heap.size, 0, none⟩ 1 1 [.int .i64 x] rfl rfl (cell_one_new _ _ _) (by simp [Value.oneCell']) (by unfold maxLen; omega) (by omega) (by have := bel.size; simp <;> omega) ?_; intro v' w4 hown2 hgrow _))
                  have bel4 : Below w0.heap.size w0 w4 := (bel.alloc bel.size _).grown hgrow (by have := bel.size; simp <;> omega) (fun j hj => by have := (hown.alloc (Obj.cells #[.int .i64 x] 3)).lt j hj; omega)
                  go_wp2
                  go_roundw
                  case rel => exact ⟨k2 + 1, xs ++ [x], by omega, by go_num, Lib.hid (by simp [HXL.out]), HF, by simpa using hown2, bel4⟩
                  case measure => simp [intOf]; omega
            · have HC0 : Hid (boundL sub (k2 : Int) = y) := Lib.hid (by rw [boundL_in HY.out, if_neg hy])
              have dy : decide (0 ≤ y) = true := by simp; omega
              obtain ⟨p0, p1⟩ := hAP.below bel bsz
              go_wp2
              go_loopw [13, 95] (fun xv j w3 => ∃ (j2 : Nat) (x : Int), j2 ≤ l.length ∧ xv = .int .i64 x ∧ j = .int .i64 j2 ∧ Hid (colL k2 (boundL sub (k2 : Int)) zs = colL k2 x (zs.drop j2)) ∧ w3.ownsRow w0.heap.size 3 1 u11 k2 (xs.map (Value.int .i64)) ∧ Below w0.heap.size w0 w3) (fun _ j _ => l.length - (intOf j).toNat)
              case atStart => exact ⟨0, y, Nat.zero_le _, rfl, rfl, Lib.hid (by rw [HC0.out]; rfl), hown, bel⟩
              case round =>
                clear bel p0 p1 HC0 hown e3 dy hy HY
                obtain ⟨j2, x, hj2, rfl, rfl, HCL, hown, bel⟩ := hrel
                by_cases hlt3 : j2 < l.length
                · obtain ⟨bp, op, rfl, v0, n0, c0, c1, HS⟩ := slots_some HP.out hlt3
                  obtain ⟨ba, oa, rfl, a, c2, HX⟩ := ints_some HA.out (by rw [← HL.out]; exact hlt3 : j2 < args.length)
                  have hzk : zs[j2]? = some ((v0, n0), a) := by rw [← HZ.out]; exact zip_at HS.out HX.out
                  have HN := Lib.hid (HCL.out.trans (col_at hzk))
                  clear HS HX hzk HCL
                  have lp := World.block_lt_of_cell? _ _ c0
                  have la := World.block_lt_of_cell? _ _ c2
                  simp only at lp la
                  have e0 := (bel.cell (p := ⟨bp, op + j2 * 2, none⟩) lp).trans c0
                  have e1 := (bel.cell (p := ⟨bp, op + j2 * 2 + 1, none⟩) lp).trans c1
                  have e2 := (bel.cell (p := ⟨ba, oa + j2, none⟩) la).trans c2
                  have lp := Nat.lt_of_lt_of_le lp bel.size
                  have la := Nat.lt_of_lt_of_le la bel.size
                  clear c0 c1 c2
                  by_cases hv : v0 = true ∧ n0 = k2
                  · obtain ⟨rfl, rfl⟩ := hv
                    have d1 : (((k2 : Int)) == (k2 : Int)) = true := by simp
                    by_cases hx : 0 ≤ x
                    · have d2 : decide (0 ≤ x) = true := by simpa using hx
                      by_cases hxa : x = a
                      · subst hxa
                        have d3 : (x != x) = false := by simp
                        have HN2 : Hid (colL k2 (boundL sub (k2 : Int)) zs = colL k2 x (zs.drop (j2 + 1))) := Lib.hid (by rw [HN.out]; simp)
                        clear HN
                        go_wp2
                        go_roundw
                        case rel => exact ⟨j2 + 1, x, by omega, rfl, by go_num, HN2, hown.alloc _, bel.alloc bel.size _⟩
                        case measure => simp [intOf]; omega
                      · have d3 : (x != a) = true := by simpa using hxa
                        have hRn : R = none := by rw [← HM.out]; exact tab_none (k := k2) (by rw [HN.out]; simp [hx, hxa]) hlt2
                        subst hRn
                        clear HN HM
                        go_wp2
                        go_ret2
                        exact ⟨none, 0, rfl, .inl rfl, by rw [HQ.out]; exact hb0.trans ((bel.alloc bel.size _).mono (Nat.le_of_lt bsz))⟩
                    · have d2 : decide (0 ≤ x) = false := by simpa using hx
                      have HN2 : Hid (colL k2 (boundL sub (k2 : Int)) zs = colL k2 a (zs.drop (j2 + 1))) := Lib.hid (by rw [HN.out]; simp [hx])
                      clear HN
                      go_wp2
                      go_roundw
                      case rel => exact ⟨j2 + 1, a, by omega, rfl, by go_num, HN2, hown.alloc _, bel.alloc bel.size _⟩
                      case measure => simp [intOf]; omega
                  · have HN2 : Hid (colL k2 (boundL sub (k2 : Int)) zs = colL k2 x (zs.drop (j2 + 1))) := Lib.hid (by rw [HN.out, if_neg hv])
                    clear HN
                    cases v0 with
                    | false =>
                      go_wp2
                      go_roundw
                      case rel => exact ⟨j2 + 1, x, by omega, rfl, by go_num, HN2, hown.alloc _, bel.alloc bel.size _⟩
                      case measure => simp [intOf]; omega
                    | true =>
                      have d1 : (n0 == (k2 : Int)) = false := by simpa using hv
                      go_wp2
                      go_roundw
                      case rel => exact ⟨j2 + 1, x, by omega, rfl, by go_num, HN2, hown.alloc _, bel.alloc bel.size _⟩
                      case measure => simp [intOf]; omega
                · have hz : zs.length = l.length := by rw [← HZ.out]; simp [HL.out]
                  have HF : Hid (tabL (fun (i : Nat) => colL i (boundL sub (i : Int)) zs) (k2 + 1) = some (xs ++ [x])) := Lib.hid (by
                    have h1 := HCL.out
                    rw [List.drop_eq_nil_of_le (by omega)] at h1
                    simp only [tabL, HXS.out, Option.bind_some, h1, colL, Option.map_some])
                  clear hz HCL HXS
                  go_wp2_with (first | (at_builtin; refine wpList_append_own _ rfl _ _ 25 rfl w0.heap.size 3 i0 (.int .i64 0) 1 8 Try.underlying25 hi hz0 hz1 hz2 rfl (by decide) _ _ _ rfl (hown.alloc _) ⟨wr.heap.size, 0, none⟩ 1 1 [.int .i64 x] rfl rfl (cell_one_new _ _ _) (by simp [Value.oneCell']) (by unfold maxLen; omega) (by omega) (by have := bel.size; simp <;> omega) ?_; intro v' w4 hown2 hgrow _))
                  have bel4 : Below w0.heap.size w0 w4 := (bel.alloc bel.size _).grown hgrow (by have := bel.size; simp <;> omega) (fun j hj => by have := (hown.alloc (Obj.cells #[.int .i64 x] 3)).lt j hj; omega)
                  go_wp2
                  go_roundw
                  case rel => exact ⟨k2 + 1, xs ++ [x], by omega, by go_num, Lib.hid (by simp [HXL.out]), HF, by simpa using hown2, bel4⟩
                  case measure => simp [intOf]; omega
          · have HC0 : Hid (boundL sub (k2 : Int) = (-1)) := Lib.hid (by exact boundL_out (by omega))
            have dl : decide ((k2 : Int) < (sub.length : Int)) = false := by simp; omega
            obtain ⟨p0, p1⟩ := hAP.below bel bsz
            go_wp2
            go_loopw [13, 95] (fun xv j w3 => ∃ (j2 : Nat) (x : Int), j2 ≤ l.length ∧ xv = .int .i64 x ∧ j = .int .i64 j2 ∧ Hid (colL k2 (boundL sub (k2 : Int)) zs = colL k2 x (zs.drop j2)) ∧ w3.ownsRow w0.heap.size 3 1 u11 k2 (xs.map (Value.int .i64)) ∧ Below w0.heap.size w0 w3) (fun _ j _ => l.length - (intOf j).toNat)
            case atStart => exact ⟨0, (-1), Nat.zero_le _, rfl, rfl, Lib.hid (by rw [HC0.out]; rfl), hown, bel⟩
            case round =>
              clear bel p0 p1 HC0 hown dl
              obtain ⟨j2, x, hj2, rfl, rfl, HCL, hown, bel⟩ := hrel
              by_cases hlt3 : j2 < l.length
              · obtain ⟨bp, op, rfl, v0, n0, c0, c1, HS⟩ := slots_some HP.out hlt3
                obtain ⟨ba, oa, rfl, a, c2, HX⟩ := ints_some HA.out (by rw [← HL.out]; exact hlt3 : j2 < args.length)
                have hzk : zs[j2]? = some ((v0, n0), a) := by rw [← HZ.out]; exact zip_at HS.out HX.out
                have HN := Lib.hid (HCL.out.trans (col_at hzk))
                clear HS HX hzk HCL
                have lp := World.block_lt_of_cell? _ _ c0
                have la := World.block_lt_of_cell? _ _ c2
                simp only at lp la
                have e0 := (bel.cell (p := ⟨bp, op + j2 * 2, none⟩) lp).trans c0
                have e1 := (bel.cell (p := ⟨bp, op + j2 * 2 + 1, none⟩) lp).trans c1
                have e2 := (bel.cell (p := ⟨ba, oa + j2, none⟩) la).trans c2
                have lp := Nat.lt_of_lt_of_le lp bel.size
                have la := Nat.lt_of_lt_of_le la bel.size
                clear c0 c1 c2
                by_cases hv : v0 = true ∧ n0 = k2
                · obtain ⟨rfl, rfl⟩ := hv
                  have d1 : (((k2 : Int)) == (k2 : Int)) = true := by simp
                  by_cases hx : 0 ≤ x
                  · have d2 : decide (0 ≤ x) = true := by simpa using hx
                    by_cases hxa : x = a
                    · subst hxa
                      have d3 : (x != x) = false := by simp
                      have HN2 : Hid (colL k2 (boundL sub (k2 : Int)) zs = colL k2 x (zs.drop (j2 + 1))) := Lib.hid (by rw [HN.out]; simp)
                      clear HN
                      go_wp2
                      go_roundw
                      case rel => exact ⟨j2 + 1, x, by omega, rfl, by go_num, HN2, hown.alloc _, bel.alloc bel.size _⟩
                      case measure => simp [intOf]; omega
                    · have d3 : (x != a) = true := by simpa using hxa
                      have hRn : R = none := by rw [← HM.out]; exact tab_none (k := k2) (by rw [HN.out]; simp [hx, hxa]) hlt2
                      subst hRn
                      clear HN HM
                      go_wp2
                      go_ret2
                      exact ⟨none, 0, rfl, .inl rfl, by rw [HQ.out]; exact hb0.trans ((bel.alloc bel.size _).mono (Nat.le_of_lt bsz))⟩
                  · have d2 : decide (0 ≤ x) = false := by simpa using hx
                    have HN2 : Hid (colL k2 (boundL sub (k2 : Int)) zs = colL k2 a (zs.drop (j2 + 1))) := Lib.hid (by rw [HN.out]; simp [hx])
                    clear HN
                    go_wp2
                    go_roundw
                    case rel => exact ⟨j2 + 1, a, by omega, rfl, by go_num, HN2, hown.alloc _, bel.alloc bel.size _⟩
                    case measure => simp [intOf]; omega
                · have HN2 : Hid (colL k2 (boundL sub (k2 : Int)) zs = colL k2 x (zs.drop (j2 + 1))) := Lib.hid (by rw [HN.out, if_neg hv])
                  clear HN
                  cases v0 with
                  | false =>
                    go_wp2
                    go_roundw
                    case rel => exact ⟨j2 + 1, x, by omega, rfl, by go_num, HN2, hown.alloc _, bel.alloc bel.size _⟩
                    case measure => simp [intOf]; omega
                  | true =>
                    have d1 : (n0 == (k2 : Int)) = false := by simpa using hv
                    go_wp2
                    go_roundw
                    case rel => exact ⟨j2 + 1, x, by omega, rfl, by go_num, HN2, hown.alloc _, bel.alloc bel.size _⟩
                    case measure => simp [intOf]; omega
              · have hz : zs.length = l.length := by rw [← HZ.out]; simp [HL.out]
                have HF : Hid (tabL (fun (i : Nat) => colL i (boundL sub (i : Int)) zs) (k2 + 1) = some (xs ++ [x])) := Lib.hid (by
                  have h1 := HCL.out
                  rw [List.drop_eq_nil_of_le (by omega)] at h1
                  simp only [tabL, HXS.out, Option.bind_some, h1, colL, Option.map_some])
                clear hz HCL HXS
                go_wp2_with (first | (at_builtin; refine wpList_append_own _ rfl _ _ 25 rfl w0.heap.size 3 i0 (.int .i64 0) 1 8 Try.underlying25 hi hz0 hz1 hz2 rfl (by decide) _ _ _ rfl (hown.alloc _) ⟨wr.heap.size, 0, none⟩ 1 1 [.int .i64 x] rfl rfl (cell_one_new _ _ _) (by simp [Value.oneCell']) (by unfold maxLen; omega) (by omega) (by have := bel.size; simp <;> omega) ?_; intro v' w4 hown2 hgrow _))
                have bel4 : Below w0.heap.size w0 w4 := (bel.alloc bel.size _).grown hgrow (by have := bel.size; simp <;> omega) (fun j hj => by have := (hown.alloc (Obj.cells #[.int .i64 x] 3)).lt j hj; omega)
                go_wp2
                go_roundw
                case rel => exact ⟨k2 + 1, xs ++ [x], by omega, by go_num, Lib.hid (by simp [HXL.out]), HF, by simpa using hown2, bel4⟩
                case measure => simp [intOf]; omega
        · go_wp2
          go_ret2
          have hRs : R = some xs := by
            have := HXS.out
            rw [show k2 = m by omega, HM.out] at this
            exact this
          subst hRs
          obtain ⟨a', c', rfl, hI⟩ := ints_of_row (by rw [HXL.out]; exact hown)
          have hXL := HXL.out
          subst hXL
          exact ⟨a', c', rfl, hI, by rw [HQ.out]; exact hb0.trans (bel.mono (Nat.le_of_lt bsz))⟩
end Mt
end Go.Proofs.Ytglnbcjffhfaaaa

