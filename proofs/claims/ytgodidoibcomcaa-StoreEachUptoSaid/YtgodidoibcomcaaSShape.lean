/-
  What shaped of the law's package does.
-/
import Derived.Test.YtgodidoibcomcaaSLaw
namespace Go.Proofs.Ytgodidoibcomcaa
open Go.RowKit

def Rng (x : Int) : Prop := -9223372036854775808 ≤ x ∧ x ≤ 9223372036854775807
def fixI (v : Int) : Int := if v < 0 then -(v + 1) else v
/-- the predicate that a number means -/
def predOf (n : Nat) (p : Int) : Nat := (if p.tmod ((n : Int) + 1) < 0 then p.tmod ((n : Int) + 1) + n + 1 else p.tmod ((n : Int) + 1)).toNat
def argsOf (xs : List Int) (c : Nat) : List Int := (List.range c).map fun j => fixI ((xs[j]?).getD 0)
def countOf (ar : List Int) (P : Nat) : Nat := ((ar[P]?).getD 0).toNat
def shape (ar : List Int) (r : Row) : Row := ((predOf ar.length r.1 : Nat), argsOf r.2 (countOf ar (predOf ar.length r.1)))
theorem argsOf_snoc (xs : List Int) (j : Nat) : argsOf xs (j + 1) = argsOf xs j ++ [fixI ((xs[j]?).getD 0)] := by
  simp [argsOf, List.range_succ]
theorem argsOf_length (xs : List Int) (c : Nat) : (argsOf xs c).length = c := by simp [argsOf]
theorem tmod_gt (n k : Int) (hk : 0 < k) : -k < n.tmod k := by
  rcases Int.le_total 0 n with h | h
  · have := Int.tmod_nonneg k h; omega
  · have := Int.tmod_lt_of_pos (-n) hk
    rw [Int.neg_tmod] at this
    omega
theorem predOf_le (n : Nat) (p : Int) : predOf n p ≤ n := by
  have h1 := Int.tmod_lt_of_pos p (show (0 : Int) < n + 1 by omega)
  have h2 := tmod_gt p (n + 1) (by omega)
  unfold predOf
  split <;> omega
theorem fits_at {ar : List Int} (h : fitsL ar = true) {P : Nat} {x : Int} (hx : ar[P]? = some x) : 0 ≤ x ∧ x ≤ 8 := by
  unfold fitsL at h
  simp only [Bool.and_eq_true, List.all_eq_true, decide_eq_true_eq] at h
  exact h.2 x (List.mem_of_getElem? hx)
theorem fits_len {ar : List Int} (h : fitsL ar = true) : ar.length < 128 := by
  unfold fitsL at h
  simp only [Bool.and_eq_true, decide_eq_true_eq] at h
  exact h.1
theorem ownsInts_base {w : World} {B B' : Nat} {v : Value} {n : Nat} {xs : List Value} (h : w.ownsRow B 3 1 v n xs) (hb : B' ≤ B) : w.ownsRow B' 3 1 v n xs := by
  rcases h with ⟨h1, h2 | ⟨g, cap, cur, h3, h4, h5⟩⟩
  · exact ⟨h1, .inl h2⟩
  · exact ⟨h1, .inr ⟨g, cap, cur, h3, by omega, h5⟩⟩

set_option maxHeartbeats 4000000 in
set_option maxRecDepth 8000 in
theorem shaped_any {Z : Nat → Prop} (aa ab : Option Addr) (ca cb : Nat) (ar : List Int) (l : List Row) (w : World) (ha : Ints w aa ar) (hf : fitsL ar = true) (hb : RowsZ Z w ab cb l) (hr : ∀ r ∈ l, Rng r.1 ∧ r.2.length ≤ 9223372036854775807 ∧ ∀ x ∈ r.2, Rng x)
    (hl : l.length * 32 ≤ 140737488351232) :
    Calls Try.prog 14 #[.slice aa ar.length ca, .slice ab l.length cb] w fun e w' => ∃ v, e = .returned v ∧ OwnRows (fun j => w.heap.size ≤ j) w.heap.size w' v (l.map (shape ar)) ∧ Below w.heap.size w w' := by
  have HA := Lib.hid ha
  have HB := Lib.hid hb
  have HR := Lib.hid hr
  have HF := Lib.hid hf
  have hfl := fits_len hf
  clear ha hb hr hf
  go_enter Try.func14, Try.ntmps14
  go_wp2
  go_loopw [5, 6] (fun v i wr => ∃ k : Nat, k ≤ l.length ∧ i = .int .i64 k ∧ Hid (OwnRows (fun j => w.heap.size ≤ j) w.heap.size wr v ((l.take k).map (shape ar))) ∧ Below w.heap.size w wr) (fun _ i _ => l.length - (intOf i).toNat)
  case atStart => exact ⟨0, Nat.zero_le _, rfl, Lib.hid (OwnRows.nil _ _ _), Below.refl _ _⟩
  case round =>
    obtain ⟨k, hk, rfl, HO, hbel⟩ := hrel
    obtain ⟨wo, hwo⟩ : ∃ wo, wo = wr := ⟨_, rfl⟩
    subst hwo
    by_cases hlt : k < l.length
    · rcases HB.out.1 with h | ⟨b, o, rfl, _, hc⟩
      · rw [h] at hlt; simp at hlt
      · obtain ⟨p, ai, ci, xs, c0, c1, HI, HX⟩ := rows_at hc hlt
        have e0 := (hbel.cell (World.block_lt_of_cell? _ _ c0)).trans c0
        have e1 := (hbel.cell (World.block_lt_of_cell? _ _ c1)).trans c1
        clear hc c0 c1
        obtain ⟨⟨hp1, hp2⟩, hxl, hxr⟩ := HR.out (p, xs) (List.mem_of_getElem? HX.out)
        simp only at hp1 hp2 hxl hxr
        have HXR := Lib.hid hxr
        clear hxr
        have t1 := Int.tmod_lt_of_pos p (show (0 : Int) < ar.length + 1 by omega)
        have t2 := tmod_gt p (ar.length + 1) (by omega)
        obtain ⟨P, hP⟩ : ∃ P, predOf ar.length p = P := ⟨_, rfl⟩
        have hPle : P ≤ ar.length := by rw [← hP]; exact predOf_le _ _
        have hlk : ((l.take k).map (shape ar)).length = k := by simp; omega
        obtain ⟨cs, hown, hcs⟩ := HO.out
        rw [hlk] at hown
        have HCS := Lib.hid hcs
        have HHA := Lib.hid (HA.out.below hbel)
        have HHI := Lib.hid (HI.out.below hbel (Nat.le_refl _)).ints
        clear hcs
        have sz := hbel.size
        obtain ⟨t, ht⟩ : ∃ t, p.tmod (ar.length + 1) = t := ⟨_, rfl⟩
        have HP : Hid (predOf ar.length p = P) := Lib.hid hP
        have hPt : (P : Int) = if t < 0 then t + ar.length + 1 else t := by
          rw [← hP]; unfold predOf; rw [ht]; split <;> omega
        rw [ht] at t1 t2
        clear hP
        have hnext : ∀ (wi : World) (va : Value) (w2 : World) (v' : Value) (a' : Option Addr) (c' : Nat), va = .slice a' (countOf ar P) c' → Below wo.heap.size wo wi → IntsZ (fun j => wo.heap.size ≤ j) wi a' c' (argsOf xs (countOf ar P)) →
            w2.ownsRow w.heap.size 28 2 v' (k + 1) (cs ++ [.int .i64 P, va]) → (wi.alloc (.cells #[.int .i64 P, va] 28)).grownBy w2 u5.ownBlock → (v'.ownBlock = u5.ownBlock ∨ v'.ownBlock = some (wi.alloc (.cells #[.int .i64 P, va] 28)).heap.size) →
            OwnRows (fun j => w.heap.size ≤ j) w.heap.size w2 v' ((l.take (k + 1)).map (shape ar)) ∧ Below w.heap.size w w2 := by
          intro wi va w2 v' a' c' hva hbi hI hown2 hgrow2 hblk2
          subst hva
          have hbA : Below wo.heap.size wo (wi.alloc (.cells #[.int .i64 P, .slice a' (countOf ar P) c'] 28)) := hbi.alloc hbi.size _
          have hs := hbi.size
          refine ⟨?_, (hbel.trans (hbA.mono sz)).trans (grown_below hgrow2 (fun j hj => (hown.lt j hj).1) (by simp; omega))⟩
          rw [take_snoc' HX.out, List.map_append, List.map_cons, List.map_nil, shape, HP.out]
          have hla := argsOf_length xs (countOf ar P)
          refine OwnRows.push (cs := cs) (v := u5) (HCS.out.below hbA (Nat.le_refl _)) ?_ (by rw [hlk, hla]; exact hown2) hgrow2 hblk2
          refine hI.keep (fun j hj _ => Below.heap_alloc wi _ j hj) (fun j hj hz => ?_)
          have hz : wo.heap.size ≤ j := hz
          exact ⟨by omega, fun e => by have := (hown.lt j e).2; omega⟩
        have HNext := Lib.hid hnext
        clear hnext
        by_cases ht0 : t < 0
        · rw [if_pos ht0] at hPt
          have hPt' := hPt.symm
          clear hPt
          go_wp2
          go_loopw [8, 9] (fun v i wr => ∃ j : Nat, j ≤ countOf ar P ∧ i = .int .i64 j ∧ wr.ownsRow wo.heap.size 3 1 v j ((argsOf xs j).map (Value.int .i64)) ∧ Below wo.heap.size wo wr) (fun _ i _ => countOf ar P - (intOf i).toNat)
          case atStart => exact ⟨0, Nat.zero_le _, rfl, World.ownsRow_nil _ _ _ _, Below.refl _ _⟩
          case round =>
            obtain ⟨j, hj, rfl, hrow, hbi⟩ := hrel
            have szi := hbi.size
            have f0 := on_cell hbi e0
            have f1 := on_cell hbi e1
            by_cases hPl : P < ar.length
            · rcases HHA.out with h | ⟨b2, o2, rfl, hc2⟩
              · rw [h] at hPl; simp at hPl
              · obtain ⟨x, c2, HX2⟩ := ints_at hc2 hPl
                have f2 := on_cell hbi c2
                clear hc2 c2
                have hx8 := fits_at HF.out HX2.out
                have hcx : (countOf ar P : Int) = x := by unfold countOf; rw [HX2.out]; simp; omega
                by_cases hjx : (j : Int) < x
                · by_cases hjl : j < xs.length
                  · rcases HHI.out with h | ⟨b3, o3, rfl, hc3⟩
                    · rw [h] at hjl; simp at hjl
                    · obtain ⟨y, c3, HX3⟩ := ints_at hc3 hjl
                      have f3 := on_cell hbi c3
                      clear hc3 c3
                      obtain ⟨hy1, hy2⟩ := HXR.out y (List.mem_of_getElem? HX3.out)
                      by_cases hy0 : y < 0
                      · have hfx : fixI ((xs[j]?).getD 0) = -(y + 1) := by rw [HX3.out]; simp [fixI, hy0]
                        go_wp2_with (at_builtin; refine wpList_append_any elemInt _ rfl _ _ rfl wo.heap.size _ j _ rfl (hrow.alloc _) (some ⟨wr.heap.size, 0, none⟩) 1 1 [.int .i64 (-(y + 1))] rfl (source_new _ _ _) rfl (by simp [Value.oneCell']) (by unfold maxLen; omega) (by omega) (by simp; omega) ?_; intro v' w2 hown2 hgrow2 _)
                        have hb4 : Below wo.heap.size wo w2 := (hbi.alloc szi _).grown hgrow2 (by simp; omega) (fun j hj => by have := (hrow.lt j hj).1; omega)
                        go_roundw
                        case rel => exact ⟨j + 1, by omega, by go_num, by rw [argsOf_snoc, hfx]; simpa using hown2, hb4⟩
                        case measure => simp [intOf]; omega
                      · have hfx : fixI ((xs[j]?).getD 0) = y := by rw [HX3.out]; simp [fixI, hy0]
                        go_wp2_with (at_builtin; refine wpList_append_any elemInt _ rfl _ _ rfl wo.heap.size _ j _ rfl (hrow.alloc _) (some ⟨wr.heap.size, 0, none⟩) 1 1 [.int .i64 (y)] rfl (source_new _ _ _) rfl (by simp [Value.oneCell']) (by unfold maxLen; omega) (by omega) (by simp; omega) ?_; intro v' w2 hown2 hgrow2 _)
                        have hb4 : Below wo.heap.size wo w2 := (hbi.alloc szi _).grown hgrow2 (by simp; omega) (fun j hj => by have := (hrow.lt j hj).1; omega)
                        go_roundw
                        case rel => exact ⟨j + 1, by omega, by go_num, by rw [argsOf_snoc, hfx]; simpa using hown2, hb4⟩
                        case measure => simp [intOf]; omega
                  · have hfx : fixI ((xs[j]?).getD 0) = 0 := by rw [List.getElem?_eq_none (by omega)]; rfl
                    go_wp2_with (at_builtin; refine wpList_append_any elemInt _ rfl _ _ rfl wo.heap.size _ j _ rfl (hrow.alloc _) (some ⟨wr.heap.size, 0, none⟩) 1 1 [.int .i64 (0)] rfl (source_new _ _ _) rfl (by simp [Value.oneCell']) (by unfold maxLen; omega) (by omega) (by simp; omega) ?_; intro v' w2 hown2 hgrow2 _)
                    have hb4 : Below wo.heap.size wo w2 := (hbi.alloc szi _).grown hgrow2 (by simp; omega) (fun j hj => by have := (hrow.lt j hj).1; omega)
                    go_roundw
                    case rel => exact ⟨j + 1, by omega, by go_num, by rw [argsOf_snoc, hfx]; simpa using hown2, hb4⟩
                    case measure => simp [intOf]; omega
                · have hje : j = countOf ar P := by omega
                  subst hje
                  obtain ⟨a', c', hva, hI'⟩ := intsZ_of_row (xs := argsOf xs (countOf ar P)) (by rw [argsOf_length]; exact hrow)
                  rw [argsOf_length] at hva
                  have hownI := owns_below hown hbi (Nat.le_refl _)
                  subst hva
                  go_wp2_with (at_builtin; refine wpList_append_any elemRow _ rfl _ _ rfl w.heap.size _ k cs rfl (by exact hownI.alloc _) (some ⟨wr.heap.size, 0, none⟩) 1 1 [.int .i64 P, .slice a' (countOf ar P) c'] rfl (by exact source_new wr [.int .i64 P, .slice a' (countOf ar P) c'] 28) rfl (by simp [Value.oneCell']) (by unfold maxLen; omega) (by omega) (by simp; omega) ?_; intro v' w2 hown2 hgrow2 hblk2)
                  obtain ⟨hO, hB⟩ := HNext.out wr (.slice a' (countOf ar P) c') w2 v' a' c' rfl hbi hI' hown2 hgrow2 hblk2
                  go_roundw
                  case rel => exact ⟨k + 1, by omega, by go_num, Lib.hid hO, hB⟩
                  case measure => simp [intOf]; omega
            · have hje : j = countOf ar P := by
                have : countOf ar P = 0 := by unfold countOf; rw [List.getElem?_eq_none (by omega)]; rfl
                omega
              subst hje
              obtain ⟨a', c', hva, hI'⟩ := intsZ_of_row (xs := argsOf xs (countOf ar P)) (by rw [argsOf_length]; exact hrow)
              rw [argsOf_length] at hva
              have hownI := owns_below hown hbi (Nat.le_refl _)
              subst hva
              go_wp2_with (at_builtin; refine wpList_append_any elemRow _ rfl _ _ rfl w.heap.size _ k cs rfl (by exact hownI.alloc _) (some ⟨wr.heap.size, 0, none⟩) 1 1 [.int .i64 P, .slice a' (countOf ar P) c'] rfl (by exact source_new wr [.int .i64 P, .slice a' (countOf ar P) c'] 28) rfl (by simp [Value.oneCell']) (by unfold maxLen; omega) (by omega) (by simp; omega) ?_; intro v' w2 hown2 hgrow2 hblk2)
              obtain ⟨hO, hB⟩ := HNext.out wr (.slice a' (countOf ar P) c') w2 v' a' c' rfl hbi hI' hown2 hgrow2 hblk2
              go_roundw
              case rel => exact ⟨k + 1, by omega, by go_num, Lib.hid hO, hB⟩
              case measure => simp [intOf]; omega
        · rw [if_neg ht0] at hPt
          have hPt' := hPt.symm
          clear hPt
          go_wp2
          go_loopw [8, 9] (fun v i wr => ∃ j : Nat, j ≤ countOf ar P ∧ i = .int .i64 j ∧ wr.ownsRow wo.heap.size 3 1 v j ((argsOf xs j).map (Value.int .i64)) ∧ Below wo.heap.size wo wr) (fun _ i _ => countOf ar P - (intOf i).toNat)
          case atStart => exact ⟨0, Nat.zero_le _, rfl, World.ownsRow_nil _ _ _ _, Below.refl _ _⟩
          case round =>
            obtain ⟨j, hj, rfl, hrow, hbi⟩ := hrel
            have szi := hbi.size
            have f0 := on_cell hbi e0
            have f1 := on_cell hbi e1
            by_cases hPl : P < ar.length
            · rcases HHA.out with h | ⟨b2, o2, rfl, hc2⟩
              · rw [h] at hPl; simp at hPl
              · obtain ⟨x, c2, HX2⟩ := ints_at hc2 hPl
                have f2 := on_cell hbi c2
                clear hc2 c2
                have hx8 := fits_at HF.out HX2.out
                have hcx : (countOf ar P : Int) = x := by unfold countOf; rw [HX2.out]; simp; omega
                by_cases hjx : (j : Int) < x
                · by_cases hjl : j < xs.length
                  · rcases HHI.out with h | ⟨b3, o3, rfl, hc3⟩
                    · rw [h] at hjl; simp at hjl
                    · obtain ⟨y, c3, HX3⟩ := ints_at hc3 hjl
                      have f3 := on_cell hbi c3
                      clear hc3 c3
                      obtain ⟨hy1, hy2⟩ := HXR.out y (List.mem_of_getElem? HX3.out)
                      by_cases hy0 : y < 0
                      · have hfx : fixI ((xs[j]?).getD 0) = -(y + 1) := by rw [HX3.out]; simp [fixI, hy0]
                        go_wp2_with (at_builtin; refine wpList_append_any elemInt _ rfl _ _ rfl wo.heap.size _ j _ rfl (hrow.alloc _) (some ⟨wr.heap.size, 0, none⟩) 1 1 [.int .i64 (-(y + 1))] rfl (source_new _ _ _) rfl (by simp [Value.oneCell']) (by unfold maxLen; omega) (by omega) (by simp; omega) ?_; intro v' w2 hown2 hgrow2 _)
                        have hb4 : Below wo.heap.size wo w2 := (hbi.alloc szi _).grown hgrow2 (by simp; omega) (fun j hj => by have := (hrow.lt j hj).1; omega)
                        go_roundw
                        case rel => exact ⟨j + 1, by omega, by go_num, by rw [argsOf_snoc, hfx]; simpa using hown2, hb4⟩
                        case measure => simp [intOf]; omega
                      · have hfx : fixI ((xs[j]?).getD 0) = y := by rw [HX3.out]; simp [fixI, hy0]
                        go_wp2_with (at_builtin; refine wpList_append_any elemInt _ rfl _ _ rfl wo.heap.size _ j _ rfl (hrow.alloc _) (some ⟨wr.heap.size, 0, none⟩) 1 1 [.int .i64 (y)] rfl (source_new _ _ _) rfl (by simp [Value.oneCell']) (by unfold maxLen; omega) (by omega) (by simp; omega) ?_; intro v' w2 hown2 hgrow2 _)
                        have hb4 : Below wo.heap.size wo w2 := (hbi.alloc szi _).grown hgrow2 (by simp; omega) (fun j hj => by have := (hrow.lt j hj).1; omega)
                        go_roundw
                        case rel => exact ⟨j + 1, by omega, by go_num, by rw [argsOf_snoc, hfx]; simpa using hown2, hb4⟩
                        case measure => simp [intOf]; omega
                  · have hfx : fixI ((xs[j]?).getD 0) = 0 := by rw [List.getElem?_eq_none (by omega)]; rfl
                    go_wp2_with (at_builtin; refine wpList_append_any elemInt _ rfl _ _ rfl wo.heap.size _ j _ rfl (hrow.alloc _) (some ⟨wr.heap.size, 0, none⟩) 1 1 [.int .i64 (0)] rfl (source_new _ _ _) rfl (by simp [Value.oneCell']) (by unfold maxLen; omega) (by omega) (by simp; omega) ?_; intro v' w2 hown2 hgrow2 _)
                    have hb4 : Below wo.heap.size wo w2 := (hbi.alloc szi _).grown hgrow2 (by simp; omega) (fun j hj => by have := (hrow.lt j hj).1; omega)
                    go_roundw
                    case rel => exact ⟨j + 1, by omega, by go_num, by rw [argsOf_snoc, hfx]; simpa using hown2, hb4⟩
                    case measure => simp [intOf]; omega
                · have hje : j = countOf ar P := by omega
                  subst hje
                  obtain ⟨a', c', hva, hI'⟩ := intsZ_of_row (xs := argsOf xs (countOf ar P)) (by rw [argsOf_length]; exact hrow)
                  rw [argsOf_length] at hva
                  have hownI := owns_below hown hbi (Nat.le_refl _)
                  subst hva
                  go_wp2_with (at_builtin; refine wpList_append_any elemRow _ rfl _ _ rfl w.heap.size _ k cs rfl (by exact hownI.alloc _) (some ⟨wr.heap.size, 0, none⟩) 1 1 [.int .i64 P, .slice a' (countOf ar P) c'] rfl (by exact source_new wr [.int .i64 P, .slice a' (countOf ar P) c'] 28) rfl (by simp [Value.oneCell']) (by unfold maxLen; omega) (by omega) (by simp; omega) ?_; intro v' w2 hown2 hgrow2 hblk2)
                  obtain ⟨hO, hB⟩ := HNext.out wr (.slice a' (countOf ar P) c') w2 v' a' c' rfl hbi hI' hown2 hgrow2 hblk2
                  go_roundw
                  case rel => exact ⟨k + 1, by omega, by go_num, Lib.hid hO, hB⟩
                  case measure => simp [intOf]; omega
            · have hje : j = countOf ar P := by
                have : countOf ar P = 0 := by unfold countOf; rw [List.getElem?_eq_none (by omega)]; rfl
                omega
              subst hje
              obtain ⟨a', c', hva, hI'⟩ := intsZ_of_row (xs := argsOf xs (countOf ar P)) (by rw [argsOf_length]; exact hrow)
              rw [argsOf_length] at hva
              have hownI := owns_below hown hbi (Nat.le_refl _)
              subst hva
              go_wp2_with (at_builtin; refine wpList_append_any elemRow _ rfl _ _ rfl w.heap.size _ k cs rfl (by exact hownI.alloc _) (some ⟨wr.heap.size, 0, none⟩) 1 1 [.int .i64 P, .slice a' (countOf ar P) c'] rfl (by exact source_new wr [.int .i64 P, .slice a' (countOf ar P) c'] 28) rfl (by simp [Value.oneCell']) (by unfold maxLen; omega) (by omega) (by simp; omega) ?_; intro v' w2 hown2 hgrow2 hblk2)
              obtain ⟨hO, hB⟩ := HNext.out wr (.slice a' (countOf ar P) c') w2 v' a' c' rfl hbi hI' hown2 hgrow2 hblk2
              go_roundw
              case rel => exact ⟨k + 1, by omega, by go_num, Lib.hid hO, hB⟩
              case measure => simp [intOf]; omega
    · have hke : k = l.length := by omega
      subst hke
      have ho := HO.out
      rw [List.take_length] at ho
      go_wp2
      go_ret
      exact ⟨_, rfl, ho, hbel⟩
end Go.Proofs.Ytgodidoibcomcaa
