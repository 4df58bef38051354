/-
  What joined and fits of the law's package do.
-/
import Derived.Test.YtgodidoibcomcaaSRows
namespace Go.Proofs.Ytgodidoibcomcaa
open Go.RowKit

/-- l, and the rows of m that are new, in order -/
def joinedL (l m : List Row) : List Row := m.foldl (fun out r => if r ∈ out then out else out ++ [r]) l
theorem joinedL_snoc (l m : List Row) (r : Row) : joinedL l (m ++ [r]) = if r ∈ joinedL l m then joinedL l m else joinedL l m ++ [r] := by
  unfold joinedL; rw [List.foldl_append]; rfl
theorem joinedL_length (l m : List Row) : (joinedL l m).length ≤ l.length + m.length := by
  induction m generalizing l with
  | nil => simp [joinedL]
  | cons r m ih =>
    have h := ih (if r ∈ l then l else l ++ [r])
    simp only [joinedL, List.foldl_cons] at h ⊢
    split at h <;> simp_all <;> omega
theorem joinedL_mem (l m : List Row) (r : Row) : r ∈ joinedL l m ↔ r ∈ l ∨ r ∈ m := by
  induction m generalizing l with
  | nil => simp [joinedL]
  | cons x m ih =>
    have h := ih (if x ∈ l then l else l ++ [x])
    simp only [joinedL, List.foldl_cons] at h ⊢
    rw [h]
    split
    · rename_i hx
      constructor
      · rintro (h | h) <;> simp [h]
      · rintro (h | h)
        · exact .inl h
        · rcases List.mem_cons.1 h with rfl | h
          · exact .inl hx
          · exact .inr h
    · rw [List.mem_append, List.mem_singleton, List.mem_cons, or_assoc]

set_option maxHeartbeats 2000000 in
set_option maxRecDepth 8000 in
theorem joined_any {Z : Nat → Prop} (aa ab : Option Addr) (ca cb : Nat) (l m : List Row) (w : World) (ha : RowsZ Z w aa ca l) (hb : RowsZ Z w ab cb m) (hl1 : ∀ r ∈ l, r.2.length * 8 ≤ 140737488351232) (hm1 : ∀ r ∈ m, r.2.length * 8 ≤ 140737488351232)
    (hl : (l.length + m.length) * 32 ≤ 140737488351232) :
    Calls Try.prog 15 #[.slice aa l.length ca, .slice ab m.length cb] w fun e w' => ∃ v, e = .returned v ∧ OwnRows (fun j => Z j ∨ w.heap.size ≤ j) w.heap.size w' v (joinedL l m) ∧ Below w.heap.size w w' := by
  have HB := Lib.hid hb
  have HL := Lib.hid hl1
  have HM := Lib.hid hm1
  have cR := Lib.hid (rows_any aa ca l w ha hl1 (by omega))
  clear ha hb hl1 hm1
  go_enter Try.func15, Try.ntmps15
  go_wp2_with (go_at_call 40; refine cR.out.mono ?_; rintro e w0 ⟨v0, rfl, hO0, hb0⟩)
  go_loopw [5, 6] (fun v i wr => ∃ k : Nat, k ≤ m.length ∧ i = .int .i64 k ∧ Hid (OwnRows (fun j => Z j ∨ w.heap.size ≤ j) w.heap.size wr v (joinedL l (m.take k))) ∧ Below w.heap.size w wr) (fun _ i _ => m.length - (intOf i).toNat)
  case atStart => exact ⟨0, Nat.zero_le _, rfl, Lib.hid (hO0.zone fun j hj => .inr hj), hb0⟩
  case round =>
    clear hO0 hb0 cR
    obtain ⟨k, hk, rfl, HO, hbel⟩ := hrel
    by_cases hlt : k < m.length
    · rcases HB.out.1 with h | ⟨b, o, rfl, _, hc⟩
      · rw [h] at hlt; simp at hlt
      · obtain ⟨p, ai, ci, xs, c0, c1, HI, HX⟩ := rows_at hc hlt
        have e0 := (hbel.cell (World.block_lt_of_cell? _ _ c0)).trans c0
        have e1 := (hbel.cell (World.block_lt_of_cell? _ _ c1)).trans c1
        have lb := World.block_lt_of_cell? _ _ c0
        clear hc c0 c1
        have hlen := joinedL_length l (m.take k)
        have hlk : (m.take k).length = k := by simp; omega
        obtain ⟨J, hJ⟩ : ∃ J, joinedL l (m.take k) = J := ⟨_, rfl⟩
        have hJ1 : ∀ r ∈ J, r.2.length * 8 ≤ 140737488351232 := fun r hr => by
          rw [← hJ, joinedL_mem] at hr
          rcases hr with hr | hr
          · exact HL.out r hr
          · exact HM.out r (List.mem_of_mem_take hr)
        rw [hJ, hlk] at hlen
        have HO' := HO.out
        rw [hJ] at HO'
        have hnext : joinedL l (m.take (k + 1)) = if (p, xs) ∈ J then J else J ++ [(p, xs)] := by rw [take_snoc' HX.out, joinedL_snoc, hJ]
        clear hJ HO
        obtain ⟨av, cv, rfl, hR⟩ := HO'.rowsZ (fun j hj => .inr hj)
        have HN := Lib.hid hnext
        have HOO := Lib.hid HO'
        have HK := Lib.hid (known_any av ai cv ci J p xs wr hR (HI.out.below hbel (Nat.le_refl _)).ints (fun r hr => by have := hJ1 r hr; omega) (by omega))
        clear hnext HO' hR hJ1
        by_cases hin : (p, xs) ∈ J
        · have hd : decide ((p, xs) ∈ J) = true := by simpa using hin
          go_wp2_with (go_at_call 41; refine HK.out.mono ?_; rintro e w1 ⟨rfl, hb1⟩)
          go_roundw
          case rel => exact ⟨k + 1, by omega, by go_num, Lib.hid (by rw [HN.out, if_pos hin]; exact HOO.out.below hb1 (Nat.le_refl _)), hbel.trans (hb1.mono hbel.size)⟩
          case measure => simp [intOf]; omega
        · have hd : decide ((p, xs) ∈ J) = false := by simpa using hin
          obtain ⟨cs, hown, hcs⟩ := HOO.out
          have HCS := Lib.hid hcs
          clear hcs
          have sz := hbel.size
          go_wp2_with (first
            | (go_at_call 41; refine HK.out.mono ?_; rintro e w1 ⟨rfl, hb1⟩; have g0 := on_cell hb1 e0; have g1 := on_cell hb1 e1; have hown1 := owns_below hown hb1 (Nat.le_refl _); have sz1 := hb1.size)
            | (at_builtin; refine wpList_append_any elemRow _ rfl _ _ rfl w.heap.size _ J.length cs rfl (by exact hown1.alloc _) (some ⟨w1.heap.size, 0, none⟩) 1 1 [.int .i64 p, .slice ai xs.length ci] rfl (by exact source_new w1 [.int .i64 p, .slice ai xs.length ci] 28) rfl (by simp [Value.oneCell']) (by unfold maxLen; omega) (by omega) (by simp; omega) ?_; intro v' w2 hown2 hgrow2 hblk2))
          have hO : OwnRows (fun j => Z j ∨ w.heap.size ≤ j) w.heap.size w2 v' (joinedL l (m.take (k + 1))) := by
            rw [HN.out, if_neg hin]
            have hbA : Below wr.heap.size wr (w1.alloc (.cells #[.int .i64 p, .slice ai xs.length ci] 28)) := hb1.alloc sz1 _
            refine OwnRows.push (cs := cs) (v := .slice av J.length cv) (HCS.out.below hbA (Nat.le_refl _)) ?_ hown2 hgrow2 hblk2
            refine HI.out.keep (fun j hj _ => (hbel.trans (hbA.mono sz)).block j hj) (fun j hj hz => ⟨.inl hz, fun e => ?_⟩)
            have := (hown.lt j e).1
            omega
          have hB : Below w.heap.size w w2 := (hbel.trans ((hb1.alloc sz1 _).mono sz)).trans (grown_below hgrow2 (fun j hj => (hown1.lt j hj).1) (by simp; omega))
          go_roundw
          case rel => exact ⟨k + 1, by omega, by go_num, Lib.hid hO, hB⟩
          case measure => simp [intOf]; omega
    · have hke : k = m.length := by omega
      subst hke
      have ho := HO.out
      rw [List.take_length] at ho
      go_wp2
      go_ret
      exact ⟨_, rfl, ho, hbel⟩

def fitsL (ar : List Int) : Bool := decide (ar.length < 128) && ar.all fun x => decide (0 ≤ x) && decide (x ≤ 8)

set_option maxHeartbeats 1000000 in
set_option maxRecDepth 8000 in
theorem fits_any (aa : Option Addr) (ca : Nat) (ar : List Int) (w : World) (ha : Ints w aa ar) (hm : ar.length ≤ 9223372036854775807) :
    Calls Try.prog 12 #[.slice aa ar.length ca] w fun e w' => e = .returned (.bool (fitsL ar)) ∧ w' = w := by
  have HA := Lib.hid ha
  clear ha
  by_cases hl : ar.length < 128
  · go_enter Try.func12, Try.ntmps12
    go_wp2
    go_loop [3] (fun i => ∃ k : Nat, k ≤ ar.length ∧ i = .int .i64 k ∧ Hid (((ar.take k).all fun x => decide (0 ≤ x) && decide (x ≤ 8)) = true)) (fun i => ar.length - (intOf i).toNat)
    case atStart => exact ⟨0, Nat.zero_le _, rfl, Lib.hid rfl⟩
    case round =>
      obtain ⟨k, hk, rfl, HT⟩ := hrel
      by_cases hlt : k < ar.length
      · rcases HA.out with h | ⟨b, o, rfl, hc⟩
        · rw [h] at hlt; simp at hlt
        · obtain ⟨x, c0, HX⟩ := ints_at hc hlt
          clear hc
          have hbad : (¬ (0 ≤ x ∧ x ≤ 8)) → fitsL ar = false := fun hb => by
            unfold fitsL
            rw [Bool.and_eq_false_iff]
            right
            rw [List.all_eq_false]
            exact ⟨x, List.mem_of_getElem? HX.out, by simpa using hb⟩
          have HBad := Lib.hid hbad
          clear hbad
          by_cases h0 : x < 0
          · go_wp2
            go_ret
            exact ⟨ret_bool (HBad.out (by omega)).symm, rfl⟩
          · by_cases h8 : 8 < x
            · go_wp2
              go_ret
              exact ⟨ret_bool (HBad.out (by omega)).symm, rfl⟩
            · go_wp2
              go_round
              case rel => exact ⟨k + 1, by omega, by go_num, Lib.hid (by rw [take_snoc' HX.out, List.all_append, HT.out]; simp; omega)⟩
              case measure => simp [intOf]; omega
      · go_wp2
        go_ret
        have := HT.out
        rw [List.take_of_length_le (by omega)] at this
        exact ⟨ret_bool (by simp [fitsL, hl]; simpa using this), rfl⟩
  · go_enter Try.func12, Try.ntmps12
    go_wp2
    go_ret
    exact ⟨ret_bool (by simp [fitsL, hl]), rfl⟩
end Go.Proofs.Ytgodidoibcomcaa
