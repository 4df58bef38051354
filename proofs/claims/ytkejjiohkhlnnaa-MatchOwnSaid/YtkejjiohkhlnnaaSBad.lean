/-
  What the store's calls answer at what may not be: a row that does not fit, a number that no row has.
-/
import Derived.Defers
import Derived.Recover
import Derived.Laws.Pointers
import Derived.Test.YtkejjiohkhlnnaaSOwn
namespace Go.Proofs.Ytkejjiohkhlnnaa
open Go.RowKit

section
variable {s sb : Nat} {σ : St} {h : Hd} {τ : Own} {w : World}

set_option maxHeartbeats 4000000 in
theorem fits_no {Z : Nat → Prop} (hs : StoreAt s sb σ h τ w) (p : Int) (a : Option Addr) (c : Nat) (xs : List Int) (hx : IntsZ Z w a c xs) (hp : Rng p) (hxr : ∀ x ∈ xs, Rng x) (hl : xs.length ≤ 9223372036854775807) (hn : ¬ FitsRow σ.ar (p, xs)) :
    Calls Try.prog 53 #[.pointer (some ⟨sb, 0, none⟩), .agg #[.int .i64 p, .slice a xs.length c]] w fun e w' => e = .returned (.bool false) ∧ Below w.heap.size w w' := by
  obtain ⟨c0, c1, c2, c3, c4, c5, c6, c7⟩ := hs.head.cells
  have e1 : ∀ {A : Addr} {v : Value}, w.cell? A = some v → (w.alloc (.cells #[.int .i64 p, .slice a xs.length c] 50)).cell? A = some v := fun {A v} hc => on_cell ((Below.refl _ _).alloc (Nat.le_refl _) _) hc
  have b0 := e1 c0
  have hAr := hs.ar
  have x0 : (w.alloc (.cells #[.int .i64 p, .slice a xs.length c] 50)).cell? ⟨w.heap.size, 0, none⟩ = some (.int .i64 p) := by simp
  have x1 : (w.alloc (.cells #[.int .i64 p, .slice a xs.length c] 50)).cell? ⟨w.heap.size, 1, none⟩ = some (.slice a xs.length c) := by simp
  have hbw : Below w.heap.size w (w.alloc (.cells #[.int .i64 p, .slice a xs.length c] 50)) := (Below.refl _ _).alloc (Nat.le_refl _) _
  have hpr := hs.sound.preds
  have HArity := Lib.hid hs.sound.arity
  have HX := Lib.hid (hx.below hbw (Nat.le_refl _)).ints
  have HXR := Lib.hid hxr
  have HN := Lib.hid hn
  clear hs c0 c1 c2 c3 c4 c5 c6 c7 hx hxr hn
  rcases Int.lt_or_le p 0 with h1 | h1
  · have hd : decide (p < 0) = true := by simpa using h1
    clear hAr e1 b0
    go_enter Try.func53, Try.ntmps53
    go_wp2
    generalize w.alloc (.cells #[.int .i64 p, .slice a xs.length c] 50) = w0 at *
    go_quiet (fail)
    go_wp2
    go_ret
    exact ⟨rfl, below_drewN hbw _⟩
  · obtain ⟨P, rfl⟩ := Int.eq_ofNat_of_zero_le h1
    have hd : decide ((P : Int) < 0) = false := by simp
    rcases Nat.lt_or_ge P σ.ar.length with h2 | h2
    · have hd2 : decide ((σ.ar.length : Int) ≤ (P : Int)) = false := by simp; omega
      rcases hAr.1 with hnil | ⟨bA, oA, haA, _, hcA⟩
      · rw [hnil] at h2; simp at h2
      · have cP := e1 (hcA P h2)
        obtain ⟨y, hy⟩ : ∃ y, σ.ar[P] = y := ⟨_, rfl⟩
        rw [hy] at cP
        rw [haA] at b0
        have hyr : 0 ≤ y ∧ y ≤ 8 := HArity.out y (by rw [← hy]; exact List.getElem_mem h2)
        have HY := Lib.hid (show σ.ar[P]? = some y by rw [List.getElem?_eq_getElem h2, hy])
        clear hAr hcA e1 hy
        by_cases hyl : y = (xs.length : Int)
        · subst hyl
          go_enter Try.func53, Try.ntmps53
          go_wp2
          generalize w.alloc (.cells #[.int .i64 (P : Int), .slice a xs.length c] 50) = w0 at *
          go_quiet (fail)
          go_wp2
          go_loopw [37] (fun i wr => ∃ k : Nat, k ≤ xs.length ∧ i = .int .i64 k ∧ Hid (∀ x ∈ xs.take k, 0 ≤ x) ∧ Below w0.heap.size w0 wr) (fun i _ => xs.length - (intOf i).toNat)
          case atStart => exact ⟨0, Nat.zero_le _, rfl, Lib.hid (by simp), below_drewN (Below.refl _ _) _⟩
          case round =>
            obtain ⟨k, hk, rfl, HT, hbel⟩ := hrel
            by_cases hlt : k < xs.length
            · rcases HX.out with hn | ⟨b, o, rfl, hc⟩
              · rw [hn] at hlt; simp at hlt
              · obtain ⟨x, d0, HXk⟩ := ints_at hc hlt
                have y0 := (hbel.cell (World.block_lt_of_cell? _ _ d0)).trans d0
                clear hc d0
                by_cases hneg : x < 0
                · have hd3 : decide (x < 0) = true := by simpa using hneg
                  go_wp2
                  go_ret
                  exact ⟨rfl, hbw.trans (hbel.mono hbw.size)⟩
                · have hd3 : decide (x < 0) = false := by simpa using hneg
                  have hx0 : 0 ≤ x := by omega
                  go_wp2
                  go_roundw
                  case rel => exact ⟨k + 1, by omega, by go_num, Lib.hid (by
                    intro z hz
                    rw [take_snoc' HXk.out, List.mem_append, List.mem_singleton] at hz
                    rcases hz with hz | rfl
                    · exact HT.out z hz
                    · exact hx0), hbel⟩
                  case measure => simp [intOf]; omega
            · exfalso
              refine HN.out ⟨by simp, by simp; omega, by simpa using HY.out, by simp; omega, fun x hx => ?_⟩
              have h0 := HT.out
              rw [List.take_of_length_le (by omega)] at h0
              have := HXR.out x hx
              have := h0 x hx
              exact ⟨by omega, by have := (HXR.out x hx).2; omega⟩
        · have hd3 : ((xs.length : Int) != y) = true := by simpa using fun e => hyl e.symm
          go_enter Try.func53, Try.ntmps53
          go_wp2
          generalize w.alloc (.cells #[.int .i64 (P : Int), .slice a xs.length c] 50) = w0 at *
          go_quiet (fail)
          go_wp2
          go_ret
          exact ⟨rfl, below_drewN hbw _⟩
    · have hd2 : decide ((σ.ar.length : Int) ≤ (P : Int)) = true := by simp; omega
      have hle : (σ.ar.length : Int) ≤ (P : Int) := by omega
      clear hAr e1
      go_enter Try.func53, Try.ntmps53
      go_wp2
      generalize w.alloc (.cells #[.int .i64 (P : Int), .slice a xs.length c] 50) = w0 at *
      go_quiet (fail)
      go_wp2
      go_ret
      exact ⟨rfl, below_drewN hbw _⟩

/-- a row's number among the rows, or -1 -/
def numI (rows : List Row) (r : Row) : Int := match rows.findIdx? (fun x => decide (x = r)) with | some i => (i : Int) | none => -1
theorem numI_cases (rows : List Row) (r : Row) : (∃ i : Nat, rows[i]? = some r ∧ numI rows r = (i : Int)) ∨ (r ∉ rows ∧ numI rows r = -1) := by
  unfold numI
  cases hf : rows.findIdx? (fun x => decide (x = r)) with
  | none =>
    rw [List.findIdx?_eq_none_iff] at hf
    exact .inr ⟨fun h => by have := hf r h; simp at this, rfl⟩
  | some i =>
    rw [List.findIdx?_eq_some_iff_getElem] at hf
    obtain ⟨hi, h1, _⟩ := hf
    refine .inl ⟨i, ?_, rfl⟩
    rw [List.getElem?_eq_getElem hi]
    exact congrArg some (of_decide_eq_true h1)

set_option maxHeartbeats 2000000 in
theorem num_all {Z : Nat → Prop} (hs : StoreAt s sb σ h τ w) (p : Int) (a : Option Addr) (c : Nat) (xs : List Int) (hx : IntsZ Z w a c xs) (hp : Rng p) (hxr : ∀ x ∈ xs, Rng x) (hl : xs.length ≤ 9223372036854775807) :
    Calls Try.prog 51 #[.pointer (some ⟨sb, 0, none⟩), .agg #[.int .i64 p, .slice a xs.length c]] w fun e w' => e = .returned (.int .i64 (numI σ.rows (p, xs))) ∧ Below w.heap.size w w' := by
  rcases numI_cases σ.rows (p, xs) with ⟨i, hi, he⟩ | ⟨hno, he⟩
  · rw [he]
    exact num_yes hs i p a c xs hx hi
  · rw [he]
    by_cases hf : FitsRow σ.ar (p, xs)
    · exact num_no hs p a c xs hx hf hno
    · have hbw : Below w.heap.size w (w.alloc (.cells #[.int .i64 p, .slice a xs.length c] 50)) := (Below.refl _ _).alloc (Nat.le_refl _) _
      have cF := Lib.hid (fits_no (hs.below hbw) p a c xs (hx.below hbw (Nat.le_refl _)) hp hxr hl hf)
      clear hs hx hf hno he hxr
      go_enter Try.func51, Try.ntmps51
      go_wp2_with fail
      with_reducible refine cF.out.mono ?_
      rintro e w1 ⟨rfl, hb1⟩
      go_wp2
      go_ret
      exact ⟨rfl, hbw.trans (hb1.mono hbw.size)⟩

set_option maxHeartbeats 2000000 in
theorem has_all {Z : Nat → Prop} (hs : StoreAt s sb σ h τ w) (p : Int) (a : Option Addr) (c : Nat) (xs : List Int) (hx : IntsZ Z w a c xs) (hp : Rng p) (hxr : ∀ x ∈ xs, Rng x) (hl : xs.length ≤ 9223372036854775807) :
    Calls Try.prog 19 #[.pointer (some ⟨sb, 0, none⟩), .agg #[.int .i64 p, .slice a xs.length c]] w fun e w' => e = .returned (.bool (decide (0 ≤ numI σ.rows (p, xs)))) ∧ Below w.heap.size w w' := by
  have hbw : Below w.heap.size w (w.alloc (.cells #[.int .i64 p, .slice a xs.length c] 50)) := (Below.refl _ _).alloc (Nat.le_refl _) _
  have cN := Lib.hid (num_all (hs.below hbw) p a c xs (hx.below hbw (Nat.le_refl _)) hp hxr hl)
  obtain ⟨q, hq⟩ : ∃ q, numI σ.rows (p, xs) = q := ⟨_, rfl⟩
  rw [hq] at cN ⊢
  clear hs hx hxr hq
  go_enter Try.func19, Try.ntmps19
  go_wp2_with fail
  with_reducible refine cN.out.mono ?_
  rintro e w1 ⟨rfl, hb1⟩
  go_wp2
  go_ret
  exact ⟨rfl, hbw.trans (hb1.mono hbw.size)⟩

set_option maxHeartbeats 2000000 in
theorem row_bad (hs : StoreAt s sb σ h τ w) (i : Int) (hi : i < 0 ∨ (σ.rows.length : Int) ≤ i) :
    Calls Try.prog 36 #[.pointer (some ⟨sb, 0, none⟩), .int .i64 i] w fun e w' => e = .returned (.tuple #[.agg #[.int .i64 0, .slice none 0 0], .int .i64 2]) ∧ Below w.heap.size w w' := by
  obtain ⟨ao, c, hv, _⟩ := hs.vR
  obtain ⟨c0, c1, c2, c3, c4, c5, c6, c7⟩ := hs.head.cells
  rw [hv] at c1
  have b1 := on_cell ((Below.refl _ _).alloc (o := (.cells #[.int .i64 0, .slice none 0 0] 50)) (Nat.le_refl _)) c1
  clear hs hv c0 c1 c2 c3 c4 c5 c6 c7
  have hB : Below w.heap.size w (w.alloc (.cells #[.int .i64 0, .slice none 0 0] 50)) := (Below.refl _ _).alloc (Nat.le_refl _) _
  rcases Int.lt_or_le i 0 with h1 | h1
  · have hd : decide (i < 0) = true := by simpa using h1
    go_enter Try.func36, Try.ntmps36
    go_wp2
    exact bodyPost_ret (v := .tuple #[.agg #[.int .i64 0, .slice none 0 0], .int .i64 2]) (by simp [results, Try.results36, go_sem]) rfl ⟨rfl, by assumption⟩
  · have hd : decide (i < 0) = false := by simpa using h1
    have h2 : (σ.rows.length : Int) ≤ i := by omega
    have hd2 : decide ((σ.rows.length : Int) ≤ i) = true := by simpa using h2
    go_enter Try.func36, Try.ntmps36
    go_wp2
    exact bodyPost_ret (v := .tuple #[.agg #[.int .i64 0, .slice none 0 0], .int .i64 2]) (by simp [results, Try.results36, go_sem]) rfl ⟨rfl, by assumption⟩

set_option maxHeartbeats 4000000 in
set_option maxRecDepth 8000 in
theorem add_bad {Z : Nat → Prop} (hs : StoreAt s sb σ h τ w) (a : Option Addr) (c : Nat) (l : List Row) (hl : RowsZ Z w a c l) (hr : ∀ r ∈ l, RowOk r) (hll : l.length ≤ 100000000000) (hn : ¬ ∀ r ∈ l, FitsRow σ.ar r) :
    Calls Try.prog 21 #[.pointer (some ⟨sb, 0, none⟩), .slice a l.length c] w fun e w' => e = .returned (.tuple #[.int .i64 0, .int .i64 2]) ∧ Below w.heap.size w w' := by
  have HS := Lib.hid hs
  have HL := Lib.hid hl
  have HR := Lib.hid hr
  have HN := Lib.hid hn
  clear hs hl hr hn
  go_enter Try.func21, Try.ntmps21
  go_wp2
  go_loopw [17] (fun i wr => ∃ k : Nat, k ≤ l.length ∧ i = .int .i64 k ∧ Hid (∀ r ∈ l.take k, FitsRow σ.ar r) ∧ Below w.heap.size w wr) (fun i _ => l.length - (intOf i).toNat)
  case atStart => exact ⟨0, Nat.zero_le _, rfl, Lib.hid (by simp), Below.refl _ _⟩
  case round =>
    obtain ⟨k, hk, rfl, HT, hbel⟩ := hrel
    by_cases hlt : k < l.length
    · rcases HL.out.1 with hn | ⟨b, o, rfl, _, hc⟩
      · rw [hn] at hlt; simp at hlt
      · obtain ⟨p, ai, ci, xs, c0, c1, HI, HX⟩ := rows_at hc hlt
        have e0 := (hbel.cell (World.block_lt_of_cell? _ _ c0)).trans c0
        have e1 := (hbel.cell (World.block_lt_of_cell? _ _ c1)).trans c1
        clear hc c0 c1
        have hb1 : Below wr.heap.size wr (wr.alloc (.cells #[.int .i64 p, .slice ai xs.length ci] 50)) := (Below.refl _ _).alloc (Nat.le_refl _) _
        have hb2 := hbel.trans (hb1.mono hbel.size)
        obtain ⟨q1, q2, q3⟩ := HR.out _ (List.mem_of_getElem? HX.out)
        have hsz := asz wr (.cells #[.int .i64 p, .slice ai xs.length ci] 50)
        by_cases hfit : FitsRow σ.ar (p, xs)
        · have cF := Lib.hid (fitsRow_any (HS.out.below hb2) p ai ci xs (HI.out.below hb2 (Nat.le_refl _)) hfit)
          have HFit := Lib.hid hfit
          clear hfit q3
          go_wp2_with (go_at_call 53; refine cF.out.mono ?_; rintro e w2 ⟨rfl, hb3⟩)
          go_roundw
          case rel => exact ⟨k + 1, by omega, by go_num, Lib.hid (by
            intro z hz
            rw [take_snoc' HX.out, List.mem_append, List.mem_singleton] at hz
            rcases hz with hz | rfl
            · exact HT.out z hz
            · exact HFit.out), hb2.trans (hb3.mono hb2.size)⟩
          case measure => simp [intOf]; omega
        · have cF := Lib.hid (fits_no (HS.out.below hb2) p ai ci xs (HI.out.below hb2 (Nat.le_refl _)) q1 q3 q2 hfit)
          clear hfit q3
          go_wp2_with (go_at_call 53; refine cF.out.mono ?_; rintro e w2 ⟨rfl, hb3⟩)
          go_ret2
          exact ⟨rfl, hb2.trans (hb3.mono hb2.size)⟩
    · exfalso
      have h0 := HT.out
      rw [List.take_of_length_le (by omega)] at h0
      exact HN.out h0

end
end Go.Proofs.Ytkejjiohkhlnnaa
