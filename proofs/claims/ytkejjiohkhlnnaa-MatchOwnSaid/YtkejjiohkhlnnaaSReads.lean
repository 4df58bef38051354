/-
  What the calls that ask a store answer: Len, Row, Of, and, for rows that may be in it, fits, Num, Has.
-/
import Derived.Test.YtkejjiohkhlnnaaSKeys
namespace Go.Proofs.Ytkejjiohkhlnnaa
open Go.RowKit
open Go.Maps (Keyed)

section
variable {s sb : Nat} {σ : St} {h : Hd} {τ : Own} {w : World}
theorem StoreAt.vR (hs : StoreAt s sb σ h τ w) : ∃ ao c, h.vR = .slice ao σ.rows.length c ∧ (ao = none → σ.rows = [] ∧ c = 0) := by
  obtain ⟨cs, ho, _⟩ := hs.rows
  rcases owns_form ho with ⟨e, h0, _⟩ | ⟨g, cap, e, _⟩
  · exact ⟨none, 0, by rw [h0]; exact e, fun _ => ⟨List.eq_nil_of_length_eq_zero h0, rfl⟩⟩
  · exact ⟨_, cap, e, fun h => by cases h⟩

set_option maxHeartbeats 1000000 in
theorem len_any (hs : StoreAt s sb σ h τ w) : Calls Try.prog 35 #[.pointer (some ⟨sb, 0, none⟩)] w fun e w' => e = .returned (.int .i64 σ.rows.length) ∧ w' = w := by
  obtain ⟨ao, c, hv, _⟩ := hs.vR
  obtain ⟨c0, c1, c2, c3, c4, c5, c6, c7⟩ := hs.head.cells
  rw [hv] at c1
  clear hs hv c0 c2 c3 c4 c5 c6 c7
  go_enter Try.func35, Try.ntmps35
  go_wp2
  go_ret
  exact ⟨rfl, rfl⟩

theorem look_of (hs : StoreAt s sb σ h τ w) {p : Int} (hp : Rng p) : ∃ a c, (Instr.lookup 105 (.map (some h.bO)) (.int .i64 p) false).run Try.prog w = .ok (.slice a (ofK σ.rows (.int .i64 p)).length c) w ∧ IntsZ (fun _ => True) w a c (ofK σ.rows (.int .i64 p)) := by
  obtain ⟨_, f, hm, h3, h4⟩ := hs.of
  obtain ⟨l, hl⟩ := intKey_of hp
  have hrun := hm.look intLaw Try.underlying105 (zeroInts w) hl false
  cases hf : f (.int .i64 p) with
  | none =>
    rw [hf] at hrun
    have hn := h3 _ hf ⟨l, hl⟩
    rw [hn]
    exact ⟨none, 0, hrun, .inl rfl, fun _ => ⟨rfl, rfl⟩⟩
  | some v =>
    rw [hf] at hrun
    obtain ⟨ho, _⟩ := h4 _ v hf
    obtain ⟨a, c, rfl, hI⟩ := intsZ_of_row ho
    exact ⟨a, c, hrun, hI.zone fun _ _ => trivial⟩

set_option maxHeartbeats 1000000 in
theorem of_any (hs : StoreAt s sb σ h τ w) (p : Int) (hp : Rng p) (hl : σ.rows.length ≤ 1000000000000) : Calls Try.prog 84 #[.pointer (some ⟨sb, 0, none⟩), .int .i64 p] w (IntsEnd (ofK σ.rows (.int .i64 p)) w) := by
  obtain ⟨a, c, hrun, hI⟩ := look_of hs hp
  obtain ⟨c0, c1, c2, c3, c4, c5, c6, c7⟩ := hs.head.cells
  have hlen := idxL_length (fun r => Value.int .i64 p = .int .i64 r.1) σ.rows
  have hlen : (ofK σ.rows (.int .i64 p)).length ≤ σ.rows.length := hlen
  obtain ⟨L, hL⟩ : ∃ L, ofK σ.rows (.int .i64 p) = L := ⟨_, rfl⟩
  rw [hL] at hrun hI hlen ⊢
  have HC := Lib.hid (clone_any a c L w hI (by omega))
  clear hs c0 c1 c2 c3 c5 c6 c7 hI hL
  go_enter Try.func84, Try.ntmps84
  go_wp2_with (go_at_call 56; refine HC.out.mono ?_; rintro e w1 ⟨a', c', rfl, hI, hb1⟩)
  go_ret
  exact ⟨a', c', rfl, hI, hb1⟩

theorem RowsPart.at (hs : StoreAt s sb σ h τ w) {i : Nat} {r : Row} (hr : σ.rows[i]? = some r) : ∃ g c a ca, h.vR = .slice (some ⟨g, 0, none⟩) σ.rows.length c ∧ w.cell? ⟨g, i * 3, none⟩ = some (.int .i64 r.1) ∧ w.cell? ⟨g, i * 3 + 1, none⟩ = some (.slice a r.2.length ca) ∧ IntsZ (Still s τ) w a ca r.2 := by
  obtain ⟨cs, ho, _, hc⟩ := hs.rows
  have hi := (List.getElem?_eq_some_iff.1 hr).1
  have hb : ∃ bt, σ.bs[i]? = some bt := ⟨σ.bs[i]'(by rw [hs.sound.born]; exact hi), List.getElem?_eq_getElem _⟩
  obtain ⟨bt, hb⟩ := hb
  obtain ⟨c1, ⟨a, ca, c2, hI⟩, _⟩ := hc i r bt hr hb
  rcases owns_form ho with ⟨e, h0, _⟩ | ⟨g, cap, e, _, _, _, _, _, hcell, _⟩
  · omega
  · exact ⟨g, cap, a, ca, e, hcell _ _ c1, hcell _ _ c2, hI⟩

/-- what Row leaves -/
def RowEnd (r : Row) (k : Int) (w : World) (e : Ending) (w' : World) : Prop :=
  ∃ a c, e = .returned (.tuple #[.agg #[.int .i64 r.1, .slice a r.2.length c], .int .i64 k]) ∧ IntsZ (fun j => w.heap.size ≤ j) w' a c r.2 ∧ Below w.heap.size w w'

set_option maxHeartbeats 2000000 in
theorem row_any (hs : StoreAt s sb σ h τ w) (i : Nat) (r : Row) (hr : σ.rows[i]? = some r) : Calls Try.prog 36 #[.pointer (some ⟨sb, 0, none⟩), .int .i64 i] w (RowEnd r 0 w) := by
  obtain ⟨g, cR, a, ca, hv, d0, d1, hI⟩ := RowsPart.at hs hr
  obtain ⟨c0, c1, c2, c3, c4, c5, c6, c7⟩ := hs.head.cells
  have hi := (List.getElem?_eq_some_iff.1 hr).1
  have hf := hs.sound.fits r (List.mem_of_getElem? hr)
  rw [hv] at c1
  obtain ⟨p, xs⟩ := r
  have hx8 : xs.length ≤ 8 := hf.2.2.2.1
  have hlt := (World.block_lt_of_cell? _ _ c1)
  simp only at d0 d1 hI hlt
  have e1 : ∀ {A : Addr} {v : Value}, w.cell? A = some v → (w.alloc (.cells #[.int .i64 0, .slice none 0 0] 50)).cell? A = some v := fun {A v} hc => on_cell ((Below.refl _ _).alloc (Nat.le_refl _) _) hc
  have b1 := e1 c1
  have k0 := e1 d0
  have k1 := e1 d1
  have cC := fun (W : World) (hW : Below w.heap.size w W) => Lib.hid (copied_any p a ca xs W (hI.below hW (Nat.le_refl _)) (by omega))
  clear hs c0 c1 c2 c3 c4 c5 c6 c7 hI hf hr hv d0 d1 e1
  have hbw : Below w.heap.size w (w.alloc (.cells #[.int .i64 0, .slice none 0 0] 50)) := (Below.refl _ _).alloc (Nat.le_refl _) _
  go_enter Try.func36, Try.ntmps36
  go_wp2_with (go_at_call 65; refine (cC _ hbw).out.mono ?_; rintro e w1 ⟨a', c', rfl, hI, hb1⟩; have z0 := (hb1.cell (p := ⟨w.heap.size, 0, none⟩) (by rw [asz]; show w.heap.size < _; omega)).trans (show _ = some (Value.int .i64 0) by simp); have z1 := (hb1.cell (p := ⟨w.heap.size, 1, none⟩) (by rw [asz]; show w.heap.size < _; omega)).trans (show _ = some (Value.slice none 0 0) by simp); have q0 : ∀ j, w1.frozen? ⟨w.heap.size, j, none⟩ = false := fun j => (hb1.frozen (p := ⟨w.heap.size, j, none⟩) (by rw [asz]; show w.heap.size < _; omega)).trans (by go_simp))
  refine bodyPost_ret (v := .tuple #[.agg #[.int .i64 p, .slice a' xs.length c'], .int .i64 0]) ?_ rfl ⟨a', c', rfl, ?_, ?_⟩
  · simp [results, Try.results36, go_sem, z0, z1]
  · rw [asz] at hI
    refine hI.keep (fun j _ hz => ?_) (fun j _ hz => ?_)
    · have hz : w.heap.size + 1 ≤ j := hz
      rw [Below.heap_setCell _ _ _ _ (by show j ≠ w.heap.size; omega), Below.heap_setCell _ _ _ _ (by show j ≠ w.heap.size; omega)]
    · have hz : w.heap.size + 1 ≤ j := hz
      omega
  · exact ((hbw.trans (hb1.mono (by rw [asz]; omega))).setCell (Nat.le_refl _) _).setCell (Nat.le_refl _) _

set_option maxHeartbeats 2000000 in
theorem fitsRow_any {Z : Nat → Prop} (hs : StoreAt s sb σ h τ w) (p : Int) (a : Option Addr) (c : Nat) (xs : List Int) (hx : IntsZ Z w a c xs) (hf : FitsRow σ.ar (p, xs)) :
    Calls Try.prog 53 #[.pointer (some ⟨sb, 0, none⟩), .agg #[.int .i64 p, .slice a xs.length c]] w fun e w' => e = .returned (.bool true) ∧ Below w.heap.size w w' := by
  obtain ⟨h1, h2, h3, h4, h5⟩ := hf
  simp only at h1 h2 h3 h4 h5
  obtain ⟨c0, c1, c2, c3, c4, c5, c6, c7⟩ := hs.head.cells
  have e1 : ∀ {A : Addr} {v : Value}, w.cell? A = some v → (w.alloc (.cells #[.int .i64 p, .slice a xs.length c] 50)).cell? A = some v := fun {A v} hc => on_cell ((Below.refl _ _).alloc (Nat.le_refl _) _) hc
  have b0 := e1 c0
  have hAr := hs.ar
  have x0 : (w.alloc (.cells #[.int .i64 p, .slice a xs.length c] 50)).cell? ⟨w.heap.size, 0, none⟩ = some (.int .i64 p) := by simp
  have x1 : (w.alloc (.cells #[.int .i64 p, .slice a xs.length c] 50)).cell? ⟨w.heap.size, 1, none⟩ = some (.slice a xs.length c) := by simp
  have hbw : Below w.heap.size w (w.alloc (.cells #[.int .i64 p, .slice a xs.length c] 50)) := (Below.refl _ _).alloc (Nat.le_refl _) _
  have hp := hs.sound.preds
  rcases hAr.1 with hnil | ⟨bA, oA, haA, _, hcA⟩
  · rw [hnil] at h2; simp at h2; omega
  · have hP : p.toNat < σ.ar.length := by omega
    have cP := e1 (hcA p.toNat hP)
    have hPv : σ.ar[p.toNat] = (xs.length : Int) := by rw [List.getElem?_eq_getElem hP] at h3; exact Option.some.inj h3
    rw [hPv] at cP
    rw [haA] at b0
    obtain ⟨P, hPP⟩ : ∃ P : Nat, p = P := ⟨p.toNat, by omega⟩
    subst hPP
    simp only [Int.toNat_natCast] at cP hP
    have HX := Lib.hid (hx.below hbw (Nat.le_refl _)).ints
    have H5 := Lib.hid h5
    clear hs hAr c0 c1 c2 c3 c4 c5 c6 c7 e1 hcA hx h5 h3 hPv
    go_enter Try.func53, Try.ntmps53
    go_wp2
    generalize w.alloc (.cells #[.int .i64 (P : Int), .slice a xs.length c] 50) = w0 at *
    go_quiet (fail)
    go_wp2
    go_loopw [37] (fun i wr => ∃ k : Nat, k ≤ xs.length ∧ i = .int .i64 k ∧ Below w0.heap.size w0 wr) (fun i _ => xs.length - (intOf i).toNat)
    case atStart => exact ⟨0, Nat.zero_le _, rfl, below_drewN (Below.refl _ _) _⟩
    case round =>
      obtain ⟨k, hk, rfl, hbel⟩ := hrel
      by_cases hlt : k < xs.length
      · rcases HX.out with hn | ⟨b, o, rfl, hc⟩
        · rw [hn] at hlt; simp at hlt
        · obtain ⟨x, c0, HXk⟩ := ints_at hc hlt
          have d0 := (hbel.cell (World.block_lt_of_cell? _ _ c0)).trans c0
          have hx0 := (H5.out x (List.mem_of_getElem? HXk.out)).1
          clear hc c0
          go_wp2
          go_roundw
          case rel => exact ⟨k + 1, by omega, by go_num, hbel⟩
          case measure => simp [intOf]; omega
      · go_wp2
        go_ret
        exact ⟨rfl, hbw.trans (hbel.mono hbw.size)⟩
end
end Go.Proofs.Ytkejjiohkhlnnaa
