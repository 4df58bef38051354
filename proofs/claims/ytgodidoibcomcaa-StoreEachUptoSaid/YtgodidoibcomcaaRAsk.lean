/-
  What the document's store (edictref05) answers: Len, Of, Where, May, Num, Has, Row.
-/
import Derived.Test.YtgodidoibcomcaaROwn
import Derived.Test.YtgodidoibcomcaaSHolds
namespace Go.Proofs.Ytgodidoibcomcaa
open Go.RowKit

section
variable {s rb : Nat} {ρ : Rf} {τ : Own} {w : World} {aA : Option Addr} {cA : Nat} {vL vB : Value}

theorem RefAt.rowAt (hs : RefAt s rb ρ τ w aA cA vL vB) {i : Nat} {r : Row} (hr : ρ.rows[i]? = some r) : ∃ g c a ca, vL = .slice (some ⟨g, 0, none⟩) ρ.rows.length c ∧ w.cell? ⟨g, i * 2, none⟩ = some (.int .i64 r.1) ∧ w.cell? ⟨g, i * 2 + 1, none⟩ = some (.slice a r.2.length ca) ∧ IntsZ (Still s τ) w a ca r.2 := by
  obtain ⟨cs, ho, _, hc⟩ := hs.list
  have hi := (List.getElem?_eq_some_iff.1 hr).1
  obtain ⟨h1, ai, ci, h2, h3⟩ := hc.2 i hi
  have e : ρ.rows[i] = r := (List.getElem?_eq_some_iff.1 hr).2
  rw [e] at h1 h2 h3
  rcases owns_form ho with ⟨e, h0, _⟩ | ⟨g, cap, e, _, _, _, _, _, hcell, _⟩
  · omega
  · exact ⟨g, cap, ai, ci, e, hcell _ _ h1, hcell _ _ h2, h3⟩

set_option maxHeartbeats 1000000 in
theorem rlen_any (hs : RefAt s rb ρ τ w aA cA vL vB) : Calls Try.prog 56 #[.pointer (some ⟨rb, 0, none⟩)] w fun e w' => e = .returned (.int .i64 ρ.rows.length) ∧ w' = w := by
  obtain ⟨a, c, rfl, _⟩ := hs.listZ
  obtain ⟨c0, c1, c2, c3, c4⟩ := hs.cells
  clear hs c0 c2 c3 c4
  go_enter Try.func56, Try.ntmps56
  go_wp2
  go_ret
  exact ⟨rfl, rfl⟩

set_option maxHeartbeats 2000000 in
theorem rmay_yes {Z : Nat → Prop} (hs : RefAt s rb ρ τ w aA cA vL vB) (p : Int) (a : Option Addr) (c : Nat) (xs : List Int) (hx : IntsZ Z w a c xs) (hf : FitsRow ρ.ar (p, xs)) :
    Calls Try.prog 74 #[.pointer (some ⟨rb, 0, none⟩), .agg #[.int .i64 p, .slice a xs.length c]] w fun e w' => e = .returned (.bool true) ∧ Below w.heap.size w w' := by
  obtain ⟨h1, h2, h3, h4, h5⟩ := hf
  simp only at h1 h2 h3 h4 h5
  obtain ⟨c0, c1, c2, c3, c4⟩ := hs.cells
  have e1 : ∀ {A : Addr} {v : Value}, w.cell? A = some v → (w.alloc (.cells #[.int .i64 p, .slice a xs.length c] 28)).cell? A = some v := fun {A v} hc => on_cell ((Below.refl _ _).alloc (Nat.le_refl _) _) hc
  have b0 := e1 c0
  have hAr := hs.ar
  have x0 : (w.alloc (.cells #[.int .i64 p, .slice a xs.length c] 28)).cell? ⟨w.heap.size, 0, none⟩ = some (.int .i64 p) := by simp
  have x1 : (w.alloc (.cells #[.int .i64 p, .slice a xs.length c] 28)).cell? ⟨w.heap.size, 1, none⟩ = some (.slice a xs.length c) := by simp
  have hbw : Below w.heap.size w (w.alloc (.cells #[.int .i64 p, .slice a xs.length c] 28)) := (Below.refl _ _).alloc (Nat.le_refl _) _
  have hp := hs.preds
  rcases hAr.1 with hnil | ⟨bA, oA, haA, _, hcA⟩
  · rw [hnil] at h2; simp at h2; omega
  · have hP : p.toNat < ρ.ar.length := by omega
    have cP := e1 (hcA p.toNat hP)
    have hPv : ρ.ar[p.toNat] = (xs.length : Int) := by rw [List.getElem?_eq_getElem hP] at h3; exact Option.some.inj h3
    rw [hPv] at cP
    rw [haA] at b0
    obtain ⟨P, hPP⟩ : ∃ P : Nat, p = P := ⟨p.toNat, by omega⟩
    subst hPP
    simp only [Int.toNat_natCast] at cP hP
    have HX := Lib.hid (hx.below hbw (Nat.le_refl _)).ints
    have H5 := Lib.hid h5
    clear hs hAr c0 c1 c2 c3 c4 e1 hcA hx h5 h3 hPv
    go_enter Try.func74, Try.ntmps74
    go_wp2
    generalize w.alloc (.cells #[.int .i64 (P : Int), .slice a xs.length c] 28) = w0 at *
    go_quiet (fail)
    go_wp2
    go_loopw [5] (fun i wr => ∃ k : Nat, k ≤ xs.length ∧ i = .int .i64 k ∧ Below w0.heap.size w0 wr) (fun i _ => xs.length - (intOf i).toNat)
    case atStart => exact ⟨0, Nat.zero_le _, rfl, below_drewN (Below.refl _ _) _⟩
    case round =>
      obtain ⟨k, hk, rfl, hbel⟩ := hrel
      have x1 := on_cell hbel x1
      by_cases hlt : k < xs.length
      · rcases HX.out with hn | ⟨b, o, rfl, hc⟩
        · rw [hn] at hlt; simp at hlt
        · obtain ⟨x, c0, HXk⟩ := ints_at hc hlt
          have d0 := (hbel.cell (World.block_lt_of_cell? _ _ c0)).trans c0
          have hx0 := (H5.out x (List.mem_of_getElem? HXk.out)).1
          clear hc c0
          go_wp2
          go_roundw
          case rel => exact ⟨k + 1, by omega, by go_num, hbel⟩
          case measure => simp [intOf]; omega
      · go_wp2
        go_ret
        exact ⟨rfl, hbw.trans (hbel.mono hbw.size)⟩

set_option maxHeartbeats 4000000 in
theorem rmay_no {Z : Nat → Prop} (hs : RefAt s rb ρ τ w aA cA vL vB) (p : Int) (a : Option Addr) (c : Nat) (xs : List Int) (hx : IntsZ Z w a c xs) (hp : Rng p) (hxr : ∀ x ∈ xs, Rng x) (hl : xs.length ≤ 9223372036854775807) (hn : ¬ FitsRow ρ.ar (p, xs)) :
    Calls Try.prog 74 #[.pointer (some ⟨rb, 0, none⟩), .agg #[.int .i64 p, .slice a xs.length c]] w fun e w' => e = .returned (.bool false) ∧ Below w.heap.size w w' := by
  obtain ⟨c0, c1, c2, c3, c4⟩ := hs.cells
  have e1 : ∀ {A : Addr} {v : Value}, w.cell? A = some v → (w.alloc (.cells #[.int .i64 p, .slice a xs.length c] 28)).cell? A = some v := fun {A v} hc => on_cell ((Below.refl _ _).alloc (Nat.le_refl _) _) hc
  have b0 := e1 c0
  have hAr := hs.ar
  have x0 : (w.alloc (.cells #[.int .i64 p, .slice a xs.length c] 28)).cell? ⟨w.heap.size, 0, none⟩ = some (.int .i64 p) := by simp
  have x1 : (w.alloc (.cells #[.int .i64 p, .slice a xs.length c] 28)).cell? ⟨w.heap.size, 1, none⟩ = some (.slice a xs.length c) := by simp
  have hbw : Below w.heap.size w (w.alloc (.cells #[.int .i64 p, .slice a xs.length c] 28)) := (Below.refl _ _).alloc (Nat.le_refl _) _
  have hpr := hs.preds
  have HArity := Lib.hid hs.arity
  have HX := Lib.hid (hx.below hbw (Nat.le_refl _)).ints
  have HXR := Lib.hid hxr
  have HN := Lib.hid hn
  clear hs c0 c1 c2 c3 c4 hx hxr hn
  rcases Int.lt_or_le p 0 with h1 | h1
  · have hd : decide (p < 0) = true := by simpa using h1
    clear hAr e1 b0
    go_enter Try.func74, Try.ntmps74
    go_wp2
    generalize w.alloc (.cells #[.int .i64 p, .slice a xs.length c] 28) = w0 at *
    go_quiet (fail)
    go_wp2
    go_ret
    exact ⟨rfl, below_drewN hbw _⟩
  · obtain ⟨P, rfl⟩ := Int.eq_ofNat_of_zero_le h1
    have hd : decide ((P : Int) < 0) = false := by simp
    rcases Nat.lt_or_ge P ρ.ar.length with h2 | h2
    · have hd2 : decide ((ρ.ar.length : Int) ≤ (P : Int)) = false := by simp; omega
      rcases hAr.1 with hnil | ⟨bA, oA, haA, _, hcA⟩
      · rw [hnil] at h2; simp at h2
      · have cP := e1 (hcA P h2)
        obtain ⟨y, hy⟩ : ∃ y, ρ.ar[P] = y := ⟨_, rfl⟩
        rw [hy] at cP
        rw [haA] at b0
        have hyr : 0 ≤ y ∧ y ≤ 8 := HArity.out y (by rw [← hy]; exact List.getElem_mem h2)
        have HY := Lib.hid (show ρ.ar[P]? = some y by rw [List.getElem?_eq_getElem h2, hy])
        clear hAr hcA e1 hy
        by_cases hyl : y = (xs.length : Int)
        · subst hyl
          go_enter Try.func74, Try.ntmps74
          go_wp2
          generalize w.alloc (.cells #[.int .i64 (P : Int), .slice a xs.length c] 28) = w0 at *
          go_quiet (fail)
          go_wp2
          go_loopw [5] (fun i wr => ∃ k : Nat, k ≤ xs.length ∧ i = .int .i64 k ∧ Hid (∀ x ∈ xs.take k, 0 ≤ x) ∧ Below w0.heap.size w0 wr) (fun i _ => xs.length - (intOf i).toNat)
          case atStart => exact ⟨0, Nat.zero_le _, rfl, Lib.hid (by simp), below_drewN (Below.refl _ _) _⟩
          case round =>
            obtain ⟨k, hk, rfl, HT, hbel⟩ := hrel
            have x1 := on_cell hbel x1
            by_cases hlt : k < xs.length
            · rcases HX.out with hn | ⟨b, o, rfl, hc⟩
              · rw [hn] at hlt; simp at hlt
              · obtain ⟨x, d0, HXk⟩ := ints_at hc hlt
                have y0 := (hbel.cell (World.block_lt_of_cell? _ _ d0)).trans d0
                clear hc d0
                by_cases hneg : x < 0
                · have hd3 : decide (x < 0) = true := by simpa using hneg
                  go_wp2
                  go_ret
                  exact ⟨rfl, hbw.trans (hbel.mono hbw.size)⟩
                · have hd3 : decide (x < 0) = false := by simpa using hneg
                  have hx0 : 0 ≤ x := by omega
                  go_wp2
                  go_roundw
                  case rel => exact ⟨k + 1, by omega, by go_num, Lib.hid (by
                    intro z hz
                    rw [take_snoc' HXk.out, List.mem_append, List.mem_singleton] at hz
                    rcases hz with hz | rfl
                    · exact HT.out z hz
                    · exact hx0), hbel⟩
                  case measure => simp [intOf]; omega
            · exfalso
              refine HN.out ⟨by simp, by simp; omega, by simpa using HY.out, by simp; omega, fun x hx => ?_⟩
              have h0 := HT.out
              rw [List.take_of_length_le (by omega)] at h0
              have := HXR.out x hx
              have := h0 x hx
              exact ⟨by omega, by have := (HXR.out x hx).2; omega⟩
        · have hd3 : ((xs.length : Int) != y) = true := by simpa using fun e => hyl e.symm
          go_enter Try.func74, Try.ntmps74
          go_wp2
          generalize w.alloc (.cells #[.int .i64 (P : Int), .slice a xs.length c] 28) = w0 at *
          go_quiet (fail)
          go_wp2
          go_ret
          exact ⟨rfl, below_drewN hbw _⟩
    · have hd2 : decide ((ρ.ar.length : Int) ≤ (P : Int)) = true := by simp; omega
      have hle : (ρ.ar.length : Int) ≤ (P : Int) := by omega
      clear hAr e1
      go_enter Try.func74, Try.ntmps74
      go_wp2
      generalize w.alloc (.cells #[.int .i64 (P : Int), .slice a xs.length c] 28) = w0 at *
      go_quiet (fail)
      go_wp2
      go_ret
      exact ⟨rfl, below_drewN hbw _⟩


set_option maxHeartbeats 2000000 in
theorem rrow2_own (hs : RefAt s rb ρ τ w aA cA vL vB) (i : Nat) (r : Row) (hr : ρ.rows[i]? = some r) : Calls Try.prog 71 #[.pointer (some ⟨rb, 0, none⟩), .int .i64 i] w (RowOwn r 0 w) := by
  obtain ⟨g, cR, a, ca, hv, d0, d1, hI⟩ := hs.rowAt hr
  obtain ⟨c0, c1, c2, c3, c4⟩ := hs.cells
  have hi := (List.getElem?_eq_some_iff.1 hr).1
  have hf := hs.fits r (List.mem_of_getElem? hr)
  rw [hv] at c1
  obtain ⟨p, xs⟩ := r
  have hx8 : xs.length ≤ 8 := hf.2.2.2.1
  have hlt := (World.block_lt_of_cell? _ _ c1)
  simp only at d0 d1 hI hlt
  have e1 : ∀ {A : Addr} {v : Value}, w.cell? A = some v → (w.alloc (.cells #[.int .i64 0, .slice none 0 0] 28)).cell? A = some v := fun {A v} hc => on_cell ((Below.refl _ _).alloc (Nat.le_refl _) _) hc
  have b1 := e1 c1
  have k0 := e1 d0
  have k1 := e1 d1
  have cC := fun (W : World) (hW : Below w.heap.size w W) => Lib.hid (rrow_own p a ca xs W (hI.below hW (Nat.le_refl _)) (by omega))
  clear hs c0 c1 c2 c3 c4 hI hf hr hv d0 d1 e1
  have hbw : Below w.heap.size w (w.alloc (.cells #[.int .i64 0, .slice none 0 0] 28)) := (Below.refl _ _).alloc (Nat.le_refl _) _
  go_enter Try.func71, Try.ntmps71
  go_wp2_with (go_at_call 73; refine (cC _ hbw).out.mono ?_; rintro e w1 ⟨a', c', rfl, hI, hb1⟩; have z0 := (hb1.cell (p := ⟨w.heap.size, 0, none⟩) (by rw [asz]; show w.heap.size < _; omega)).trans (show _ = some (Value.int .i64 0) by simp); have z1 := (hb1.cell (p := ⟨w.heap.size, 1, none⟩) (by rw [asz]; show w.heap.size < _; omega)).trans (show _ = some (Value.slice none 0 0) by simp); have q0 : ∀ j, w1.frozen? ⟨w.heap.size, j, none⟩ = false := fun j => (hb1.frozen (p := ⟨w.heap.size, j, none⟩) (by rw [asz]; show w.heap.size < _; omega)).trans (by go_simp))
  refine bodyPost_ret (v := .tuple #[.agg #[.int .i64 p, .slice a' xs.length c'], .int .i64 0]) ?_ rfl ⟨a', c', rfl, ?_, ?_⟩
  · simp [results, Try.results71, go_sem, z0, z1]
  · rw [asz] at hI
    have hg : ∀ g, (Value.slice a' xs.length c').ownBlock = some g → w.heap.size + 1 ≤ g := fun g e => (hI.lt g e).1
    have h2 := owns_block (w' := (w1.setCell ⟨w.heap.size, 0, none⟩ (.int .i64 p)).setCell ⟨w.heap.size, 1, none⟩ (.slice a' xs.length c')) hI (fun g e => by
      have := hg g e
      rw [Below.heap_setCell _ _ _ _ (by show g ≠ w.heap.size; omega), Below.heap_setCell _ _ _ _ (by show g ≠ w.heap.size; omega)])
    exact ownsInts_base h2 (by omega)
  · exact ((hbw.trans (hb1.mono (by rw [asz]; omega))).setCell (Nat.le_refl _) _).setCell (Nat.le_refl _) _


set_option maxHeartbeats 2000000 in
theorem rrow2_bad (hs : RefAt s rb ρ τ w aA cA vL vB) (i : Int) (hi : i < 0 ∨ (ρ.rows.length : Int) ≤ i) :
    Calls Try.prog 71 #[.pointer (some ⟨rb, 0, none⟩), .int .i64 i] w fun e w' => e = .returned (.tuple #[.agg #[.int .i64 0, .slice none 0 0], .int .i64 2]) ∧ Below w.heap.size w w' := by
  obtain ⟨ao, c, hv, _⟩ := hs.listZ
  obtain ⟨c0, c1, c2, c3, c4⟩ := hs.cells
  rw [hv] at c1
  have b1 := on_cell ((Below.refl _ _).alloc (o := (.cells #[.int .i64 0, .slice none 0 0] 28)) (Nat.le_refl _)) c1
  clear hs hv c0 c1 c2 c3 c4
  have hB : Below w.heap.size w (w.alloc (.cells #[.int .i64 0, .slice none 0 0] 28)) := (Below.refl _ _).alloc (Nat.le_refl _) _
  rcases Int.lt_or_le i 0 with h1 | h1
  · have hd : decide (i < 0) = true := by simpa using h1
    go_enter Try.func71, Try.ntmps71
    go_wp2
    exact bodyPost_ret (v := .tuple #[.agg #[.int .i64 0, .slice none 0 0], .int .i64 2]) (by simp [results, Try.results71, go_sem]) rfl ⟨rfl, by assumption⟩
  · have hd : decide (i < 0) = false := by simpa using h1
    have h2 : (ρ.rows.length : Int) ≤ i := by omega
    have hd2 : decide ((ρ.rows.length : Int) ≤ i) = true := by simpa using h2
    go_enter Try.func71, Try.ntmps71
    go_wp2
    exact bodyPost_ret (v := .tuple #[.agg #[.int .i64 0, .slice none 0 0], .int .i64 2]) (by simp [results, Try.results71, go_sem]) rfl ⟨rfl, by assumption⟩


set_option maxHeartbeats 4000000 in
theorem rof_any (hs : RefAt s rb ρ τ w aA cA vL vB) (q : Int) : Calls Try.prog 57 #[.pointer (some ⟨rb, 0, none⟩), .int .i64 q] w (OwnEnd (ofK ρ.rows (.int .i64 q)) w) := by
  obtain ⟨a, c, rfl, hZ⟩ := hs.listZ
  obtain ⟨c0, c1, c2, c3, c4⟩ := hs.cells
  have hB := hs.many
  have HZ := Lib.hid hZ
  clear hs c0 c2 c3 c4 hZ
  go_enter Try.func57, Try.ntmps57
  go_wp2
  go_loopw [5, 6] (fun v i wr => ∃ j : Nat, j ≤ ρ.rows.length ∧ i = .int .i64 j ∧ wr.ownsRow w.heap.size 3 1 v (ofK (ρ.rows.take j) (.int .i64 q)).length ((ofK (ρ.rows.take j) (.int .i64 q)).map (Value.int .i64)) ∧ Below w.heap.size w wr) (fun _ i _ => ρ.rows.length - (intOf i).toNat)
  case atStart => exact ⟨0, Nat.zero_le _, rfl, World.ownsRow_nil _ _ _ _, Below.refl _ _⟩
  case round =>
    obtain ⟨j, hj, rfl, hown, hbel⟩ := hrel
    have d1 := on_cell hbel c1
    by_cases hlt : j < ρ.rows.length
    · rcases HZ.out.1 with hn | ⟨b2, o2, rfl, _, hc2⟩
      · rw [hn] at hlt; simp at hlt
      · obtain ⟨p, a2, c2, xs, y0, y1, HI2, HX⟩ := rows_at hc2 hlt
        have e2 := on_cell hbel y0
        have hlj : (ρ.rows.take j).length = j := by simp; omega
        have hK := ofK_at (ρ.rows.take j) (p, xs) q
        rw [← take_snoc' HX.out, hlj] at hK
        have hlenK : (ofK (ρ.rows.take j) (.int .i64 q)).length ≤ (ρ.rows.take j).length := idxL_length (fun r => Value.int .i64 q = .int .i64 r.1) (ρ.rows.take j)
        rw [hlj] at hlenK
        obtain ⟨L, hL⟩ : ∃ L, ofK (ρ.rows.take j) (.int .i64 q) = L := ⟨_, rfl⟩
        rw [hL] at hown hK hlenK
        have HK := Lib.hid hK
        have sz2 := hbel.size
        clear hc2 y0 y1 hK hL
        by_cases hpq : p = q
        · subst hpq
          go_wp2_with (at_builtin; refine wpList_append_any elemInt _ rfl _ _ rfl w.heap.size _ L.length (L.map (Value.int .i64)) rfl (hown.alloc _) (some ⟨wr.heap.size, 0, none⟩) 1 1 [.int .i64 (j : Int)] rfl (source_new _ _ _) rfl (by simp [Value.oneCell']) (by unfold maxLen; omega) (by omega) (by simp; omega) ?_; intro v' w2 hown2 hgrow2 _)
          have hb4 : Below w.heap.size w w2 := (hbel.alloc sz2 _).grown hgrow2 (by simp; omega) (fun j hj => by have := (hown.lt j hj).1; omega)
          go_roundw
          case rel => exact ⟨j + 1, by omega, by go_num, by rw [HK.out, if_pos rfl]; simpa using hown2, hb4⟩
          case measure => simp [intOf]; omega
        · have hne : (p == q) = false := by simpa using hpq
          go_wp2
          go_roundw
          case rel => exact ⟨j + 1, by omega, by go_num, by rw [HK.out, if_neg hpq]; exact hown, hbel⟩
          case measure => simp [intOf]; omega
    · have hje : j = ρ.rows.length := by omega
      subst hje
      rw [List.take_length] at hown
      go_wp2
      go_ret
      exact ⟨_, rfl, hown, hbel⟩

theorem whK_at (rows : List Row) (r : Row) (p i x : Int) : whK (rows ++ [r]) (placeV p i x) = if r.1 = p ∧ 0 ≤ i ∧ r.2[i.toNat]? = some x then whK rows (placeV p i x) ++ [(rows.length : Int)] else whK rows (placeV p i x) := by
  unfold whK
  rw [idxL_snoc]
  have e : (∃ (j : Nat) (y : Int), r.2[j]? = some y ∧ placeV p i x = placeV r.1 j y) ↔ (r.1 = p ∧ 0 ≤ i ∧ r.2[i.toNat]? = some x) := by
    constructor
    · rintro ⟨j, y, h1, h2⟩
      simp [placeV] at h2
      obtain ⟨h3, h4, h5⟩ := h2
      subst h4; subst h5
      exact ⟨h3.symm, by omega, by simpa using h1⟩
    · rintro ⟨h1, h2, h3⟩
      refine ⟨i.toNat, x, h3, ?_⟩
      rw [placeV, placeV, h1, Int.toNat_of_nonneg h2]
  by_cases h : r.1 = p ∧ 0 ≤ i ∧ r.2[i.toNat]? = some x
  · rw [if_pos h, if_pos (e.2 h)]
  · rw [if_neg h, if_neg (fun q => h (e.1 q)), List.append_nil]

set_option maxHeartbeats 4000000 in
theorem rwhere_any (hs : RefAt s rb ρ τ w aA cA vL vB) (q i x : Int) : Calls Try.prog 59 #[.pointer (some ⟨rb, 0, none⟩), .int .i64 q, .int .i64 i, .int .i64 x] w (OwnEnd (whK ρ.rows (placeV q i x)) w) := by
  obtain ⟨a, c, rfl, hZ⟩ := hs.listZ
  obtain ⟨c0, c1, c2, c3, c4⟩ := hs.cells
  have hB := hs.many
  have HF := Lib.hid (fun (r : Row) (h : r ∈ ρ.rows) => (hs.fits r h).2.2.2.1)
  have HZ := Lib.hid hZ
  clear hs c0 c2 c3 c4 hZ
  go_enter Try.func59, Try.ntmps59
  go_wp2
  go_loopw [9, 10] (fun v k wr => ∃ j : Nat, j ≤ ρ.rows.length ∧ k = .int .i64 j ∧ wr.ownsRow w.heap.size 3 1 v (whK (ρ.rows.take j) (placeV q i x)).length ((whK (ρ.rows.take j) (placeV q i x)).map (Value.int .i64)) ∧ Below w.heap.size w wr) (fun _ k _ => ρ.rows.length - (intOf k).toNat)
  case atStart => exact ⟨0, Nat.zero_le _, rfl, World.ownsRow_nil _ _ _ _, Below.refl _ _⟩
  case round =>
    obtain ⟨j, hj, rfl, hown, hbel⟩ := hrel
    have d1 := on_cell hbel c1
    by_cases hlt : j < ρ.rows.length
    · rcases HZ.out.1 with hn | ⟨b2, o2, rfl, _, hc2⟩
      · rw [hn] at hlt; simp at hlt
      · obtain ⟨p, a2, c2, xs, y0, y1, HI2, HX⟩ := rows_at hc2 hlt
        have e2 := on_cell hbel y0
        have e3 := on_cell hbel y1
        have hx8 := HF.out _ (List.mem_of_getElem? HX.out)
        simp only at hx8
        have hlj : (ρ.rows.take j).length = j := by simp; omega
        have hK := whK_at (ρ.rows.take j) (p, xs) q i x
        rw [← take_snoc' HX.out, hlj] at hK
        simp only at hK
        have hlenK : (whK (ρ.rows.take j) (placeV q i x)).length ≤ (ρ.rows.take j).length := idxL_length _ (ρ.rows.take j)
        rw [hlj] at hlenK
        obtain ⟨L, hL⟩ : ∃ L, whK (ρ.rows.take j) (placeV q i x) = L := ⟨_, rfl⟩
        rw [hL] at hown hK hlenK
        have HK := Lib.hid hK
        have sz2 := hbel.size
        clear hc2 y0 y1 hK hL
        by_cases hpq : p = q
        · subst hpq
          by_cases hi0 : 0 ≤ i
          · obtain ⟨n, rfl⟩ := Int.eq_ofNat_of_zero_le hi0
            by_cases hin : n < xs.length
            · have hd1 : decide ((0 : Int) ≤ (n : Int)) = true := by simp
              have hd2 : decide ((n : Int) < (xs.length : Int)) = true := by simpa using hin
              have hd3 : (n : Int) < (xs.length : Int) := by omega
              rcases HI2.out.1 with hn | ⟨b3, o3, rfl, _, hc3⟩
              · rw [hn] at hin; simp at hin
              · obtain ⟨y, y2, HY⟩ := ints_at hc3 hin
                have e4 := on_cell ((Below.refl _ _).alloc (o := (.cells #[.int .i64 p, .slice (some ⟨b3, o3, none⟩) xs.length c2] 28)) (Nat.le_refl _)) (on_cell hbel y2)
                clear hc3 y2
                by_cases hyx : y = x
                · subst hyx
                  go_wp2_with (at_builtin; refine wpList_append_any elemInt _ rfl _ _ rfl w.heap.size _ L.length (L.map (Value.int .i64)) rfl ((hown.alloc _).alloc _) (some ⟨wr.heap.size + 1, 0, none⟩) 1 1 [.int .i64 (j : Int)] rfl (by have h := source_new (wr.alloc (.cells #[.int .i64 p, .slice (some ⟨b3, o3, none⟩) xs.length c2] 28)) [.int .i64 (j : Int)] 3; rw [asz] at h; exact h) rfl (by simp [Value.oneCell']) (by unfold maxLen; omega) (by omega) (by simp; omega) ?_; intro v' w2 hown2 hgrow2 _)
                  have hb4 : Below w.heap.size w w2 := ((hbel.alloc sz2 _).alloc (by simp; omega) _).grown hgrow2 (by simp; omega) (fun j hj => by have := (hown.lt j hj).1; omega)
                  go_roundw
                  case rel => exact ⟨j + 1, by omega, by go_num, by rw [HK.out, if_pos ⟨rfl, hi0, by simpa using HY.out⟩]; simpa using hown2, hb4⟩
                  case measure => simp [intOf]; omega
                · have hne : (y == x) = false := by simpa using hyx
                  go_wp2
                  go_roundw
                  case rel => exact ⟨j + 1, by omega, by go_num, by rw [HK.out, if_neg (fun h => hyx (by have h2 := h.2.2; rw [Int.toNat_natCast, HY.out] at h2; exact Option.some.inj h2))]; exact hown.alloc _, hbel.alloc sz2 _⟩
                  case measure => simp [intOf]; omega
            · have hd1 : decide ((0 : Int) ≤ (n : Int)) = true := by simp
              have hd2 : decide ((n : Int) < (xs.length : Int)) = false := by simpa using hin
              go_wp2
              go_roundw
              case rel => exact ⟨j + 1, by omega, by go_num, by rw [HK.out, if_neg (fun h => hin (by have h2 := h.2.2; rw [Int.toNat_natCast] at h2; exact (List.getElem?_eq_some_iff.1 h2).1))]; exact hown.alloc _, hbel.alloc sz2 _⟩
              case measure => simp [intOf]; omega
          · have hd1 : decide ((0 : Int) ≤ i) = false := by simpa using hi0
            go_wp2
            go_roundw
            case rel => exact ⟨j + 1, by omega, by go_num, by rw [HK.out, if_neg (fun h => hi0 h.2.1)]; exact hown.alloc _, hbel.alloc sz2 _⟩
            case measure => simp [intOf]; omega
        · have hne : (p == q) = false := by simpa using hpq
          go_wp2
          go_roundw
          case rel => exact ⟨j + 1, by omega, by go_num, by rw [HK.out, if_neg (fun h => hpq h.1)]; exact hown.alloc _, hbel.alloc sz2 _⟩
          case measure => simp [intOf]; omega
    · have hje : j = ρ.rows.length := by omega
      subst hje
      rw [List.take_length] at hown
      go_wp2
      go_ret
      exact ⟨_, rfl, hown, hbel⟩
end
end Go.Proofs.Ytgodidoibcomcaa
