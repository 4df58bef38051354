/-
  What Undo does: the first n rows stay.
-/
import Derived.Test.YtgodidoibcomcaaSUndo1
namespace Go.Proofs.Ytgodidoibcomcaa
open Go.RowKit
open Go.Maps (Keyed)

def lowMix (n : Nat) (k : Nat) (ls : List (Nat × Int)) : List (Nat × Int) := (ls.take k).map (fun x => (x.1, min x.2 (n : Int))) ++ ls.drop k
theorem lowMix_zero (n : Nat) (ls : List (Nat × Int)) : lowMix n 0 ls = ls := by simp [lowMix]
theorem lowMix_length (n k : Nat) (ls : List (Nat × Int)) : (lowMix n k ls).length = ls.length := by simp [lowMix]; omega
theorem lowMix_at (n : Nat) (ls : List (Nat × Int)) {k : Nat} {b : Nat} {x : Int} (h : ls[k]? = some (b, x)) : (lowMix n k ls)[k]? = some (b, x) := by
  have hk := (List.getElem?_eq_some_iff.1 h).1
  unfold lowMix
  rw [List.getElem?_append_right (by simp; omega), List.length_map, List.length_take, Nat.min_eq_left (by omega), Nat.sub_self, List.getElem?_drop]
  simpa using h
theorem lowMix_succ (n : Nat) (ls : List (Nat × Int)) {k : Nat} {b : Nat} {x : Int} (h : ls[k]? = some (b, x)) : lowMix n (k + 1) ls = (lowMix n k ls).set k (b, min x (n : Int)) := by
  have hk := (List.getElem?_eq_some_iff.1 h).1
  have hd : ls.drop k = (b, x) :: ls.drop (k + 1) := by
    rw [List.drop_eq_getElem_cons hk]
    congr 1
    exact (List.getElem?_eq_some_iff.1 h).2
  unfold lowMix
  rw [take_snoc' h, hd, List.map_append]
  have hl : ((ls.take k).map (fun x => (x.1, min x.2 (n : Int)))).length = k := by simp; omega
  rw [List.set_append_right _ _ (by omega), hl, Nat.sub_self]
  simp
def St.cut (σ : St) (n : Nat) : St := { σ with rows := σ.rows.take n, bs := σ.bs.take n, lows := lowMix n σ.lows.length σ.lows }
theorem LowsPart.at {s : Nat} {τ : Own} {w : World} {v : Value} {ls : List (Nat × Int)} (h : LowsPart s τ w v ls) {k b : Nat} {x : Int} (hk : ls[k]? = some (b, x)) :
    ∃ g cap, v = .slice (some ⟨g, 0, none⟩) ls.length cap ∧ w.cell? ⟨g, k, none⟩ = some (.pointer (some ⟨b, 0, none⟩)) ∧ w.heap[b]? = some (.cells #[.int .i64 x] 3 (0, 0)) ∧ τ b = some (s, .lows) ∧ g ≠ b := by
  obtain ⟨ho, hg, hc, _⟩ := h
  have hi := (List.getElem?_eq_some_iff.1 hk).1
  obtain ⟨t, c, n⟩ := hc _ (List.mem_of_getElem? hk)
  rcases owns_form ho with ⟨e, h0, _⟩ | ⟨g, cap, e, _, _, _, _, hv, hcell, _⟩
  · omega
  · exact ⟨g, cap, e, hcell _ _ (by rw [List.getElem?_map, hk]; rfl), c, t, fun e => n (by rw [hv, e])⟩
theorem LowsPart.set {s : Nat} {τ : Own} {w : World} {v : Value} {ls : List (Nat × Int)} (h : LowsPart s τ w v ls) {k b : Nat} {x : Int} (hk : ls[k]? = some (b, x)) (y : Int) :
    LowsPart s τ (w.setCell ⟨b, 0, none⟩ (.int .i64 y)) v (ls.set k (b, y)) := by
  have hi := (List.getElem?_eq_some_iff.1 hk).1
  obtain ⟨ho, hg, hc, hn⟩ := h
  obtain ⟨t, c, n⟩ := hc _ (List.mem_of_getElem? hk)
  have hkeys : (ls.set k (b, y)).map (·.1) = ls.map (·.1) := by
    rw [List.map_set]
    apply List.ext_getElem?
    intro i
    rw [List.getElem?_set]
    split
    · rename_i e
      subst e
      rw [if_pos (by simpa using hi), List.getElem?_map, hk]
      rfl
    · rfl
  have hptr : (ls.set k (b, y)).map (fun x => Value.pointer (some ⟨x.1, 0, none⟩)) = ls.map (fun x => Value.pointer (some ⟨x.1, 0, none⟩)) := by
    have := congrArg (List.map (fun b : Nat => Value.pointer (some ⟨b, 0, none⟩))) hkeys
    rw [List.map_map, List.map_map] at this
    exact this
  refine ⟨?_, hg, fun z hz => ?_, by rw [hkeys]; exact hn⟩
  · rw [hptr, List.length_set]
    exact owns_block ho (fun g e => Below.heap_setCell w _ _ g (fun e' => n (by rw [e, e'])))
  · obtain ⟨i, hz⟩ := List.mem_iff_getElem?.1 hz
    rw [List.getElem?_set] at hz
    split at hz
    · rename_i e
      cases hz
      exact ⟨t, heap_setCell c _, n⟩
    · rename_i e
      obtain ⟨t2, c2, n2⟩ := hc z (List.mem_of_getElem? hz)
      refine ⟨t2, (Below.heap_setCell w _ _ z.1 (fun e' => ?_)).trans c2, n2⟩
      have h1 : (ls.map (·.1))[i]? = some z.1 := by rw [List.getElem?_map, hz]; rfl
      have h2 : (ls.map (·.1))[k]? = some z.1 := by
        rw [List.getElem?_map, hk, e']
        rfl
      have hik : i < (ls.map (·.1)).length := by have := (List.getElem?_eq_some_iff.1 hz).1; simpa using this
      exact e (((List.getElem?_inj hik hn).1 (h1.trans h2.symm)).symm)
theorem PartsAt.putLow {s sb : Nat} {ar : List Int} {rR : List Row} {bs : List Int} {rU rN : List Row} {LO LW : Value → List Int} {births mN mO mW : Nat} {ls : List (Nat × Int)} {h : Hd} {τ : Own} {w : World}
    (P : PartsAt s sb ar rR bs rU rN LO LW births mN mO mW ls h τ w) {k b : Nat} {x : Int} (hk : ls[k]? = some (b, x)) (y : Int) :
    PartsAt s sb ar rR bs rU rN LO LW births mN mO mW (ls.set k (b, y)) h τ (w.setCell ⟨b, 0, none⟩ (.int .i64 y)) ∧ Turn s Moves τ τ w (w.setCell ⟨b, 0, none⟩ (.int .i64 y)) := by
  obtain ⟨g, cap, _, _, _, t, _⟩ := P.lows.at hk
  have T : Turn s (fun r => r = .lows) τ τ w (w.setCell ⟨b, 0, none⟩ (.int .i64 y)) := Turn.setCell (R := fun r => r = .lows) P.fresh (a := ⟨b, 0, none⟩) t rfl _
  exact ⟨⟨T.fresh, P.mine, P.head.turn P.mine T (fun h => by cases h), still_turn T (fun h => by cases h) P.ar, P.rows.turn T (fun h => by cases h) (fun h => by cases h), P.undo.turn T (fun h => by cases h) (fun h => by cases h), P.num.turn T (fun h => by cases h), P.of.turn T (fun h => by cases h) (fun k h => by cases h), P.wh.turn T (fun h => by cases h) (fun k h => by cases h), P.lows.set hk y⟩, T.mono fun r h => by subst h; intro h; cases h⟩

theorem Sound.cut {σ : St} (h : Sound σ) (n : Nat) : Sound (σ.cut n) := by
  refine ⟨fun r hr => h.fits r (List.mem_of_mem_take hr), h.once.sublist (List.take_sublist _ _), ?_, ?_, h.arity, h.preds, h.rise.sublist (List.take_sublist _ _), fun x hx => h.birth x (List.mem_of_mem_take hx)⟩
  · show (σ.bs.take n).length = (σ.rows.take n).length
    rw [List.length_take, List.length_take, h.born]
  · show (σ.rows.take n).length ≤ σ.births
    rw [List.length_take]
    have := h.many
    omega

theorem UndoPart.at {s sb : Nat} {τ : Own} {w : World} {v : Value} {rows : List Row} (h : UndoPart s sb τ w v rows) {i : Nat} {r : Row} (hr : rows[i]? = some r) :
    ∃ g cap u, v = .slice (some ⟨g, 0, none⟩) rows.length cap ∧ w.cell? ⟨g, i, none⟩ = some u ∧ UndoAt s sb τ w u i r := by
  obtain ⟨fs, ho, _, hc⟩ := h
  have hi := (List.getElem?_eq_some_iff.1 hr).1
  obtain ⟨u, hu, hU⟩ := hc i r hr
  rcases owns_form ho with ⟨e, h0, _⟩ | ⟨g, cap, e, _, _, _, _, _, hcell, _⟩
  · omega
  · exact ⟨g, cap, u, e, hcell _ _ hu, hU⟩
theorem UndoPart.form {s sb : Nat} {τ : Own} {w : World} {v : Value} {rows : List Row} (h : UndoPart s sb τ w v rows) : ∃ a cap, v = .slice a rows.length cap := by
  obtain ⟨fs, ho, _, _⟩ := h
  rcases owns_form ho with ⟨e, h0, _⟩ | ⟨g, cap, e, _⟩
  · exact ⟨none, 0, by rw [e, h0]⟩
  · exact ⟨_, cap, e⟩
theorem RowsPart.form {s : Nat} {τ : Own} {w : World} {v : Value} {rows : List Row} {bs : List Int} (h : RowsPart s τ w v rows bs) : ∃ a cap, v = .slice a rows.length cap := by
  obtain ⟨fs, ho, _, _⟩ := h
  rcases owns_form ho with ⟨e, h0, _⟩ | ⟨g, cap, e, _⟩
  · exact ⟨none, 0, by rw [e, h0]⟩
  · exact ⟨_, cap, e⟩
theorem LowsPart.form {s : Nat} {τ : Own} {w : World} {v : Value} {ls : List (Nat × Int)} (h : LowsPart s τ w v ls) : ∃ a cap, v = .slice a ls.length cap := by
  rcases owns_form h.1 with ⟨e, h0, _⟩ | ⟨g, cap, e, _⟩
  · exact ⟨none, 0, by rw [e, h0]⟩
  · exact ⟨_, cap, e⟩

set_option maxHeartbeats 2000000 in
theorem undo_bad {s sb : Nat} {σ : St} {τ : Own} {w : World} (hs : IsStore s sb σ τ w) (n : Int) (hbad : n < 0 ∨ (σ.rows.length : Int) < n) :
    Calls Try.prog 20 #[.pointer (some ⟨sb, 0, none⟩), .int .i64 n] w fun e w' => e = .returned (.int .i64 2) ∧ w' = w := by
  obtain ⟨h, hs⟩ := hs
  obtain ⟨aR, cR, hvR⟩ := hs.rows.form
  obtain ⟨c0, c1, c2, c3, c4, c5, c6, c7⟩ := hs.head.cells
  rw [hvR] at c1
  clear hs hvR c0 c2 c3 c4 c5 c6 c7
  go_enter Try.func20, Try.ntmps20
  rcases Int.lt_or_le n 0 with h0 | h0
  · have hd : decide (n < 0) = true := by simpa using h0
    go_wp2
    go_ret
    exact ⟨rfl, rfl⟩
  · have hd : decide (n < 0) = false := by simpa using h0
    have h1 : (σ.rows.length : Int) < n := by omega
    have hd1 : decide ((σ.rows.length : Int) < n) = true := by simpa using h1
    go_wp2
    go_ret
    exact ⟨rfl, rfl⟩

set_option maxHeartbeats 8000000 in
set_option maxRecDepth 8000 in
theorem undo_any {s sb : Nat} {σ : St} {τ : Own} {w : World} (hs : IsStore s sb σ τ w) (n : Nat) (hn : n ≤ σ.rows.length) (hB : σ.births ≤ 100000000000) :
    Calls Try.prog 20 #[.pointer (some ⟨sb, 0, none⟩), .int .i64 n] w fun e w' => e = .returned (.int .i64 0) ∧ ∃ τ', IsStore s sb (σ.cut n) τ' w' ∧ Turn s (fun _ => True) τ τ' w w' := by
  obtain ⟨h, hs⟩ := hs
  have hSo := Lib.hid hs.sound
  have hmany := hs.sound.many
  have P0 := hs.parts
  obtain ⟨aR, cR, hvR⟩ := hs.rows.form
  obtain ⟨aU, cU, hvU⟩ := hs.undo.form
  obtain ⟨c0, c1, c2, c3, c4, c5, c6, c7⟩ := hs.head.cells
  rw [hvR] at c1
  rw [hvU] at c2
  clear hs hvR hvU c0 c3 c4 c5 c6 c7
  have hn0 : ¬ (n : Int) < 0 := by omega
  have hn1 : ¬ (σ.rows.length : Int) < n := by omega
  have hd0 : decide ((n : Int) < 0) = false := by simp
  have hd1 : decide ((σ.rows.length : Int) < n) = false := by simp; omega
  go_enter Try.func20, Try.ntmps20
  go_wp2
  go_loopw [5] (fun i wr => ∃ (m : Nat) (h' : Hd), n ≤ m ∧ m ≤ σ.rows.length ∧ i = .int .i64 ((m : Int) - 1) ∧ Hid (PartsAt s sb σ.ar (σ.rows.take m) (σ.bs.take m) σ.rows (σ.rows.take m) (ofK (σ.rows.take m)) (whK (σ.rows.take m)) σ.births σ.births σ.births (σ.births * 8) σ.lows h' τ wr ∧ Turn s Moves τ τ w wr)) (fun i _ => (intOf i + 1).toNat)
  case atStart =>
    refine ⟨σ.rows.length, h, hn, Nat.le_refl _, rfl, Lib.hid ⟨?_, Turn.refl P0.fresh⟩⟩
    have hb := hSo.out.born
    rw [List.take_length, ← hb, List.take_length]
    exact P0
  case round =>
    obtain ⟨m, h', hm0, hm1, rfl, hPT⟩ := hrel
    have Pr := hPT.out.1
    have Tr := hPT.out.2
    have c2 := Pr.head.cells.2.2.1
    clear hPT
    by_cases hlt : n < m
    · obtain ⟨j, rfl⟩ : ∃ j, m = j + 1 := ⟨m - 1, by omega⟩
      have hj1 : ((j + 1 : Nat) : Int) - 1 = (j : Int) := by omega
      rw [hj1]
      obtain ⟨r, hr⟩ : ∃ r, σ.rows[j]? = some r := ⟨_, List.getElem?_eq_getElem (by omega)⟩
      obtain ⟨bt, hbt⟩ : ∃ bt, σ.bs[j]? = some bt := ⟨_, List.getElem?_eq_getElem (by have := hSo.out.born; omega)⟩
      obtain ⟨g, cap, u, hv, hcu, b1, b2, b3, b4, a, c, hu, ⟨t1, t2, t3, t4⟩, l1, l2, l30, l31, hI, l4⟩ := Pr.undo.at hr
      rw [hv] at c2
      subst hu
      have hlj : (σ.rows.take j).length = j := by simp; omega
      have hblj : (σ.bs.take j).length = j := by have := hSo.out.born; simp; omega
      have hfr := hSo.out.fits r (List.mem_of_getElem? hr)
      rw [take_snoc' hr, take_snoc' hbt] at Pr
      obtain ⟨p, xs⟩ := r
      obtain ⟨k0, k1, k2, k3, k4, k5, k6, k7, k8, hk⟩ := list9 (keyI_length (r := (p, xs)) hfr.2.2.2.1)
      have hkv : keyV (p, xs) = .agg #[.int .i64 k0, .int .i64 k1, .int .i64 k2, .int .i64 k3, .int .i64 k4, .int .i64 k5, .int .i64 k6, .int .i64 k7, .int .i64 k8] := by unfold keyV; rw [hk]; rfl
      rw [hk] at l2
      have hLoc : Loc sb b1 b2 b3 b4 (σ.rows.take j).length p a c xs.length k0 k1 k2 k3 k4 k5 k6 k7 k8 wr := by
        rw [hlj]
        exact ⟨l1, l30, l31, l4, l2 0 _ rfl, l2 1 _ rfl, l2 2 _ rfl, l2 3 _ rfl, l2 4 _ rfl, l2 5 _ rfl, l2 6 _ rfl, l2 7 _ rfl, l2 8 _ rfl⟩
      have hno : (p, xs) ∉ σ.rows.take j := by
        have h1 := hSo.out.once.sublist (List.take_sublist (j + 1) σ.rows)
        rw [take_snoc' hr, List.nodup_append] at h1
        exact fun h => h1.2.2 _ h _ (by simp) rfl
      have hC := Lib.hid (undo1_any p xs Pr (by rw [hlj, hblj]) (fun r' h' => hSo.out.fits r' (by rw [← take_snoc' hr] at h'; exact List.mem_of_mem_take h')) hSo.out.preds hno (by omega) hkv t1 t2 t3 t4 hLoc hI)
      have HT := Lib.hid Tr
      have hj2 : (j : Int) < σ.rows.length := by omega
      have hd2 : decide ((n : Int) ≤ (j : Int)) = true := by simp; omega
      clear Pr Tr hv hr hbt t1 t2 t3 t4 l1 l2 l30 l31 hI l4 hfr hk hkv hLoc hno hj1
      go_wp2_with (go_at_call 67; with_reducible refine hC.out.mono ?_; rintro e w2 ⟨rfl, h2, P2, T2⟩; have HP2 := Lib.hid (And.intro P2 (HT.out.trans T2)); clear P2 T2 hC HT)
      go_roundw
      case rel => exact ⟨j, h2, by omega, by omega, rfl, HP2⟩
      case measure => simp [intOf] <;> omega
    · have hmn : m = n := by omega
      subst hmn
      obtain ⟨v, hv, hput⟩ := Pr.cutUndo (n := m) hm1
      obtain ⟨P9, T9⟩ := hput wr (Below.refl _ _)
      have c7 := Pr.head.cells.2.2.2.2.2.2.2
      have fz := Pr.head.frozen 2
      obtain ⟨aL, cL, hL⟩ := Pr.lows.form
      have HL := Lib.hid hL
      rw [hL] at c7
      have HP := Lib.hid (And.intro P9 (Tr.trans T9))
      have hd2 : decide ((m : Int) ≤ (m : Int) - 1) = false := by simp; omega
      have hd3 : ¬ ((m : Int) ≤ (m : Int) - 1) := by omega
      have hll : σ.lows.length ≤ maxLen := by
        rcases owns_form Pr.lows.1 with ⟨_, h0, _⟩ | ⟨g, cap, _, _, _, h1, h2, _⟩ <;> omega
      unfold maxLen at hll
      clear P9 T9 hput
      have hgo : ∀ wX : World, Hid (PartsAt s sb σ.ar (σ.rows.take m) (σ.bs.take m) (σ.rows.take m) (σ.rows.take m) (ofK (σ.rows.take m)) (whK (σ.rows.take m)) σ.births σ.births σ.births (σ.births * 8) (lowMix m σ.lows.length σ.lows) { h' with vU := v } τ wX ∧ Turn s Moves τ τ w wX) →
          ∃ τ', IsStore s sb (σ.cut m) τ' wX ∧ Turn s (fun _ => True) τ τ' w wX := fun wX H =>
        ⟨τ, ⟨_, hSo.out.cut m, H.out.1.fresh, H.out.1.mine, H.out.1.head, H.out.1.ar, H.out.1.rows, H.out.1.undo, H.out.1.num, H.out.1.of, H.out.1.wh, H.out.1.lows⟩, H.out.2.mono (fun _ _ => trivial)⟩
      have HGo := Lib.hid hgo
      have hcap : ∃ a cap, h'.vU = .slice a σ.rows.length cap ∧ v = .slice a m cap ∧ (m : Int) ≤ (cap : Int) := by
        rcases hv with ⟨h1, h2, rfl⟩ | ⟨g, cap, h1, h2, rfl⟩
        · have hm : m = 0 := by omega
          subst hm
          exact ⟨none, 0, by rw [h1, h2], rfl, by omega⟩
        · exact ⟨_, cap, h1, rfl, by omega⟩
      obtain ⟨aV, cV, hV, rfl, hcV⟩ := hcap
      rw [hV] at c2
      have hi0 : (0 : Int) ≤ (m : Int) := by omega
      clear Pr Tr hL hV hgo hv
      obtain ⟨n9, hn9⟩ : ∃ n9, n9 = σ.lows.length := ⟨_, rfl⟩
      rw [← hn9] at c7 hll
      have HN9 := Lib.hid hn9
      clear hn9
      go_wp2
      go_loopw [54] (fun i wq => ∃ k : Nat, k ≤ n9 ∧ i = .int .i64 k ∧ Hid (PartsAt s sb σ.ar (σ.rows.take m) (σ.bs.take m) (σ.rows.take m) (σ.rows.take m) (ofK (σ.rows.take m)) (whK (σ.rows.take m)) σ.births σ.births σ.births (σ.births * 8) (lowMix m k σ.lows) { h' with vU := .slice aV m cV } τ wq ∧ Turn s Moves τ τ w wq)) (fun i _ => n9 - (intOf i).toNat)
      case atStart => exact ⟨0, Nat.zero_le _, rfl, by rw [lowMix_zero]; exact HP⟩
      case round =>
        obtain ⟨k, hk, rfl, HP2⟩ := hrel
        by_cases hlt : k < n9
        · obtain ⟨⟨b, x⟩, hx⟩ : ∃ y, σ.lows[k]? = some y := ⟨_, List.getElem?_eq_getElem (by rw [← HN9.out]; exact hlt)⟩
          obtain ⟨g, cap, hv, cg, cb, _, _⟩ := HP2.out.1.lows.at (lowMix_at m σ.lows hx)
          have hv2 : Value.slice aL σ.lows.length cL = .slice (some ⟨g, 0, none⟩) (lowMix m k σ.lows).length cap := HL.out.symm.trans hv
          simp only [Value.slice.injEq] at hv2
          obtain ⟨rfl, _, rfl⟩ := hv2
          have hcb : wr.cell? ⟨b, 0, none⟩ = some (.int .i64 x) := by simp [World.cell?, cb]
          have hfb : wr.frozen? ⟨b, 0, none⟩ = false := by simp [World.frozen?, cb]
          have HX := Lib.hid hx
          clear hv cb hx
          go_wp2
          go_roundw
          case rel =>
            have e : (if (m : Int) < x then (m : Int) else x) = min x (m : Int) := by rw [Int.min_def]; split <;> split <;> omega
            obtain ⟨P3, T3⟩ := HP2.out.1.putLow (lowMix_at m σ.lows HX.out) (min x (m : Int))
            rw [← lowMix_succ m σ.lows HX.out] at P3
            exact ⟨k + 1, by omega, by go_num, by rw [e]; exact Lib.hid ⟨P3, HP2.out.2.trans T3⟩⟩
          case measure => simp [intOf]; omega
        · have hke : k = n9 := by omega
          subst hke
          go_wp2
          go_ret
          exact ⟨rfl, HGo.out _ (by rw [← HN9.out]; exact HP2)⟩
end Go.Proofs.Ytgodidoibcomcaa
