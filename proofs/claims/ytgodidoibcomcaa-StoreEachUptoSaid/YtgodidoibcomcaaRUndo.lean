/-
  Undo, Since and Stays of the document's store: its lists are made anew, the first k rows in them.
-/
import Derived.Test.YtgodidoibcomcaaRNum
namespace Go.Proofs.Ytgodidoibcomcaa
open Go.RowKit

theorem RowCells.take {Z : Nat → Prop} {w : World} {cs : List Value} {l : List Row} (h : RowCells Z w cs l) (k : Nat) : RowCells Z w (cs.take (k * 2)) (l.take k) := by
  refine ⟨by rw [List.length_take, List.length_take, h.1]; omega, fun i hi => ?_⟩
  have hi' : i < k ∧ i < l.length := by rw [List.length_take] at hi; omega
  obtain ⟨h1, ai, ci, h2, h3⟩ := h.2 i hi'.2
  have e : (l.take k)[i] = l[i]'hi'.2 := List.getElem_take
  rw [e]
  exact ⟨by rw [List.getElem?_take, if_pos (by omega)]; exact h1, ai, ci, by rw [List.getElem?_take, if_pos (by omega)]; exact h2, h3⟩
theorem take_two {cs : List Value} {i : Nat} {u v : Value} (h1 : cs[i * 2]? = some u) (h2 : cs[i * 2 + 1]? = some v) : cs.take ((i + 1) * 2) = cs.take (i * 2) ++ [u, v] := by
  rw [show (i + 1) * 2 = i * 2 + 1 + 1 by omega, take_snoc' h2, take_snoc' h1, List.append_assoc]
  rfl

theorem owns_low {w : World} {B B' : Nat} {v : Value} {e : TypeId} {size n : Nat} {xs : List Value} (h : w.ownsRow B e size v n xs) (hb : B' ≤ B) : w.ownsRow B' e size v n xs := by
  rcases h with ⟨h1, h2 | ⟨g, cap, cur, h3, h4, h5⟩⟩
  · exact ⟨h1, .inl h2⟩
  · exact ⟨h1, .inr ⟨g, cap, cur, h3, by omega, h5⟩⟩
theorem owns_shape {w : World} {B : Nat} {v : Value} {e : TypeId} {size n : Nat} {xs : List Value} (h : w.ownsRow B e size v n xs) : ∃ a c, v = .slice a n c := by
  rcases owns_form h with ⟨e, h0, _⟩ | ⟨g, cap, e, _⟩
  · exact ⟨none, 0, by rw [e, h0]⟩
  · exact ⟨_, cap, e⟩
/-- the lists that were made become the store's -/
def newLists (s : Nat) (v vb : Value) (τ : Own) : Own := fun j => if v.ownBlock = some j then some (s, .rows) else if vb.ownBlock = some j then some (s, .num) else τ j

section
variable {s rb : Nat} {ρ : Rf} {τ : Own} {w : World} {aA : Option Addr} {cA : Nat} {vL vB : Value}

theorem RefAt.recut (hs : RefAt s rb ρ τ w aA cA vL vB) {w1 : World} (hb : Below w.heap.size w w1) {rows : List Row} {born : List Int} {v vb : Value} {cs : List Value}
    (ho : w1.ownsRow w.heap.size 28 2 v rows.length cs) (hc : RowCells (Still s τ) w1 cs rows) (ob : w1.ownsRow w.heap.size 3 1 vb born.length (born.map (Value.int .i64)))
    (hne : ∀ g, v.ownBlock = some g → vb.ownBlock ≠ some g) (hl : born.length = rows.length) (hf : ∀ r ∈ rows, FitsRow ρ.ar r) (hm : rows.length ≤ 100000000000) :
    ∃ τ', IsRef s rb { ρ with rows := rows, born := born } τ' ((w1.setCell ⟨rb, 1, none⟩ v).setCell ⟨rb, 2, none⟩ vb) ∧ Turn s (fun r => r = .head) τ τ' w ((w1.setCell ⟨rb, 1, none⟩ v).setCell ⟨rb, 2, none⟩ vb) := by
  have hs1 := hs.below hb
  have hlt := (Array.getElem?_eq_some_iff.1 hs.head).1
  have hh := heap_setCell (heap_setCell hs1.head (j := 1) v) (j := 2) vb
  have hsz : ((w1.setCell ⟨rb, 1, none⟩ v).setCell ⟨rb, 2, none⟩ vb).heap.size = w1.heap.size := by simp
  have hbs := hb.size
  have tv : ∀ g, v.ownBlock = some g → w.heap.size ≤ g ∧ g < w1.heap.size := fun g e => ho.lt g e
  have tb : ∀ g, vb.ownBlock = some g → w.heap.size ≤ g ∧ g < w1.heap.size := fun g e => ob.lt g e
  have old : ∀ j, j < w.heap.size → newLists s v vb τ j = τ j := fun j hj => by
    unfold newLists
    rw [if_neg (fun e => by have := (tv j e).1; omega), if_neg (fun e => by have := (tb j e).1; omega)]
  have hk : ∀ j, j ≠ rb → ((w1.setCell ⟨rb, 1, none⟩ v).setCell ⟨rb, 2, none⟩ vb).heap[j]? = w1.heap[j]? := fun j hj => by
    rw [Below.heap_setCell _ _ _ _ (by exact hj), Below.heap_setCell _ _ _ _ (by exact hj)]
  have hzs : ∀ j, Still s τ j → j < w.heap.size ∧ j ≠ rb := fun j hj => by
    have hj : τ j = some (s, .still) := hj
    refine ⟨Nat.lt_of_not_le fun h => (by rw [hs.fresh j h] at hj; cases hj), fun e => ?_⟩
    rw [e, hs.mine] at hj
    cases hj
  have T : Turn s (fun r => r = .head) τ (newLists s v vb τ) w ((w1.setCell ⟨rb, 1, none⟩ v).setCell ⟨rb, 2, none⟩ vb) := by
    refine ⟨hb.os, hb.tape, hb.output, by rw [hsz]; exact hbs, fun j hj hn => ?_, old, fun j hj s' r e => ?_, fun j hj => ?_⟩
    · rw [hk j (fun e => hn .head (by rw [e]; exact hs.mine) rfl)]
      exact hb.block j hj
    · unfold newLists at e
      split at e
      · cases e; rfl
      · split at e
        · cases e; rfl
        · rw [hs.fresh j hj] at e; cases e
    · rw [hsz] at hj
      unfold newLists
      rw [if_neg (fun e => by have := (tv j e).2; omega), if_neg (fun e => by have := (tb j e).2; omega)]
      exact hs.fresh j (by omega)
  refine ⟨newLists s v vb τ, ⟨aA, cA, v, vb, ⟨T.fresh, (old rb hlt).trans hs.mine, by rw [hh]; rfl, ?_, ⟨cs, ?_, ?_, ?_⟩, ⟨?_, ?_⟩, hl, hf, hs.arity, hs.preds, hm⟩⟩, T⟩
  · exact hs1.ar.keep (fun j _ hz => hk j (hzs j hz).2) (fun j _ hz => (old j (hzs j hz).1).trans hz)
  · exact owns_block (owns_low ho (Nat.zero_le _)) (fun g e => hk g (by have := (tv g e).1; omega))
  · intro g e
    unfold newLists
    rw [if_pos e]
  · exact hc.keep (fun j _ hz => hk j (hzs j hz).2) (fun j _ hz => (old j (hzs j hz).1).trans hz)
  · exact owns_block (owns_low ob (Nat.zero_le _)) (fun g e => hk g (by have := (tb g e).1; omega))
  · intro g e
    unfold newLists
    rw [if_neg (fun e' => hne g e' e), if_pos e]

set_option maxHeartbeats 4000000 in
theorem rcut_any (hs : RefAt s rb ρ τ w aA cA vL vB) (k : Nat) (hk : k ≤ ρ.rows.length) :
    Calls Try.prog 72 #[.pointer (some ⟨rb, 0, none⟩), .int .i64 k] w fun e w' => e = .returned (.tuple #[]) ∧ ∃ τ', IsRef s rb { ρ with rows := ρ.rows.take k, born := ρ.born.take k } τ' w' ∧ Turn s (fun r => r = .head) τ τ' w w' := by
  obtain ⟨c0, c1, c2, c3, c4⟩ := hs.cells
  obtain ⟨cs, hoL, hgL, hcL⟩ := hs.list
  have hoB := hs.born.1
  have hlen := hs.len
  have hmany := hs.many
  have hlr := (Array.getElem?_eq_some_iff.1 hs.head).1
  have HS := Lib.hid hs
  have HCL := Lib.hid hcL
  clear hs hcL c0 c3
  go_enter Try.func72, Try.ntmps72
  go_wp2
  go_loopw [4, 5, 6] (fun v vb i wr => ∃ j : Nat, j ≤ k ∧ i = .int .i64 j ∧ wr.ownsRow w.heap.size 28 2 v j (cs.take (j * 2)) ∧ wr.ownsRow w.heap.size 3 1 vb j ((ρ.born.take j).map (Value.int .i64)) ∧ Hid (∀ g, v.ownBlock = some g → vb.ownBlock ≠ some g) ∧ Below w.heap.size w wr) (fun _ _ i _ => k - (intOf i).toNat)
  case atStart => exact ⟨0, Nat.zero_le _, rfl, by simpa using World.ownsRow_nil _ _ _ _, World.ownsRow_nil _ _ _ _, Lib.hid (fun g e => by cases e), Below.refl _ _⟩
  case round =>
    obtain ⟨j, hj, rfl, hv, hvb, HNE, hbel⟩ := hrel
    by_cases hlt : j < k
    · have hjr : j < ρ.rows.length := by omega
      obtain ⟨p, hp⟩ : ∃ p, ρ.rows[j].1 = p := ⟨_, rfl⟩
      obtain ⟨n8, hn8⟩ : ∃ n, ρ.rows[j].2.length = n := ⟨_, rfl⟩
      obtain ⟨h1, ai, ci, h2, h3⟩ := HCL.out.2 j hjr
      rw [hp] at h1
      rw [hn8] at h2
      have hT2 := Lib.hid (take_two h1 h2)
      rcases owns_form hoL with ⟨e, h0, _⟩ | ⟨g, cap, rfl, _, lg, _, _, _, hcell, _⟩
      · omega
      rcases owns_form hoB with ⟨e, h0, _⟩ | ⟨gb, capb, rfl, _, lgb, _, _, _, hcellb, _⟩
      · omega
      have d1 := on_cell hbel c1
      have d2 := on_cell hbel c2
      have e0 := on_cell hbel (hcell _ _ h1)
      have e1 := on_cell hbel (hcell _ _ h2)
      obtain ⟨x, hx⟩ : ∃ x, ρ.born[j]? = some x := ⟨_, List.getElem?_eq_getElem (by omega)⟩
      have e2 := on_cell hbel (hcellb j (.int .i64 x) (by rw [List.getElem?_map, hx]; rfl))
      have HX := Lib.hid hx
      have sz := hbel.size
      rw [hlen] at d2
      clear hcell hcellb h1 h2 h3 hx hp hn8
      obtain ⟨wA, hwA⟩ : ∃ W, W = wr.alloc (.cells #[.int .i64 p, .slice ai n8 ci] 28) := ⟨_, rfl⟩
      have bA : Below wr.heap.size wr wA := by rw [hwA]; exact (Below.refl _ _).alloc (Nat.le_refl _) _
      have szA : wA.heap.size = wr.heap.size + 1 := by rw [hwA, asz]
      have hvA := owns_below hv bA (Nat.le_refl _)
      have srcA : Source wA (some ⟨wr.heap.size, 0, none⟩) 1 1 [.int .i64 p, .slice ai n8 ci] := by rw [hwA]; exact source_new wr [.int .i64 p, .slice ai n8 ci] 28
      have HwA := Lib.hid hwA
      clear hwA
      go_upto_region 6 with (first | (at_builtin; rw [← HwA.out]; refine wpList_append_any elemRow _ rfl _ _ rfl w.heap.size _ j (cs.take (j * 2)) rfl hvA (some ⟨wr.heap.size, 0, none⟩) 1 1 [.int .i64 p, .slice ai n8 ci] rfl srcA rfl (by simp [Value.oneCell']) (by unfold maxLen; omega) (by omega) (by omega) ?_; intro v' w2 hown2 hgrow2 hblk2))
      have hb2 : Below w.heap.size w w2 := (hbel.trans (bA.mono sz)).trans (grown_below hgrow2 (fun i hi => (hvA.lt i hi).1) (by omega))
      have g1 := hgrow2.cell (on_cell bA d2) (fun e => by have := (hvA.lt rb e.symm).1; omega)
      have g2 := hgrow2.cell (on_cell bA e2) (fun e => by have := (hvA.lt gb e.symm).1; omega)
      have hvb2 : w2.ownsRow w.heap.size 3 1 u5 j ((ρ.born.take j).map (Value.int .i64)) := owns_block (owns_below hvb bA (Nat.le_refl _)) (fun i hi => hgrow2.block i (by have := (hvb.lt i hi).2; omega) (fun e => HNE.out i e.symm hi))
      have sz2 := hgrow2.size
      obtain ⟨wB, hwB⟩ : ∃ W, W = w2.alloc (.cells #[.int .i64 x] 3) := ⟨_, rfl⟩
      have bB : Below w2.heap.size w2 wB := by rw [hwB]; exact (Below.refl _ _).alloc (Nat.le_refl _) _
      have szB : wB.heap.size = w2.heap.size + 1 := by rw [hwB, asz]
      have hvB := owns_below hvb2 bB (Nat.le_refl _)
      have hv2 := owns_below hown2 bB (Nat.le_refl _)
      have srcB : Source wB (some ⟨w2.heap.size, 0, none⟩) 1 1 [.int .i64 x] := by rw [hwB]; exact source_new w2 [.int .i64 x] 3
      have HwB := Lib.hid hwB
      clear hwB
      go_wp2_with (first | (at_builtin; rw [← HwB.out]; refine wpList_append_any elemInt _ rfl _ _ rfl w.heap.size _ j ((ρ.born.take j).map (Value.int .i64)) rfl hvB (some ⟨w2.heap.size, 0, none⟩) 1 1 [.int .i64 x] rfl srcB rfl (by simp [Value.oneCell']) (by unfold maxLen; omega) (by omega) (by omega) ?_; intro vb' w3 hown3 hgrow3 hblk3))
      have hb3 : Below w.heap.size w w3 := (hb2.trans (bB.mono hb2.size)).trans (grown_below hgrow3 (fun i hi => (hvB.lt i hi).1) (by omega))
      have hne3 : ∀ g, v'.ownBlock = some g → u5.ownBlock ≠ some g := fun g e1 e2 => by
        rcases hblk2 with h | h
        · exact HNE.out g (h ▸ e1) e2
        · rw [h] at e1; cases e1; have := (hvb.lt _ e2).2; omega
      have hv3 := owns_block hv2 (fun i hi => hgrow3.block i (hv2.lt i hi).2 (fun e => hne3 i hi e.symm))
      have hNE3 : Hid (∀ g, v'.ownBlock = some g → vb'.ownBlock ≠ some g) := Lib.hid (fun g e1 e2 => by
        rcases hblk3 with h | h
        · exact hne3 g e1 (h ▸ e2)
        · rw [h] at e2; cases e2; have := (hown2.lt _ e1).2; omega)
      go_roundw
      case rel => exact ⟨j + 1, by omega, by go_num, by rw [hT2.out]; exact hv3, by rw [take_snoc' HX.out, List.map_append]; exact hown3, hNE3, hb3⟩
      case measure => simp [intOf]; omega
    · have hje : j = k := by omega
      subst hje
      have f1 : wr.cell? ⟨rb, 1, none⟩ = some vL := on_cell hbel c1
      have f2 : wr.cell? ⟨rb, 2, none⟩ = some vB := on_cell hbel c2
      have z1 : wr.frozen? ⟨rb, 1, none⟩ = false := (hbel.frozen (p := ⟨rb, 1, none⟩) hlr).trans (c4 1)
      have z2 : wr.frozen? ⟨rb, 2, none⟩ = false := (hbel.frozen (p := ⟨rb, 2, none⟩) hlr).trans (c4 2)
      have hl1 : (ρ.born.take j).length = j := by simp; omega
      have hl2 : (ρ.rows.take j).length = j := by simp; omega
      obtain ⟨a4, c4', rfl⟩ := owns_shape hv
      obtain ⟨a5, c5', rfl⟩ := owns_shape hvb
      have hfin := Lib.hid (HS.out.recut hbel (rows := ρ.rows.take j) (born := ρ.born.take j) (by rw [hl2]; exact hv) ((HCL.out.take j).keep (fun i hi _ => hbel.block i hi) (fun _ _ h => h)) (by rw [hl1]; exact hvb) HNE.out (by rw [hl1, hl2]) (fun r hr => HS.out.fits r (List.mem_of_mem_take hr)) (by omega))
      go_wp2
      first
        | refine bodyPost_end (v := .tuple #[]) (results_none Try.results72 _ _ _) rfl ?_
        | refine bodyPost_ret (v := .tuple #[]) (results_none Try.results72 _ _ _) rfl ?_
      exact ⟨rfl, hfin.out⟩

set_option maxHeartbeats 2000000 in
theorem rundo_any (hs : RefAt s rb ρ τ w aA cA vL vB) (k : Nat) (hk : k ≤ ρ.rows.length) :
    Calls Try.prog 60 #[.pointer (some ⟨rb, 0, none⟩), .int .i64 k] w fun e w' => e = .returned (.int .i64 0) ∧ ∃ τ', IsRef s rb { ρ with rows := ρ.rows.take k, born := ρ.born.take k } τ' w' ∧ Turn s (fun r => r = .head) τ τ' w w' := by
  have cC := Lib.hid (rcut_any hs k hk)
  obtain ⟨a, c, rfl, _⟩ := hs.listZ
  obtain ⟨c0, c1, c2, c3, c4⟩ := hs.cells
  clear hs c0 c2 c3 c4
  go_enter Try.func60, Try.ntmps60
  have hd : decide ((k : Int) < 0) = false := by simp
  have hd1 : decide ((ρ.rows.length : Int) < (k : Int)) = false := by simpa using hk
  go_wp2_with (go_at_call 72; refine cC.out.mono ?_; rintro e w1 ⟨rfl, hE⟩)
  go_ret
  exact ⟨rfl, hE⟩

set_option maxHeartbeats 2000000 in
theorem rundo_bad (hs : RefAt s rb ρ τ w aA cA vL vB) (n : Int) (hbad : n < 0 ∨ (ρ.rows.length : Int) < n) :
    Calls Try.prog 60 #[.pointer (some ⟨rb, 0, none⟩), .int .i64 n] w fun e w' => e = .returned (.int .i64 2) ∧ w' = w := by
  obtain ⟨a, c, rfl, _⟩ := hs.listZ
  obtain ⟨c0, c1, c2, c3, c4⟩ := hs.cells
  clear hs c0 c2 c3 c4
  go_enter Try.func60, Try.ntmps60
  rcases Int.lt_or_le n 0 with h0 | h0
  · have hd : decide (n < 0) = true := by simpa using h0
    go_wp2
    go_ret
    exact ⟨rfl, rfl⟩
  · have hd : decide (n < 0) = false := by simpa using h0
    have h1 : (ρ.rows.length : Int) < n := by omega
    have hd1 : decide ((ρ.rows.length : Int) < n) = true := by simpa using h1
    go_wp2
    go_ret
    exact ⟨rfl, rfl⟩

set_option maxHeartbeats 4000000 in
theorem rsince_any (hs : RefAt s rb ρ τ w aA cA vL vB) (x : Int) (n : Nat) (hn : n ≤ ρ.rows.length) (h1 : ∀ i y, n ≤ i → ρ.born[i]? = some y → x < y) (h2 : ∀ y, 0 < n → ρ.born[n - 1]? = some y → y ≤ x) :
    Calls Try.prog 63 #[.pointer (some ⟨rb, 0, none⟩), .int .i64 x] w fun e w' => e = .returned (.tuple #[]) ∧ ∃ τ', IsRef s rb { ρ with rows := ρ.rows.take n, born := ρ.born.take n } τ' w' ∧ Turn s (fun r => r = .head) τ τ' w w' := by
  have cC := Lib.hid (rcut_any hs n hn)
  have H1 := Lib.hid h1
  have H2 := Lib.hid h2
  obtain ⟨a, c, rfl, _⟩ := hs.listZ
  obtain ⟨ab, cb, rfl, hB⟩ := hs.bornZ
  obtain ⟨c0, c1, c2, c3, c4⟩ := hs.cells
  have hmany := hs.many
  have hlen := hs.len
  have HB := Lib.hid hB
  clear hs c0 c3 c4 h1 h2 hB
  go_enter Try.func63, Try.ntmps63
  go_wp2
  go_loopw [4] (fun i wr => ∃ m : Nat, n ≤ m ∧ m ≤ ρ.rows.length ∧ i = .int .i64 m ∧ wr = w) (fun i _ => (intOf i).toNat)
  case atStart => exact ⟨ρ.rows.length, hn, Nat.le_refl _, rfl, rfl⟩
  case round =>
    obtain ⟨m, hm1, hm2, rfl, rfl⟩ := hrel
    by_cases hz : m = 0
    · subst hz
      have hn0 : n = 0 := by omega
      subst hn0
      go_wp2_with (go_at_call 72; refine cC.out.mono ?_; rintro e w1 ⟨rfl, hE⟩)
      first
        | refine bodyPost_end (v := .tuple #[]) (results_none Try.results63 _ _ _) rfl ?_
        | refine bodyPost_ret (v := .tuple #[]) (results_none Try.results63 _ _ _) rfl ?_
      exact ⟨rfl, hE⟩
    · obtain ⟨q, rfl⟩ : ∃ q, m = q + 1 := ⟨m - 1, by omega⟩
      have hq : q < ρ.born.length := by omega
      have hd : decide ((0 : Int) < ((q + 1 : Nat) : Int)) = true := by simp
      rcases HB.out.1 with hno | ⟨b, o, rfl, _, hc⟩
      · rw [hno] at hq; simp at hq
      · obtain ⟨y, d0, HY⟩ := ints_at hc hq
        clear hc
        have eq1 : ((q + 1 : Nat) : Int) - 1 = (q : Int) := by omega
        by_cases hxy : x < y
        · have hd2 : decide (x < y) = true := by simpa using hxy
          have hnq : n ≤ q := by
            rcases Nat.lt_or_ge q n with h | h
            · have hnq : n = q + 1 := by omega
              have := H2.out y (by omega) (by rw [hnq]; exact HY.out)
              omega
            · exact h
          go_wp2
          go_roundw
          case rel => exact ⟨q, hnq, by omega, by go_num, trivial⟩
          case measure => simp [intOf]
        · have hd2 : decide (x < y) = false := by simpa using hxy
          have hnq : n = q + 1 := by
            rcases Nat.lt_or_ge q n with h | h
            · omega
            · have := H1.out q y h HY.out
              omega
          subst hnq
          go_wp2_with (go_at_call 72; refine cC.out.mono ?_; rintro e w1 ⟨rfl, hE⟩)
          first
            | refine bodyPost_end (v := .tuple #[]) (results_none Try.results63 _ _ _) rfl ?_
            | refine bodyPost_ret (v := .tuple #[]) (results_none Try.results63 _ _ _) rfl ?_
          exact ⟨rfl, hE⟩

set_option maxHeartbeats 2000000 in
theorem rstays_any (hs : RefAt s rb ρ τ w aA cA vL vB) (i : Nat) (x : Int) :
    Calls Try.prog 65 #[.pointer (some ⟨rb, 0, none⟩), .int .i64 i, .int .i64 x] w fun e w' => e = .returned (.bool (decide (ρ.born[i]? = some x))) ∧ w' = w := by
  obtain ⟨ab, cb, rfl, hB⟩ := hs.bornZ
  obtain ⟨c0, c1, c2, c3, c4⟩ := hs.cells
  have hlen := hs.len
  have HB := Lib.hid hB
  clear hs c0 c1 c3 c4 hB
  go_enter Try.func65, Try.ntmps65
  by_cases hi : i < ρ.rows.length
  · have hd : decide ((i : Int) < (ρ.rows.length : Int)) = true := by simpa using hi
    have hib : i < ρ.born.length := by omega
    rcases HB.out.1 with hno | ⟨b, o, rfl, _, hc⟩
    · rw [hno] at hib; simp at hib
    · obtain ⟨y, d0, HY⟩ := ints_at hc hib
      clear hc
      have he : decide (ρ.born[i]? = some x) = (y == x) := by
        rw [HY.out]
        by_cases h : y = x
        · subst h; simp
        · have : (y == x) = false := by simpa using h
          rw [this]; simpa using h
      rw [he]
      go_wp2
      go_ret
      exact ⟨rfl, rfl⟩
  · have hd : decide ((i : Int) < (ρ.rows.length : Int)) = false := by simpa using hi
    have he : decide (ρ.born[i]? = some x) = false := by
      rw [List.getElem?_eq_none (by omega)]; simp
    rw [he]
    go_wp2
    go_ret
    exact ⟨rfl, rfl⟩
end
end Go.Proofs.Ytgodidoibcomcaa
