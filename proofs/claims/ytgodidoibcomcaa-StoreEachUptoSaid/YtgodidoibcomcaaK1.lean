/-
  The book of StoreScript, StoreTries, StoreEach: several of its texts in one.
-/
import Derived.Test.YtgodidoibcomcaaBKeep
import Derived.OwnWalk
namespace Go.Proofs.Ytgodidoibcomcaa.Bk
open Go.RowKit Go.Proofs.Ytgodidoibcomcaa

theorem flat2_at {l : List (Value × Value)} {k : Nat} {x : Value × Value} (h : l[k]? = some x) : (l.flatMap fun x => [x.1, x.2])[k * 2]? = some x.1 ∧ (l.flatMap fun x => [x.1, x.2])[k * 2 + 1]? = some x.2 := by
  induction l generalizing k with
  | nil => simp at h
  | cons y l ih =>
    have e : ((y :: l).flatMap fun x => [x.1, x.2]) = y.1 :: y.2 :: (l.flatMap fun x => [x.1, x.2]) := rfl
    cases k with
    | zero =>
      simp only [List.getElem?_cons_zero, Option.some.injEq] at h
      subst h
      exact ⟨rfl, rfl⟩
    | succ k =>
      have := ih (k := k) (by simpa using h)
      rw [e, show (k + 1) * 2 = k * 2 + 1 + 1 from by omega]
      exact ⟨by simpa using this.1, by simpa using this.2⟩

section
variable {w0 : World} {τ : Own} {S : List Ent} {β : Book} {C : List Box} {w : World}
/-- the cells of a row in a box -/
theorem BoxRow.cells {L : List RSl} {e : TypeId} {size n : Nat} {v : Value} {xs : List Value} (h : BoxRow C e size v n xs) (E : Env w0 τ w S L C) {k : Nat} (hk : k < n) : ∃ g cap, v = .slice (some ⟨g, 0, none⟩) n cap ∧ ∀ j u, xs[j]? = some u → w.cell? ⟨g, j, none⟩ = some u := by
  rcases owns_form (h.owns E) with ⟨_, h0, _⟩ | ⟨g, cap, e, _, _, _, _, _, hc, _⟩
  · omega
  · exact ⟨g, cap, e, hc⟩

set_option maxHeartbeats 4000000 in
theorem kept_any (E : Env w0 τ w S [] C) (B : BookOk β C) (hll : β.lists.length ≤ 10000000000000) (hbig : ∀ x ∈ β.lists, ∀ a n c, x.1 = .slice a n c → n ≤ 9223372036854775807) :
    Calls Try.prog 27 #[.pointer (some ⟨β.bk, 0, none⟩)] w fun e w' => e = .returned (.bool true) ∧ Below w.heap.size w w' := by
  obtain ⟨c2, -⟩ := E.cellAt B.head (j := 2) rfl
  rw [show (#[β.vS, β.vR, β.vL, Value.int .i64 β.next] : Array Value)[2] = β.vL from rfl] at c2
  obtain ⟨aL, cL, hvL⟩ := B.ls.shape
  have HE := Lib.hid E
  have HB := Lib.hid B
  have HG := Lib.hid hbig
  obtain ⟨bk, hbk⟩ : ∃ b, β.bk = b := ⟨_, rfl⟩
  obtain ⟨nl, hnl⟩ : ∃ k, β.lists.length = k := ⟨_, rfl⟩
  rw [hbk, hvL, hnl] at c2
  rw [hnl] at hll
  rw [hbk]
  have HvL := Lib.hid hvL
  have Hnl := Lib.hid hnl
  clear E B hbk hvL hnl hbig
  go_enter Try.func27, Try.ntmps27
  go_wp2
  go_loopw [3] (fun i wr => ∃ k : Nat, k ≤ nl ∧ i = .int .i64 k ∧ Below w.heap.size w wr) (fun i _ => nl - (intOf i).toNat)
  case atStart => exact ⟨0, Nat.zero_le _, rfl, Below.refl _ _⟩
  case round =>
    obtain ⟨k, hk, rfl, hbel⟩ := hrel
    have d2 := on_cell hbel c2
    by_cases hlt : k < nl
    · obtain ⟨⟨x1, x2⟩, hx⟩ : ∃ x, β.lists[k]? = some x := ⟨_, List.getElem?_eq_getElem (by rw [Hnl.out]; exact hlt)⟩
      obtain ⟨xs, r1, r2⟩ := HB.out.kept _ (List.mem_of_getElem? hx)
      obtain ⟨g, cap, hv, hcell⟩ := HB.out.ls.cells HE.out (k := k) (by rw [Hnl.out]; exact hlt)
      rw [HvL.out, Hnl.out] at hv
      simp only [Value.slice.injEq] at hv
      obtain ⟨rfl, -, rfl⟩ := hv
      have e0 := on_cell hbel (hcell _ _ (flat2_at hx).1)
      have e1 := on_cell hbel (hcell _ _ (flat2_at hx).2)
      obtain ⟨a1, k1, h1⟩ := r1.shape
      obtain ⟨a2, k2, h2⟩ := r2.shape
      simp only at h1 h2 r1 r2 e0 e1
      have hb1 := HG.out _ (List.mem_of_getElem? hx) a1 xs.length k1 h1
      subst h1
      subst h2
      have i1 := r1.ints HE.out rfl
      have i2 := r2.ints HE.out rfl
      have cE := Lib.hid (fun (W : World) (hW : Below wr.heap.size wr W) => equalInts_any a1 a2 k1 k2 xs xs W (i1.below (hbel.trans (hW.mono hbel.size))) (i2.below (hbel.trans (hW.mono hbel.size))) hb1)
      simp only [decide_true] at cE
      obtain ⟨nx, hnx⟩ : ∃ n, xs.length = n := ⟨_, rfl⟩
      rw [hnx] at cE e0 e1
      clear hcell r1 r2 i1 i2 hx hnx hb1
      go_wp2_with fail
      go_region_held3 (fun w' => Below wr.heap.size wr w' ∧ w'.cell? ⟨bk, 2, none⟩ = some (.slice (some ⟨g, 0, none⟩) nl cL) ∧ w'.cell? ⟨g, k * 2, none⟩ = some (.slice a1 nx k1) ∧ w'.cell? ⟨g, k * 2 + 1, none⟩ = some (.slice a2 nx k2)) (first | assumption | exact ⟨(Below.refl _ _).drew, d2, e0, e1⟩ | exact ⟨below_drewN (Below.refl _ _) _, on_cell (below_drewN (Below.refl _ _) _) d2, on_cell (below_drewN (Below.refl _ _) _) e0, on_cell (below_drewN (Below.refl _ _) _) e1⟩ | go_keep) (first
        | (go_at_call 18
           have hH := (‹Below wr.heap.size wr _ ∧ _ ∧ _›)
           with_reducible refine (cE.out _ hH.1).mono ?_
           rintro e w' ⟨rfl, n', rfl⟩
           have hS : Below wr.heap.size wr (World.drewN _ n') ∧ (World.drewN _ n').cell? ⟨bk, 2, none⟩ = some (.slice (some ⟨g, 0, none⟩) nl cL) ∧ (World.drewN _ n').cell? ⟨g, k * 2, none⟩ = some (.slice a1 nx k1) ∧ (World.drewN _ n').cell? ⟨g, k * 2 + 1, none⟩ = some (.slice a2 nx k2) := ⟨below_drewN hH.1 _, on_cell (below_drewN (Below.refl _ _) n') hH.2.1, on_cell (below_drewN (Below.refl _ _) n') hH.2.2.1, on_cell (below_drewN (Below.refl _ _) n') hH.2.2.2⟩))
      have hS1 := (‹Below wr.heap.size wr _ ∧ _ ∧ _›).1
      go_wp2_with fail
      go_roundw
      case rel => exact ⟨k + 1, by omega, by go_num, hbel.trans (hS1.mono hbel.size)⟩
      case measure => simp [intOf]; omega
    · go_wp2_with fail
      go_ret
      exact ⟨rfl, hbel⟩
end
end Go.Proofs.Ytgodidoibcomcaa.Bk

namespace Go.Proofs.Ytgodidoibcomcaa.Bk
open Go.RowKit Go.Proofs.Ytgodidoibcomcaa

/-- what Row answers: the row and the number of the error -/
def rowRes (rows : List Row) (n : Int) : Row × Int := if n < 0 then ((0, []), 2) else match rows[n.toNat]? with | some r => (r, 0) | none => ((0, []), 2)

section
variable {w0 : World} {τ : Own} {w : World} {S : List Ent} {L : List RSl} {C : List Box} {ar : List Int} {k : Nat} {p : Pr}
theorem Env.store (E : Env w0 τ w S L C) (hm : stE ar k p ∈ S) (hk : k ≤ 1000000) : ∃ σ h, σ.ar = ar ∧ σ.rows = p.rows ∧ σ.lows = p.lows ∧ σ.births = p.n ∧ StoreAt (2 * k + 1) p.sb σ h τ w := by
  obtain ⟨σ, h1, h2, h3, h4, h, h5⟩ := (E.st _ hm).1 (by show 2 * k + 1 < refS; unfold refS; omega)
  exact ⟨σ, h, h1, h2.1, h3, h4, h5⟩
theorem Env.ref (E : Env w0 τ w S L C) (hm : rfE ar k p ∈ S) : IsRef (refS + k) p.rb ⟨ar, p.rows, p.born, p.clock⟩ τ w := by
  have h := (E.st _ hm).2 (Nat.le_add_right _ _)
  simp only [rfE, born_fst] at h
  exact h

theorem env_row_st (E : Env w0 τ w S L C) (hm : stE ar k p ∈ S) (hk : k ≤ 1000000) (n : Int) : Calls Try.prog 34 #[.pointer (some ⟨p.sb, 0, none⟩), .int .i64 n] w (RowOwn (rowRes p.rows n).1 (rowRes p.rows n).2 w) := by
  obtain ⟨σ, h, h1, h2, h3, h4, hs⟩ := E.store hm hk
  rw [← h2]
  unfold rowRes
  by_cases hn : n < 0
  · rw [if_pos hn]
    refine (row_bad hs n (.inl hn)).mono ?_
    rintro e w' ⟨rfl, hb⟩
    exact ⟨none, 0, rfl, World.ownsRow_nil _ _ _ _, hb⟩
  · rw [if_neg hn]
    obtain ⟨i, rfl⟩ := Int.eq_ofNat_of_zero_le (show 0 ≤ n by omega)
    rw [Int.toNat_natCast]
    cases hr : σ.rows[i]? with
    | some r => exact row_own hs i r hr
    | none =>
      have hl := List.getElem?_eq_none_iff.1 hr
      refine (row_bad hs i (.inr (by omega))).mono ?_
      rintro e w' ⟨rfl, hb⟩
      exact ⟨none, 0, rfl, World.ownsRow_nil _ _ _ _, hb⟩
theorem env_row_rf (E : Env w0 τ w S L C) (hm : rfE ar k p ∈ S) (n : Int) : Calls Try.prog 71 #[.pointer (some ⟨p.rb, 0, none⟩), .int .i64 n] w (RowOwn (rowRes p.rows n).1 (rowRes p.rows n).2 w) := by
  obtain ⟨aA, cA, vL, vB, hs⟩ := E.ref hm
  unfold rowRes
  by_cases hn : n < 0
  · rw [if_pos hn]
    refine (rrow2_bad hs n (.inl hn)).mono ?_
    rintro e w' ⟨rfl, hb⟩
    exact ⟨none, 0, rfl, World.ownsRow_nil _ _ _ _, hb⟩
  · rw [if_neg hn]
    obtain ⟨i, rfl⟩ := Int.eq_ofNat_of_zero_le (show 0 ≤ n by omega)
    rw [Int.toNat_natCast]
    cases hr : p.rows[i]? with
    | some r => exact rrow2_own hs i r hr
    | none =>
      have hl := List.getElem?_eq_none_iff.1 hr
      refine (rrow2_bad hs i (.inr (by show (p.rows.length : Int) ≤ _; omega))).mono ?_
      rintro e w' ⟨rfl, hb⟩
      exact ⟨none, 0, rfl, World.ownsRow_nil _ _ _ _, hb⟩
theorem env_len_st (E : Env w0 τ w S L C) (hm : stE ar k p ∈ S) (hk : k ≤ 1000000) : Calls Try.prog 21 #[.pointer (some ⟨p.sb, 0, none⟩)] w fun e w' => e = .returned (.int .i64 p.rows.length) ∧ w' = w := by
  obtain ⟨σ, h, h1, h2, h3, h4, hs⟩ := E.store hm hk
  rw [← h2]
  exact len_any hs
theorem env_len_rf (E : Env w0 τ w S L C) (hm : rfE ar k p ∈ S) : Calls Try.prog 56 #[.pointer (some ⟨p.rb, 0, none⟩)] w fun e w' => e = .returned (.int .i64 p.rows.length) ∧ w' = w := by
  obtain ⟨aA, cA, vL, vB, hs⟩ := E.ref hm
  exact rlen_any hs
theorem env_of_st (E : Env w0 τ w S L C) (hm : stE ar k p ∈ S) (hk : k ≤ 1000000) (hl : p.rows.length ≤ 1000000000000) (q : Int) (hq : Rng q) : Calls Try.prog 36 #[.pointer (some ⟨p.sb, 0, none⟩), .int .i64 q] w (OwnEnd (ofK p.rows (.int .i64 q)) w) := by
  obtain ⟨σ, h, h1, h2, h3, h4, hs⟩ := E.store hm hk
  rw [← h2] at hl ⊢
  exact of_own hs q hq hl
theorem env_of_rf (E : Env w0 τ w S L C) (hm : rfE ar k p ∈ S) (q : Int) : Calls Try.prog 57 #[.pointer (some ⟨p.rb, 0, none⟩), .int .i64 q] w (OwnEnd (ofK p.rows (.int .i64 q)) w) := by
  obtain ⟨aA, cA, vL, vB, hs⟩ := E.ref hm
  exact rof_any hs q
theorem env_where_st (E : Env w0 τ w S L C) (hm : stE ar k p ∈ S) (hk : k ≤ 1000000) (hl : p.rows.length ≤ 1000000000000) (q i x : Int) (hq : Rng q) (hi : Rng i) (hx : Rng x) : Calls Try.prog 19 #[.pointer (some ⟨p.sb, 0, none⟩), .int .i64 q, .int .i64 i, .int .i64 x] w (OwnEnd (whK p.rows (placeV q i x)) w) := by
  obtain ⟨σ, h, h1, h2, h3, h4, hs⟩ := E.store hm hk
  rw [← h2] at hl ⊢
  exact where_own hs q i x hq hi hx hl
theorem env_where_rf (E : Env w0 τ w S L C) (hm : rfE ar k p ∈ S) (q i x : Int) : Calls Try.prog 59 #[.pointer (some ⟨p.rb, 0, none⟩), .int .i64 q, .int .i64 i, .int .i64 x] w (OwnEnd (whK p.rows (placeV q i x)) w) := by
  obtain ⟨aA, cA, vL, vB, hs⟩ := E.ref hm
  exact rwhere_any hs q i x
theorem env_num_st {Z : Nat → Prop} (E : Env w0 τ w S L C) (hm : stE ar k p ∈ S) (hk : k ≤ 1000000) (q : Int) (a : Option Addr) (c : Nat) (xs : List Int) (hx : IntsZ Z w a c xs) (hr : RowOk (q, xs)) : Calls Try.prog 39 #[.pointer (some ⟨p.sb, 0, none⟩), .agg #[.int .i64 q, .slice a xs.length c]] w fun e w' => e = .returned (.int .i64 (numI p.rows (q, xs))) ∧ Below w.heap.size w w' := by
  obtain ⟨σ, h, h1, h2, h3, h4, hs⟩ := E.store hm hk
  rw [← h2]
  obtain ⟨q1, q2, q3⟩ := hr
  exact num_all hs q a c xs hx q1 q3 q2
theorem env_has_st {Z : Nat → Prop} (E : Env w0 τ w S L C) (hm : stE ar k p ∈ S) (hk : k ≤ 1000000) (q : Int) (a : Option Addr) (c : Nat) (xs : List Int) (hx : IntsZ Z w a c xs) (hr : RowOk (q, xs)) : Calls Try.prog 46 #[.pointer (some ⟨p.sb, 0, none⟩), .agg #[.int .i64 q, .slice a xs.length c]] w fun e w' => e = .returned (.bool (decide (0 ≤ numI p.rows (q, xs)))) ∧ Below w.heap.size w w' := by
  obtain ⟨σ, h, h1, h2, h3, h4, hs⟩ := E.store hm hk
  rw [← h2]
  obtain ⟨q1, q2, q3⟩ := hr
  exact has_all hs q a c xs hx q1 q3 q2
theorem env_num_rf (E : Env w0 τ w S L C) (hm : rfE ar k p ∈ S) (q : Int) (a : Option Addr) (c : Nat) (xs : List Int) (hx : Ints w a xs) : Calls Try.prog 54 #[.pointer (some ⟨p.rb, 0, none⟩), .agg #[.int .i64 q, .slice a xs.length c]] w fun e w' => e = .returned (.int .i64 (numI p.rows (q, xs))) ∧ Below w.heap.size w w' := by
  obtain ⟨aA, cA, vL, vB, hs⟩ := E.ref hm
  exact rnum_any hs q a c xs hx
theorem env_has_rf (E : Env w0 τ w S L C) (hm : rfE ar k p ∈ S) (q : Int) (a : Option Addr) (c : Nat) (xs : List Int) (hx : Ints w a xs) : Calls Try.prog 52 #[.pointer (some ⟨p.rb, 0, none⟩), .agg #[.int .i64 q, .slice a xs.length c]] w fun e w' => e = .returned (.bool (decide (0 ≤ numI p.rows (q, xs)))) ∧ Below w.heap.size w w' := by
  obtain ⟨aA, cA, vL, vB, hs⟩ := E.ref hm
  exact rhas_any hs q a c xs hx
end
end Go.Proofs.Ytgodidoibcomcaa.Bk

namespace Go.Proofs.Ytgodidoibcomcaa.Bk
open Go.RowKit Go.Proofs.Ytgodidoibcomcaa

set_option maxHeartbeats 4000000 in
theorem rnew_bad {w : World} (aa : Option Addr) (ca : Nat) (ar : List Int) (ha : Ints w aa ar) (hl : ar.length ≤ 9223372036854775807) (hbad : ¬ (ar.length ≤ 128 ∧ ∀ x ∈ ar, 0 ≤ x ∧ x ≤ 8)) :
    Calls Try.prog 49 #[.slice aa ar.length ca] w fun e w' => e = .returned (.tuple #[.pointer none, .int .i64 2]) ∧ Below w.heap.size w w' := by
  have HA := Lib.hid ha
  have HN := Lib.hid hbad
  clear ha hbad
  go_enter Try.func49, Try.ntmps49
  by_cases h128 : ar.length ≤ 128
  · have hd : decide ((128 : Int) < (ar.length : Int)) = false := by rw [decide_eq_false_iff_not]; omega
    go_wp2
    go_loopw [4] (fun i wr => ∃ k : Nat, k ≤ ar.length ∧ i = .int .i64 k ∧ Hid (∀ x ∈ ar.take k, 0 ≤ x ∧ x ≤ 8) ∧ Below w.heap.size w wr) (fun i _ => ar.length - (intOf i).toNat)
    case atStart => exact ⟨0, Nat.zero_le _, rfl, Lib.hid (by simp), Below.refl _ _⟩
    case round =>
      obtain ⟨k, hk, rfl, HT, hbel⟩ := hrel
      by_cases hlt : k < ar.length
      · rcases HA.out with h | ⟨b, o, rfl, hc⟩
        · rw [h] at hlt; simp at hlt
        · obtain ⟨x, c0, HX⟩ := ints_at hc hlt
          have e0 := on_cell hbel c0
          clear hc c0
          by_cases h0 : x < 0
          · have d0 : decide (x < 0) = true := by simpa using h0
            go_wp2
            go_ret2
            exact ⟨rfl, hbel⟩
          · have d0 : decide (x < 0) = false := by simpa using h0
            by_cases h8 : 8 < x
            · have d8 : decide (8 < x) = true := by simpa using h8
              go_wp2
              go_ret2
              exact ⟨rfl, hbel⟩
            · have d8 : decide (8 < x) = false := by simpa using h8
              go_wp2
              go_roundw
              case rel => exact ⟨k + 1, by omega, by go_num, Lib.hid (by
                intro z hz
                rw [take_snoc' HX.out, List.mem_append, List.mem_singleton] at hz
                rcases hz with hz | rfl
                · exact HT.out z hz
                · omega), hbel⟩
              case measure => simp [intOf]; omega
      · exfalso
        have h0 := HT.out
        rw [List.take_of_length_le (by omega)] at h0
        exact HN.out ⟨h128, h0⟩
  · have hd : decide ((128 : Int) < (ar.length : Int)) = true := by rw [decide_eq_true_eq]; omega
    go_wp2
    go_ret2
    exact ⟨rfl, Below.refl _ _⟩

set_option maxHeartbeats 4000000 in
theorem new_bad {w : World} (aa : Option Addr) (ca : Nat) (ar : List Int) (ha : Ints w aa ar) (hl : ar.length ≤ 9223372036854775807) (hbad : ¬ (ar.length ≤ 128 ∧ ∀ x ∈ ar, 0 ≤ x ∧ x ≤ 8)) :
    Calls Try.prog 37 #[.slice aa ar.length ca] w fun e w' => e = .returned (.tuple #[.pointer none, .int .i64 2]) ∧ Below w.heap.size w w' := by
  have HA := Lib.hid ha
  have HN := Lib.hid hbad
  clear ha hbad
  go_enter Try.func37, Try.ntmps37
  by_cases h128 : ar.length ≤ 128
  · have hd : decide ((128 : Int) < (ar.length : Int)) = false := by rw [decide_eq_false_iff_not]; omega
    go_wp2
    go_loopw [11] (fun i wr => ∃ k : Nat, k ≤ ar.length ∧ i = .int .i64 k ∧ Hid (∀ x ∈ ar.take k, 0 ≤ x ∧ x ≤ 8) ∧ Below w.heap.size w wr) (fun i _ => ar.length - (intOf i).toNat)
    case atStart => exact ⟨0, Nat.zero_le _, rfl, Lib.hid (by simp), Below.refl _ _⟩
    case round =>
      obtain ⟨k, hk, rfl, HT, hbel⟩ := hrel
      by_cases hlt : k < ar.length
      · rcases HA.out with h | ⟨b, o, rfl, hc⟩
        · rw [h] at hlt; simp at hlt
        · obtain ⟨x, c0, HX⟩ := ints_at hc hlt
          have e0 := on_cell hbel c0
          clear hc c0
          by_cases h0 : x < 0
          · have d0 : decide (x < 0) = true := by simpa using h0
            go_wp2
            go_ret2
            exact ⟨rfl, hbel⟩
          · have d0 : decide (x < 0) = false := by simpa using h0
            by_cases h8 : 8 < x
            · have d8 : decide (8 < x) = true := by simpa using h8
              go_wp2
              go_ret2
              exact ⟨rfl, hbel⟩
            · have d8 : decide (8 < x) = false := by simpa using h8
              go_wp2
              go_roundw
              case rel => exact ⟨k + 1, by omega, by go_num, Lib.hid (by
                intro z hz
                rw [take_snoc' HX.out, List.mem_append, List.mem_singleton] at hz
                rcases hz with hz | rfl
                · exact HT.out z hz
                · omega), hbel⟩
              case measure => simp [intOf]; omega
      · exfalso
        have h0 := HT.out
        rw [List.take_of_length_le (by omega)] at h0
        exact HN.out ⟨h128, h0⟩
  · have hd : decide ((128 : Int) < (ar.length : Int)) = true := by rw [decide_eq_true_eq]; omega
    go_wp2
    go_ret2
    exact ⟨rfl, Below.refl _ _⟩

end Go.Proofs.Ytgodidoibcomcaa.Bk

namespace Go.Proofs.Ytgodidoibcomcaa.Bk
open Go.RowKit Go.Proofs.Ytgodidoibcomcaa

theorem Env.start (w : World) : Env w (fun _ => none) w [] [] [] :=
  ⟨fun _ _ => rfl, fun _ _ => rfl, Below.refl _ _, fun x hx => (by cases hx), fun x hx => (by cases hx), fun x hx => (by cases hx), List.nodup_nil⟩

theorem BoxRow.at {w0 : World} {τ : Own} {w : World} {S : List Ent} {C : List Box} {v : Value} {n : Nat} {ys : List Int} (h : BoxRow C 3 1 v n (ys.map (Value.int .i64))) (E : Env w0 τ w S [] C) (hs : ∀ z ∈ S, z.s ≠ boxS) (hl : ys.length = n) {k : Nat} (hk : k < n) :
    ∃ g cap x, v = .slice (some ⟨g, 0, none⟩) n cap ∧ w.cell? ⟨g, k, none⟩ = some (.int .i64 x) ∧ w.frozen? ⟨g, k, none⟩ = false ∧ ∀ z, ∃ C', Env w0 τ (w.setCell ⟨g, k, none⟩ (.int .i64 z)) S [] C' ∧ BoxRow C' 3 1 v n ((ys.set k z).map (Value.int .i64)) := by
  rcases h with ⟨h1, ⟨h2, h3⟩ | ⟨g, cap, cur, rfl, h4, h5, h6, h7, h8⟩⟩
  · omega
  · have hx : (ys.map (Value.int .i64))[k]? = some (.int .i64 (ys[k]'(by rw [hl]; exact hk))) := by rw [List.getElem?_map, List.getElem?_eq_getElem (by rw [hl]; exact hk)]; rfl
    have hcur : cur[k]? = some (.int .i64 (ys[k]'(by rw [hl]; exact hk))) := by
      rw [← h8, List.getElem?_take, if_pos (by omega)] at hx
      simpa using hx
    have hc := E.cellAt h4 hcur
    exact ⟨g, cap, _, rfl, hc.1, hc.2, fun z => ⟨_, E.setAt hs h4 k (.int .i64 z), BoxRow.set h4 h5 h6 h7 h8 hl z⟩⟩
/-- the arities that may be -/
def ArOk (ar : List Int) : Prop := ar.length ≤ 128 ∧ ∀ x ∈ ar, 0 ≤ x ∧ x ≤ 8
/-- a book that has just begun, in a world that came from w -/
def BeginEnd (w : World) (ar : List Int) (e : Ending) (w' : World) : Prop :=
  ∃ (β : Book) (τ : Own) (C : List Box), e = .returned (.tuple #[.pointer (some ⟨β.bk, 0, none⟩), .bool true, .bool true]) ∧ Env w τ w' (ents ar β.ps) [] C ∧ BookOk β C ∧ β.ar = ar ∧ β.next = 0 ∧ β.lists = [] ∧ ∃ sb rb, β.ps = [⟨sb, rb, [], [], 0, [], 0⟩]

theorem begin_fin {w W : World} {τ : Own} {ar : List Int} {sb rb : Nat} {C : List Box} (E : Env w τ W [rfE ar 0 ⟨sb, rb, [], [], 0, [], 0⟩, stE ar 0 ⟨sb, rb, [], [], 0, [], 0⟩] [] C) :
    let W1 := W.alloc (.cells #[.pointer (some ⟨sb, 0, none⟩)] 25)
    let W2 := W1.alloc (.cells #[.pointer (some ⟨rb, 0, none⟩)] 89)
    let W3 := W2.alloc (.cells #[.slice (some ⟨W.heap.size, 0, none⟩) 1 1, .slice (some ⟨W1.heap.size, 0, none⟩) 1 1, .slice none 0 0, .int .i64 0] 96)
    BeginEnd w ar (.returned (.tuple #[.pointer (some ⟨W2.heap.size, 0, none⟩), .bool true, .bool true])) W3 := by
  intro W1 W2 W3
  have b1 : Below W.heap.size W W1 := (Below.refl _ _).alloc (Nat.le_refl _) _
  have b2 : Below W1.heap.size W1 W2 := (Below.refl _ _).alloc (Nat.le_refl _) _
  have b3 : Below W2.heap.size W2 W3 := (Below.refl _ _).alloc (Nat.le_refl _) _
  have E1 := E.adopt b1 (Nat.le_refl _) (MapKept.heap_alloc W _).1
  have E2 := E1.adopt b2 (Nat.le_refl _) (MapKept.heap_alloc W1 _).1
  have E3 := E2.adopt b3 (Nat.le_refl _) (MapKept.heap_alloc W2 _).1
  refine ⟨⟨W2.heap.size, ar, [⟨sb, rb, [], [], 0, [], 0⟩], .slice (some ⟨W.heap.size, 0, none⟩) 1 1, .slice (some ⟨W1.heap.size, 0, none⟩) 1 1, .slice none 0 0, 0, []⟩, _, _, rfl, E3.mems (fun x hx => ?_), ⟨List.mem_cons_self .., ?_, ?_, BoxRow.nil _ _ _, fun x hx => (by cases hx), (by show 1 ≤ 1000000; omega), (by show 0 < 1; omega)⟩, rfl, rfl, rfl, sb, rb, rfl⟩
  · obtain ⟨k, p, hp, hx⟩ := mem_ents.1 hx
    cases k with
    | zero =>
      simp only [List.getElem?_cons_zero, Option.some.injEq] at hp
      subst hp
      rcases hx with rfl | rfl <;> simp
    | succ k => simp at hp
  · exact ⟨rfl, .inr ⟨_, _, _, rfl, List.mem_cons_of_mem _ (List.mem_cons_of_mem _ (List.mem_cons_self ..)), Nat.le_refl _, by decide, rfl, rfl⟩⟩
  · exact ⟨rfl, .inr ⟨_, _, _, rfl, List.mem_cons_of_mem _ (List.mem_cons_self ..), Nat.le_refl _, by decide, rfl, rfl⟩⟩

set_option maxHeartbeats 8000000 in
set_option maxRecDepth 8000 in
theorem begin_any {Z : Nat → Prop} {w : World} (aa : Option Addr) (ca : Nat) (ar : List Int) (ha : IntsZ Z w aa ca ar) (hok : ArOk ar) :
    Calls Try.prog 25 #[.slice aa ar.length ca] w (BeginEnd w ar) := by
  have HA := Lib.hid ha
  have HK := Lib.hid hok
  have h128 := hok.1
  have cI := Lib.hid (lints_own aa ca ar w ha.ints (by omega))
  have E0 := Env.start w
  clear ha hok
  go_enter Try.func25, Try.ntmps25
  go_upto_region 2 with (first | (go_at_call 38; refine cI.out.mono ?_; rintro e V1 ⟨v1, rfl, hO1, hb1⟩))
  obtain ⟨τ1, C1, E1, r1, -, -⟩ := BoxRow.ofOwns E0 hb1 hO1 (Nat.le_refl _)
  obtain ⟨a1, c1, rfl⟩ := owns_shape hO1
  have hi1 := r1.ints E1 rfl
  obtain ⟨ga, gc, hge, hgZ⟩ := intsZ_of_row hO1
  simp only [Value.slice.injEq] at hge
  obtain ⟨rfl, -, rfl⟩ := hge
  have cN := Lib.hid (new_any (s := 1) a1 c1 ar V1 E1.fresh hgZ HK.out.2 HK.out.1)
  have HE1 := Lib.hid E1
  have Hr1 := Lib.hid r1
  clear hO1 hgZ hi1 r1 E1
  go_upto_region 3 with (first | (go_at_call 37; refine cN.out.mono ?_; rintro e V2 ⟨sb, τ2, rfl, hS2, T2, hb2⟩))
  have E2 := HE1.out.more (y := stE ar 0 ⟨sb, 0, [], [], 0, [], 0⟩) T2 (by decide) (.of (by show 2 * 0 + 1 < refS; unfold refS; omega) ⟨_, rfl, ⟨rfl, rfl⟩, rfl, rfl, hS2⟩) (fun z hz => by cases hz)
  have HE2 := Lib.hid E2
  have cR := Lib.hid (rnew_any (s := refS) (τ := τ2) aa ca ar V2 ((HA.out.below hb1 (Nat.le_refl _)).below hb2 (Nat.le_refl _)) HK.out.2 HK.out.1)
  clear hS2 T2 E2
  go_upto_region 4 with (first | (go_at_call 49; refine cR.out.mono ?_; rintro e V3 ⟨rb, τ3, rfl, hR3, T3, hb3⟩))
  have E3 := HE2.out.more (y := rfE ar 0 ⟨sb, rb, [], [], 0, [], 0⟩) T3 (by show refS ≠ 0; unfold refS; omega) (.ofRef (Nat.le_refl _) hR3) (fun z hz => by
    rw [List.mem_singleton] at hz
    subst hz
    show 2 * 0 + 1 ≠ refS
    unfold refS
    omega)
  have HE3 := Lib.hid E3
  have hi3 := Hr1.out.ints E3 rfl
  have hb13 := hb1.trans ((hb2.trans (hb3.mono hb2.size)).mono hb1.size)
  have cE := Lib.hid (equalInts_any a1 aa c1 ca ar ar V3 hi3 (HA.out.below hb13 (Nat.le_refl _)).ints (by omega))
  simp only [decide_true] at cE
  clear hR3 T3 E3 hi3
  go_upto_region 8 with (first | (go_at_call 18; refine cE.out.mono ?_; rintro e V4 ⟨rfl, n4, rfl⟩))
  obtain ⟨V5, hV5⟩ : ∃ V, V = V3.drewN n4 := ⟨_, rfl⟩
  have HE5 : Hid (Env w τ3 V5 [rfE ar 0 ⟨sb, rb, [], [], 0, [], 0⟩, stE ar 0 ⟨sb, rb, [], [], 0, [], 0⟩] [] C1) := Lib.hid (by rw [hV5]; exact HE3.out.stay (below_drewN (Below.refl _ _) _))
  rw [← hV5]
  clear hV5
  obtain ⟨n, hn⟩ : ∃ n, ar.length = n := ⟨_, rfl⟩
  rw [hn] at Hr1 h128
  have Hn := Lib.hid hn
  rw [hn]
  have HSS : Hid (∀ z ∈ [rfE ar 0 ⟨sb, rb, [], [], 0, [], 0⟩, stE ar 0 ⟨sb, rb, [], [], 0, [], 0⟩], z.s ≠ boxS) := Lib.hid (fun z hz => by
    simp only [List.mem_cons, List.not_mem_nil, or_false] at hz
    rcases hz with rfl | rfl
    · show refS + 0 ≠ 0; unfold refS; omega
    · show 2 * 0 + 1 ≠ 0; omega)
  clear hn cI cN cR cE hb1 hb2 hb3 hb13 E0
  go_wp2_with fail
  go_loopw [10] (fun i wr => ∃ (k : Nat) (ys : List Int) (Cr : List Box), k ≤ n ∧ i = .int .i64 k ∧ Hid (Env w τ3 wr [rfE ar 0 ⟨sb, rb, [], [], 0, [], 0⟩, stE ar 0 ⟨sb, rb, [], [], 0, [], 0⟩] [] Cr) ∧ Hid (BoxRow Cr 3 1 (.slice a1 n c1) n (ys.map (Value.int .i64))) ∧ ys.length = n) (fun i _ => n - (intOf i).toNat)
  case atStart => exact ⟨0, ar, C1, Nat.zero_le _, rfl, HE5, Hr1, Hn.out⟩
  case round =>
    obtain ⟨k, ys, Cr, hk, rfl, HEr, Hrr, hly⟩ := hrel
    by_cases hlt : k < n
    · obtain ⟨g, cap, x, hv, dg, fg, hset⟩ := Hrr.out.at HEr.out HSS.out hly hlt
      cases hv
      obtain ⟨C2, E2, r2⟩ := hset 77
      have HE2' := Lib.hid E2
      have Hr2 := Lib.hid r2
      clear hset E2 r2
      go_wp2_with fail
      go_roundw
      case rel => exact ⟨k + 1, _, C2, by omega, by go_num, HE2', Hr2, by simpa using hly⟩
      case measure => simp [intOf]; omega
    · have h := begin_fin HEr.out
      simp only [asz] at h
      have hfin := Lib.hid h
      clear h
      go_wp2_with fail
      go_ret3
      exact hfin.out

set_option maxHeartbeats 4000000 in
theorem begin_bad {Z : Nat → Prop} {w : World} (aa : Option Addr) (ca : Nat) (ar : List Int) (ha : IntsZ Z w aa ca ar) (hl : ar.length ≤ 100000000000) (hbad : ¬ ArOk ar) :
    Calls Try.prog 25 #[.slice aa ar.length ca] w fun e w' => e = .returned (.tuple #[.pointer none, .bool true, .bool false]) ∧ Below w.heap.size w w' := by
  have HA := Lib.hid ha
  have cI := Lib.hid (lints_own aa ca ar w ha.ints (by omega))
  have HN := Lib.hid hbad
  clear ha hbad
  go_enter Try.func25, Try.ntmps25
  go_upto_region 2 with (first | (go_at_call 38; refine cI.out.mono ?_; rintro e V1 ⟨v1, rfl, hO1, hb1⟩))
  obtain ⟨a1, c1, rfl, hgZ⟩ := intsZ_of_row hO1
  have cN := Lib.hid (new_bad a1 c1 ar hgZ.ints (by omega) HN.out)
  have HG := Lib.hid hgZ
  clear hO1 hgZ
  go_upto_region 3 with (first | (go_at_call 37; refine cN.out.mono ?_; rintro e V2 ⟨rfl, hb2⟩))
  have hb12 := hb1.trans (hb2.mono hb1.size)
  have cR := Lib.hid (rnew_bad aa ca ar (HA.out.below hb12 (Nat.le_refl _)).ints (by omega) HN.out)
  go_upto_region 4 with (first | (go_at_call 49; refine cR.out.mono ?_; rintro e V3 ⟨rfl, hb3⟩))
  have hb13 := hb12.trans (hb3.mono hb12.size)
  have cE := Lib.hid (equalInts_any a1 aa c1 ca ar ar V3 ((HG.out.below hb2 (Nat.le_refl _)).below hb3 (Nat.le_refl _)).ints (HA.out.below hb13 (Nat.le_refl _)).ints (by omega))
  simp only [decide_true] at cE
  go_wp2_with (first | (go_at_call 18; refine cE.out.mono ?_; rintro e V4 ⟨rfl, n4, rfl⟩))
  go_ret3
  exact ⟨rfl, below_drewN hb13 _⟩
end Go.Proofs.Ytgodidoibcomcaa.Bk

namespace Go.Proofs.Ytgodidoibcomcaa.Bk
open Go.RowKit Go.Proofs.Ytgodidoibcomcaa

structure Step (w0 : World) (β : Book) (C : List Box) (w : World) (β' : Book) (τ' : Own) (C' : List Box) (w' : World) : Prop where
  E : Env w0 τ' w' (ents β'.ar β'.ps) [] C'
  ok : BookOk β' C'
  bk : β'.bk = β.bk
  ar : β'.ar = β.ar
  size : w.heap.size ≤ w'.heap.size
  old : ∀ x ∈ C, x.1 ≠ β.bk → β.vS.ownBlock ≠ some x.1 → β.vR.ownBlock ≠ some x.1 → β.vL.ownBlock ≠ some x.1 → x ∈ C'
  gS : ∀ g, β'.vS.ownBlock = some g → β.vS.ownBlock = some g ∨ w.heap.size ≤ g
  gR : ∀ g, β'.vR.ownBlock = some g → β.vR.ownBlock = some g ∨ w.heap.size ≤ g
  gL : ∀ g, β'.vL.ownBlock = some g → β.vL.ownBlock = some g ∨ w.heap.size ≤ g
  off : ∀ u, Off β u → (∀ g, u.ownBlock = some g → g < w.heap.size) → Off β' u

section
variable {w0 : World} {β β1 β2 : Book} {C C1 C2 : List Box} {w w1 w2 : World} {τ τ1 τ2 : Own}
theorem Env.lt {S : List Ent} {L : List RSl} (E : Env w0 τ w S L C) {x : Box} (hx : x ∈ C) : x.1 < w.heap.size := (Array.getElem?_eq_some_iff.1 (E.boxes x hx).2).1
theorem Step.refl (E : Env w0 τ w (ents β.ar β.ps) [] C) (B : BookOk β C) : Step w0 β C w β τ C w :=
  ⟨E, B, rfl, rfl, Nat.le_refl _, fun _ hx _ _ _ _ => hx, fun _ h => .inl h, fun _ h => .inl h, fun _ h => .inl h, fun _ h _ => h⟩
theorem Step.trans {S : List Ent} {L : List RSl} (h1 : Step w0 β C w β1 τ1 C1 w1) (h2 : Step w0 β1 C1 w1 β2 τ2 C2 w2) (E : Env w0 τ w S L C) : Step w0 β C w β2 τ2 C2 w2 := by
  have no : ∀ {u u' : Value} {x : Box}, x ∈ C → (∀ g, u'.ownBlock = some g → u.ownBlock = some g ∨ w.heap.size ≤ g) → u.ownBlock ≠ some x.1 → u'.ownBlock ≠ some x.1 := fun {u u' x} hx hg hn e => by
    rcases hg _ e with h | h
    · exact hn h
    · have := E.lt hx
      omega
  have up : ∀ {u u' u'' : Value}, (∀ g, u'.ownBlock = some g → u.ownBlock = some g ∨ w.heap.size ≤ g) → (∀ g, u''.ownBlock = some g → u'.ownBlock = some g ∨ w1.heap.size ≤ g) → ∀ g, u''.ownBlock = some g → u.ownBlock = some g ∨ w.heap.size ≤ g := fun {u u' u''} h k g e => by
    rcases k g e with q | q
    · exact h g q
    · have := h1.size
      exact .inr (by omega)
  exact ⟨h2.E, h2.ok, h2.bk.trans h1.bk, h2.ar.trans h1.ar, Nat.le_trans h1.size h2.size, fun x hx a b c d => h2.old x (h1.old x hx a b c d) (by rw [h1.bk]; exact a) (no hx h1.gS b) (no hx h1.gR c) (no hx h1.gL d), up h1.gS h2.gS, up h1.gR h2.gR, up h1.gL h2.gL, fun u hu hl => h2.off u (h1.off u hu hl) (fun g e => Nat.lt_of_lt_of_le (hl g e) h1.size)⟩
/-- more boxes and a later world of the same book -/
theorem Step.ofMore (_E : Env w0 τ w (ents β.ar β.ps) [] C) (B : BookOk β C) (E1 : Env w0 τ1 w1 (ents β.ar β.ps) [] C1) (h : ∀ x ∈ C, x ∈ C1) (hs : w.heap.size ≤ w1.heap.size) : Step w0 β C w β τ1 C1 w1 :=
  ⟨E1, ⟨h _ B.head, B.st.mono fun x hx _ => h x hx, B.rf.mono fun x hx _ => h x hx, B.ls.mono fun x hx _ => h x hx, fun x hx => by
    obtain ⟨xs, h1, h2⟩ := B.kept x hx
    exact ⟨xs, h1.mono fun x hx _ => h x hx, h2.mono fun x hx _ => h x hx⟩, B.many, B.pos⟩, rfl, rfl, hs, fun x hx _ _ _ _ => h x hx, fun g h => .inl h, fun g h => .inl h, fun g h => .inl h, fun _ h _ => h⟩
/-- fewer of the boxes were there before: what was made since is of no account -/
theorem Step.less (h : Step w0 β C1 w1 β1 τ1 C2 w2) (hc : ∀ x ∈ C, x ∈ C1) (hs : w.heap.size ≤ w1.heap.size) : Step w0 β C w β1 τ1 C2 w2 :=
  ⟨h.E, h.ok, h.bk, h.ar, Nat.le_trans hs h.size, fun x hx a b c d => h.old x (hc x hx) a b c d, fun g e => (h.gS g e).imp id (fun q => by omega), fun g e => (h.gR g e).imp id (fun q => by omega), fun g e => (h.gL g e).imp id (fun q => by omega), fun u hu hl => h.off u hu (fun g e => Nat.lt_of_lt_of_le (hl g e) hs)⟩
/-- keep, as a step of a book whose boxes C do not hold the list's block -/
theorem KeepEnd.step {v : Value} {n : Nat} {e : Ending} (h : KeepEnd w0 (ents β.ar β.ps) β C1 v n w1 e w2) (hc : ∀ x ∈ C, x ∈ C1) (hv : ∀ x ∈ C, v.ownBlock ≠ some x.1) (hv2 : ∀ g, v.ownBlock = some g → w.heap.size ≤ g) (hs : w.heap.size ≤ w1.heap.size) :
    e = .returned (.tuple #[]) ∧ ∃ (τ' : Own) (C' : List Box) (vL' : Value) (lists' : List (Value × Value)), Step w0 β C w { β with vL := vL', next := β.next + n + 1, lists := lists' } τ' C' w2 ∧ lists'.length = β.lists.length + 2 ∧
      (∀ x ∈ C1, x.1 ≠ β.bk → v.ownBlock ≠ some x.1 → β.vL.ownBlock ≠ some x.1 → x ∈ C') ∧ ∀ u, Off β u → (∀ g, u.ownBlock = some g → g < w1.heap.size ∧ v.ownBlock ≠ some g) → Off { β with lists := lists' } u := by
  obtain ⟨τ', C', vL', lists', he, hE, hB, hl, hsz, hold, hgL, hoff⟩ := h
  refine ⟨he, τ', C', vL', lists', ⟨hE, hB, rfl, rfl, Nat.le_trans hs hsz, fun x hx a _ _ d => hold x (hc x hx) a (hv x hx) d, fun g e => .inl e, fun g e => .inl e, fun g e => ?_, fun u hu hlt => hoff u hu (fun g e => ⟨Nat.lt_of_lt_of_le (hlt g e) hs, fun e' => by have h1 := hv2 g e'; have h2 := hlt g e; omega⟩)⟩, hl, hold, hoff⟩
  rcases hgL with h | ⟨g', h, h2⟩
  · exact .inl (h ▸ e)
  · have e : vL'.ownBlock = some g := e
    rw [h] at e
    cases e
    exact .inr (by omega)
/-- a list in a new block is none of those handed out -/
theorem off_new {S : List Ent} {L : List RSl} (E : Env w0 τ w S L C) (B : BookOk β C) {v : Value} (hv : ∀ g, v.ownBlock = some g → w.heap.size ≤ g) : Off β v := fun x hx g hg => by
  obtain ⟨xs, h1, h2⟩ := B.kept x hx
  have := hv g hg
  refine ⟨fun e => ?_, fun e => ?_⟩
  · obtain ⟨cur, hc⟩ := h1.box e
    have := E.lt hc
    simp only at this
    omega
  · obtain ⟨cur, hc⟩ := h2.box e
    have := E.lt hc
    simp only at this
    omega
/-- boxes of other elements are other blocks -/
theorem Env.other {S : List Ent} {L : List RSl} (E : Env w0 τ w S L C) {g g' : Nat} {c c' : Array Value} {T T' : TypeId} (h : (g, Obj.cells c T (0, 0)) ∈ C) (h' : (g', Obj.cells c' T' (0, 0)) ∈ C) (hne : T ≠ T') : g ≠ g' := fun e => by
  subst e
  have := E.one h h'
  simp only [Obj.cells.injEq] at this
  exact hne this.2.1
/-- keep, behind a step; the list's block is none of the boxes that were there ahead of both -/
theorem KeepEnd.after {S : List Ent} {L : List RSl} {v : Value} {n : Nat} {e : Ending} (h1 : Step w0 β C w β1 τ1 C1 w1) (h : KeepEnd w0 (ents β1.ar β1.ps) β1 C1 v n w1 e w2) (hv2 : ∀ g, v.ownBlock = some g → w.heap.size ≤ g) (E : Env w0 τ w S L C) :
    e = .returned (.tuple #[]) ∧ ∃ (τ' : Own) (C' : List Box) (vL' : Value) (lists' : List (Value × Value)), Step w0 β C w { β1 with vL := vL', next := β1.next + n + 1, lists := lists' } τ' C' w2 ∧ lists'.length = β1.lists.length + 2 ∧ w1.heap.size ≤ w2.heap.size ∧
      (∀ x ∈ C1, x.1 ≠ β1.bk → v.ownBlock ≠ some x.1 → β1.vL.ownBlock ≠ some x.1 → x ∈ C') ∧ ∀ u, Off β1 u → (∀ g, u.ownBlock = some g → g < w1.heap.size ∧ v.ownBlock ≠ some g) → Off { β1 with lists := lists' } u := by
  obtain ⟨τ', C', vL', lists', he, hE, hB, hl, hsz, hold, hgL, hoff⟩ := h
  have h1s := h1.size
  have hv : ∀ x ∈ C, v.ownBlock ≠ some x.1 := fun x hx e => by have h1 := hv2 _ e; have h2 := E.lt hx; omega
  refine ⟨he, τ', C', vL', lists', ⟨hE, hB, h1.bk, h1.ar, Nat.le_trans h1.size hsz, fun x hx a b c d => hold x (h1.old x hx a b c d) (by rw [h1.bk]; exact a) (hv x hx) (fun q => ?_), h1.gS, h1.gR, fun g e => ?_, fun u hu hlt => hoff u (h1.off u hu hlt) (fun g e => ⟨Nat.lt_of_lt_of_le (hlt g e) h1.size, fun e' => by have h1 := hv2 g e'; have h2 := hlt g e; omega⟩)⟩, hl, hsz, hold, hoff⟩
  · rcases h1.gL _ q with q | q
    · exact d q
    · have := E.lt hx
      omega
  · have e : vL'.ownBlock = some g := e
    rcases hgL with h | ⟨g', h, h2⟩
    · exact h1.gL g (h ▸ e)
    · rw [h] at e
      cases e
      exact .inr (by omega)
theorem ents_ne {ar : List Int} {ps : List Pr} : ∀ z ∈ ents ar ps, z.s ≠ boxS := fun z hz => by
  obtain ⟨k, p, _, rfl | rfl⟩ := mem_ents.1 hz
  · show 2 * k + 1 ≠ 0
    omega
  · show refS + k ≠ 0
    unfold refS
    omega
end
end Go.Proofs.Ytgodidoibcomcaa.Bk
