/-
  The document's store (edictref05) as a world holds it, and what its calls that ask it answer.
-/
import Derived.Test.YtgodidoibcomcaaSBad
namespace Go.Proofs.Ytgodidoibcomcaa
open Go.RowKit

/-- what the document's store holds -/
structure Rf where
  ar : List Int
  rows : List Row
  born : List Int
  clock : Nat

structure RefAt (s rb : Nat) (ρ : Rf) (τ : Own) (w : World) (aA : Option Addr) (cA : Nat) (vL vB : Value) : Prop where
  fresh : Fresh τ w
  mine : τ rb = some (s, .head)
  head : w.heap[rb]? = some (.cells #[.slice aA ρ.ar.length cA, vL, vB, .int .i64 (ρ.clock : Int)] 104 (0, 0))
  ar : IntsZ (Still s τ) w aA cA ρ.ar
  list : ∃ cs, w.ownsRow 0 28 2 vL ρ.rows.length cs ∧ (∀ g, vL.ownBlock = some g → τ g = some (s, .rows)) ∧ RowCells (Still s τ) w cs ρ.rows
  born : w.ownsRow 0 3 1 vB ρ.born.length (ρ.born.map (Value.int .i64)) ∧ ∀ g, vB.ownBlock = some g → τ g = some (s, .num)
  len : ρ.born.length = ρ.rows.length
  fits : ∀ r ∈ ρ.rows, FitsRow ρ.ar r
  arity : ∀ x ∈ ρ.ar, 0 ≤ x ∧ x ≤ 8
  preds : ρ.ar.length ≤ 128
  many : ρ.rows.length ≤ 100000000000
def IsRef (s rb : Nat) (ρ : Rf) (τ : Own) (w : World) : Prop := ∃ aA cA vL vB, RefAt s rb ρ τ w aA cA vL vB

section
variable {s rb : Nat} {ρ : Rf} {τ : Own} {w : World} {aA : Option Addr} {cA : Nat} {vL vB : Value}
theorem RefAt.kept {s' : Nat} {R : Role → Prop} {τ' : Own} {w' : World} (hs : RefAt s rb ρ τ w aA cA vL vB) (ht : Turn s' R τ τ' w w') (hne : s ≠ s' ∨ ∀ r, ¬ R r) : RefAt s rb ρ τ' w' aA cA vL vB := by
  have hk : ∀ j, j < w.heap.size → ∀ r, τ j = some (s, r) → w'.heap[j]? = w.heap[j]? := fun j hj r e => ht.keep j hj (fun r' e' => by
    rw [e] at e'
    rcases hne with h | h
    · cases e'; exact absurd rfl h
    · exact h r')
  have hi : ∀ {a : Option Addr} {c : Nat} {xs : List Int}, IntsZ (Still s τ) w a c xs → IntsZ (Still s τ') w' a c xs := fun h => h.keep (fun j hj hz => hk j hj _ hz) (fun j hj hz => (ht.own j hj).trans hz)
  have hlt := (Array.getElem?_eq_some_iff.1 hs.head).1
  obtain ⟨cs, ho, hg, hc⟩ := hs.list
  exact ⟨ht.fresh, (ht.own rb hlt).trans hs.mine, (hk rb hlt _ hs.mine).trans hs.head, hi hs.ar,
    ⟨cs, owns_block ho (fun g e => hk g (ho.lt g e).2 _ (hg g e)), fun g e => (ht.own g (ho.lt g e).2).trans (hg g e), hc.keep (fun j hj hz => hk j hj _ hz) (fun j hj hz => (ht.own j hj).trans hz)⟩,
    ⟨owns_block hs.born.1 (fun g e => hk g (hs.born.1.lt g e).2 _ (hs.born.2 g e)), fun g e => (ht.own g (hs.born.1.lt g e).2).trans (hs.born.2 g e)⟩, hs.len, hs.fits, hs.arity, hs.preds, hs.many⟩
theorem RefAt.below {w' : World} (hs : RefAt s rb ρ τ w aA cA vL vB) (hb : Below w.heap.size w w') : RefAt s rb ρ τ w' aA cA vL vB :=
  hs.kept (s' := s) (R := fun _ => False) (Turn.of_below hb hs.fresh) (.inr fun _ h => h)
theorem IsRef.below {w' : World} (hs : IsRef s rb ρ τ w) (hb : Below w.heap.size w w') : IsRef s rb ρ τ w' := by
  obtain ⟨a, c, v, u, h⟩ := hs
  exact ⟨a, c, v, u, h.below hb⟩
theorem IsRef.kept {s' : Nat} {R : Role → Prop} {τ' : Own} {w' : World} (hs : IsRef s rb ρ τ w) (ht : Turn s' R τ τ' w w') (hne : s ≠ s') : IsRef s rb ρ τ' w' := by
  obtain ⟨a, c, v, u, h⟩ := hs
  exact ⟨a, c, v, u, h.kept ht (.inl hne)⟩
theorem RefAt.cells (hs : RefAt s rb ρ τ w aA cA vL vB) : w.cell? ⟨rb, 0, none⟩ = some (.slice aA ρ.ar.length cA) ∧ w.cell? ⟨rb, 1, none⟩ = some vL ∧ w.cell? ⟨rb, 2, none⟩ = some vB ∧ w.cell? ⟨rb, 3, none⟩ = some (.int .i64 (ρ.clock : Int)) ∧ ∀ j, w.frozen? ⟨rb, j, none⟩ = false := by
  have := hs.head
  refine ⟨?_, ?_, ?_, ?_, fun j => ?_⟩ <;> simp [World.cell?, World.frozen?, this]
theorem RefAt.listZ (hs : RefAt s rb ρ τ w aA cA vL vB) : ∃ a c, vL = .slice a ρ.rows.length c ∧ RowsZ (fun _ => True) w a c ρ.rows := by
  obtain ⟨cs, ho, _, hc⟩ := hs.list
  exact rowsZ_of_row ho (hc.keep (fun _ _ _ => rfl) (fun _ _ _ => trivial)) (fun _ _ => trivial)
theorem RefAt.bornZ (hs : RefAt s rb ρ τ w aA cA vL vB) : ∃ a c, vB = .slice a ρ.rows.length c ∧ IntsZ (fun _ => True) w a c ρ.born := by
  obtain ⟨a, c, e, h⟩ := intsZ_of_row hs.born.1
  rw [hs.len] at e
  exact ⟨a, c, e, h.zone fun _ _ => trivial⟩

set_option maxHeartbeats 1000000 in
theorem rints_own (aa : Option Addr) (ca : Nat) (xs : List Int) (w : World) (ha : Ints w aa xs) (hl : xs.length * 8 ≤ 140737488351232) :
    Calls Try.prog 69 #[.slice aa xs.length ca] w (OwnEnd xs w) := by
  have HA := Lib.hid ha
  clear ha
  go_enter Try.func69, Try.ntmps69
  go_wp2
  go_loopw [3, 4] (fun v i wr => ∃ k : Nat, k ≤ xs.length ∧ i = .int .i64 k ∧ wr.ownsRow w.heap.size 3 1 v k ((xs.take k).map (Value.int .i64)) ∧ Below w.heap.size w wr) (fun _ i _ => xs.length - (intOf i).toNat)
  case atStart => exact ⟨0, Nat.zero_le _, rfl, World.ownsRow_nil _ _ _ _, Below.refl _ _⟩
  case round =>
    obtain ⟨k, hk, rfl, hown, hbel⟩ := hrel
    by_cases hlt : k < xs.length
    · rcases HA.out with h | ⟨b, o, rfl, hc⟩
      · rw [h] at hlt; simp at hlt
      · obtain ⟨x, c0, HX⟩ := ints_at hc hlt
        have e0 := (hbel.cell (World.block_lt_of_cell? _ _ c0)).trans c0
        clear hc c0
        go_wp2_with (first | (at_builtin; refine wpList_append_any elemInt _ rfl _ _ rfl w.heap.size _ k _ rfl (hown.alloc _) (some ⟨wr.heap.size, 0, none⟩) 1 1 [.int .i64 x] rfl (source_new _ _ _) rfl (by simp [Value.oneCell']) (by unfold maxLen; omega) (by omega) (by have := hbel.size; simp; omega) ?_; intro v' w2 hown2 hgrow _))
        have hb4 : Below w.heap.size w w2 := (hbel.alloc hbel.size _).grown hgrow (by have := hbel.size; simp; omega) (fun j hj => by have := (hown.alloc (Obj.cells #[.int .i64 x] 3)).lt j hj; omega)
        go_wp2
        go_roundw
        case rel => exact ⟨k + 1, by omega, by go_num, by rw [take_snoc' HX.out]; simpa using hown2, hb4⟩
        case measure => simp [intOf]; omega
    · have hke : k = xs.length := by omega
      subst hke
      rw [List.take_length] at hown
      go_wp2
      go_ret
      exact ⟨_, rfl, hown, hbel⟩

set_option maxHeartbeats 2000000 in
theorem requal_any (p q : Int) (aa ab : Option Addr) (ca cb : Nat) (xs ys : List Int) (w : World) (ha : Ints w aa xs) (hb : Ints w ab ys) (hm : xs.length ≤ 9223372036854775807) :
    Calls Try.prog 53 #[.agg #[.int .i64 p, .slice aa xs.length ca], .agg #[.int .i64 q, .slice ab ys.length cb]] w fun e w' => e = .returned (.bool (decide ((p, xs) = (q, ys)))) ∧ Below w.heap.size w w' := by
  obtain ⟨W0, hW0⟩ : ∃ W, W = (w.alloc (.cells #[.int .i64 p, .slice aa xs.length ca] 28)).alloc (.cells #[.int .i64 q, .slice ab ys.length cb] 28) := ⟨_, rfl⟩
  have hbw : Below w.heap.size w W0 := by rw [hW0]; exact ((Below.refl _ _).alloc (Nat.le_refl _) _).alloc (by simp) _
  have x0 : W0.cell? ⟨w.heap.size, 0, none⟩ = some (.int .i64 p) := by rw [hW0]; simp
  have x1 : W0.cell? ⟨w.heap.size, 1, none⟩ = some (.slice aa xs.length ca) := by rw [hW0]; simp
  have y0 : W0.cell? ⟨w.heap.size + 1, 0, none⟩ = some (.int .i64 q) := by rw [hW0]; simp
  have y1 : W0.cell? ⟨w.heap.size + 1, 1, none⟩ = some (.slice ab ys.length cb) := by rw [hW0]; simp
  have HA := Lib.hid (ha.below hbw)
  have HB := Lib.hid (hb.below hbw)
  have HW0 := Lib.hid hW0
  clear ha hb hW0
  by_cases hpq : p = q
  · subst hpq
    by_cases hl : xs.length = ys.length
    · have hL := Lib.hid hl
      rw [← hl] at y1 HW0 ⊢
      clear hl
      go_enter Try.func53, Try.ntmps53
      go_upto_region 1 with fail
      rw [← HW0.out]
      go_wp2_with fail
      go_loopw [5] (fun i wr => ∃ k : Nat, k ≤ xs.length ∧ i = .int .i64 k ∧ Below W0.heap.size W0 wr ∧ Hid (xs.take k = ys.take k)) (fun i _ => xs.length - (intOf i).toNat)
      case atStart => exact ⟨0, Nat.zero_le _, rfl, Below.refl _ _, Lib.hid rfl⟩
      case round =>
        obtain ⟨k, hk, rfl, hbel, HT⟩ := hrel
        have z0 := on_cell hbel x1
        have z1 := on_cell hbel y1
        by_cases hlt : k < xs.length
        · have hlt2 : k < ys.length := by rw [← hL.out]; exact hlt
          rcases HA.out with h | ⟨ba, oa, rfl, hca⟩
          · rw [h] at hlt; simp at hlt
          · rcases HB.out with h | ⟨bb, ob, rfl, hcb⟩
            · rw [h] at hlt2; simp at hlt2
            · obtain ⟨x, c1, HX⟩ := ints_at hca hlt
              obtain ⟨y, c2, HY⟩ := ints_at hcb hlt2
              have d1 := on_cell hbel c1
              have d2 := on_cell hbel c2
              clear hlt2 hca hcb c1 c2
              by_cases hxy : x = y
              · subst hxy
                go_wp2
                go_quiet (fail)
                go_wp2
                go_roundw
                case rel => exact ⟨k + 1, by omega, by go_num, below_drewN hbel _, Lib.hid (take_same HT.out HX.out HY.out)⟩
                case measure => simp [intOf]; omega
              · have hne : (x != y) = true := by simpa using hxy
                go_wp2
                go_quiet (fail)
                go_wp2
                go_ret
                exact ⟨ret_bool (by simpa using ne_at HX.out HY.out hxy), hbw.trans ((below_drewN hbel _).mono hbw.size)⟩
        · go_wp2
          go_ret
          have e := HT.out
          have h2 := hL.out
          rw [List.take_of_length_le (by omega), List.take_of_length_le (by omega)] at e
          exact ⟨ret_bool (by simpa using e), hbw.trans (hbel.mono hbw.size)⟩
    · have hne : ((xs.length : Int) != (ys.length : Int)) = true := by simpa using (by omega : (xs.length : Int) ≠ ys.length)
      go_enter Try.func53, Try.ntmps53
      go_upto_region 1 with fail
      rw [← HW0.out]
      go_wp2
      go_ret
      exact ⟨ret_bool (by simp; intro h; exact hl (by rw [h])), hbw⟩
  · have hne : (p != q) = true := by simpa using hpq
    go_enter Try.func53, Try.ntmps53
    go_upto_region 1 with fail
    rw [← HW0.out]
    go_wp2
    go_ret
    exact ⟨ret_bool (by simp [hpq]), hbw⟩
end
end Go.Proofs.Ytgodidoibcomcaa
