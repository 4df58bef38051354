/-
  Lists of integers as a world holds them, and the comparison of two of them.
-/
import Derived.Test.YtkejjiohkhlnnaaRows
import Derived.WalkKit
import Derived.WalkSpells
import Derived.WalkLawsBesides
import Derived.Lib.Hide
import Derived.Deep.QuietTactic
import Derived.BigQuiet
import Derived.Deep.Draws
namespace Go.Proofs.Ytkejjiohkhlnnaa
open Go.RowKit

/-- the integers xs lie behind the slice's address -/
def Ints (w : World) (a : Option Addr) (xs : List Int) : Prop :=
  xs = [] ∨ ∃ b off, a = some ⟨b, off, none⟩ ∧ ∀ i (h : i < xs.length), w.cell? ⟨b, off + i, none⟩ = some (.int .i64 xs[i])

theorem Ints.nil (w : World) (a : Option Addr) : Ints w a [] := .inl rfl
theorem Ints.below {w w' : World} {a : Option Addr} {xs : List Int} (h : Ints w a xs) (hb : Below w.heap.size w w') : Ints w' a xs := by
  rcases h with h | ⟨b, off, ha, hc⟩
  · exact .inl h
  · refine .inr ⟨b, off, ha, fun i hi => ?_⟩
    have := hc i hi
    exact (hb.cell (World.block_lt_of_cell? _ _ this)).trans this
theorem Ints.drewN {w : World} {a : Option Addr} {xs : List Int} (h : Ints w a xs) (n : Nat) : Ints (w.drewN n) a xs := h

theorem below_drewN {B : Nat} {a w : World} (h : Below B a w) (n : Nat) : Below B a (w.drewN n) := ⟨h.os, h.tape, h.output, h.size, h.block⟩

theorem ret_bool {a b : Bool} (h : a = b) : Ending.returned (.bool a) = .returned (.bool b) := by rw [h]

theorem take_same {xs ys : List Int} {k : Nat} {x : Int} (h : xs.take k = ys.take k) (hx : xs[k]? = some x) (hy : ys[k]? = some x) : xs.take (k + 1) = ys.take (k + 1) := by
  rw [List.take_add_one, List.take_add_one, h, hx, hy]
theorem ne_at {xs ys : List Int} {k : Nat} {x y : Int} (hx : xs[k]? = some x) (hy : ys[k]? = some y) (hne : ¬ x = y) : xs ≠ ys := by
  rintro rfl
  rw [hx] at hy
  exact hne (Option.some.inj hy)
theorem ints_at {w : World} {b o : Nat} {xs : List Int} (h : ∀ i (h : i < xs.length), w.cell? ⟨b, o + i, none⟩ = some (.int .i64 xs[i])) {k : Nat} (hk : k < xs.length) :
    ∃ x, w.cell? ⟨b, o + k, none⟩ = some (.int .i64 x) ∧ Hid (xs[k]? = some x) :=
  ⟨xs[k], h k hk, Lib.hid (List.getElem?_eq_getElem hk)⟩

set_option maxHeartbeats 400000 in
theorem sameInts_any (aa ab : Option Addr) (ca cb : Nat) (xs ys : List Int) (w : World) (ha : Ints w aa xs) (hb : Ints w ab ys)
    (hm : xs.length ≤ 9223372036854775807) :
    Calls Try.prog 31 #[.slice aa xs.length ca, .slice ab ys.length cb] w fun e w' => e = .returned (.bool (decide (xs = ys))) ∧ ∃ n, w.drewN n = w' := by
  by_cases hl : xs.length = ys.length
  · rcases ha with rfl | ⟨ba, oa, rfl, ha⟩
    · have hy : ys = [] := List.eq_nil_of_length_eq_zero (by simpa using hl.symm)
      subst hy
      go_enter Try.func31, Try.ntmps31
      go_wp2
      go_loop [13] (fun i => i = .int .i64 0) (fun _ => 0)
      case atStart => rfl
      case round =>
        subst hrel
        go_wp2
        go_ret
        exact ⟨rfl, 0, rfl⟩
    · rcases hb with rfl | ⟨bb, ob, rfl, hb⟩
      · have hx : xs = [] := List.eq_nil_of_length_eq_zero (by simpa using hl)
        subst hx
        go_enter Try.func31, Try.ntmps31
        go_wp2
        go_loop [13] (fun i => i = .int .i64 0) (fun _ => 0)
        case atStart => rfl
        case round =>
          subst hrel
          go_wp2
          go_ret
          exact ⟨rfl, 0, rfl⟩
      · have hA := Lib.hid ha
        have hB := Lib.hid hb
        have hL := Lib.hid hl
        rw [← hl]
        clear ha hb hl
        go_enter Try.func31, Try.ntmps31
        go_wp2
        go_loopw [13] (fun i wr => ∃ k n : Nat, k ≤ xs.length ∧ i = .int .i64 k ∧ wr = w.drewN n ∧ Hid (xs.take k = ys.take k)) (fun i _ => xs.length - (intOf i).toNat)
        case atStart => exact ⟨0, 0, Nat.zero_le _, rfl, rfl, Lib.hid rfl⟩
        case round =>
          obtain ⟨k, n, hk, rfl, rfl, HT⟩ := hrel
          by_cases hlt : k < xs.length
          · have hlt2 : k < ys.length := by rw [← hL.out]; exact hlt
            obtain ⟨x, c1, HX⟩ := ints_at hA.out hlt
            obtain ⟨y, c2, HY⟩ := ints_at hB.out hlt2
            clear hlt2
            by_cases hxy : x = y
            · subst hxy
              go_wp2
              go_quiet (fail)
              go_wp2
              go_roundw
              case rel => exact ⟨k + 1, n + nq, by omega, by go_num, rfl, Lib.hid (take_same HT.out HX.out HY.out)⟩
              case measure => simp [intOf]; omega
            · have hne : (!(x == y)) = true := by simpa using hxy
              go_wp2
              go_quiet (fail)
              go_wp2
              go_ret
              exact ⟨ret_bool (by simpa using ne_at HX.out HY.out hxy), n + nq, by rw [World.drewN_drewN]⟩
          · go_wp2
            go_ret
            have e := HT.out
            have h2 := hL.out
            rw [List.take_of_length_le (by omega), List.take_of_length_le (by omega)] at e
            exact ⟨ret_bool (by simpa using e), n, rfl⟩
  · have hne : (((xs.length : Int)) != (ys.length : Int)) = true := by simpa using (by omega : (xs.length : Int) ≠ ys.length)
    go_enter Try.func31, Try.ntmps31
    go_wp2
    go_ret
    exact ⟨ret_bool (by simp; intro h; exact hl (by rw [h])), 0, rfl⟩
end Go.Proofs.Ytkejjiohkhlnnaa
