/-
  What a slot stands for under a substitution: the program's bound and value, the reference's value: one plain function.
-/
import Derived.Test.YtkejjiohkhlnnaaInts
namespace Go.Proofs.Ytkejjiohkhlnnaa
open Go.RowKit
namespace Mt

/-- what variable n is bound to, or -1 -/
def boundL (sub : List Int) (n : Int) : Int := if n < 0 then -1 else match sub[n.toNat]? with | none => -1 | some x => if x < 0 then -1 else x
/-- the id of a slot, or -1 -/
def valueL (v : Bool) (n : Int) (sub : List Int) : Int := if n < 0 then -1 else if v then boundL sub n else n

theorem boundL_neg {sub : List Int} {n : Int} (h : n < 0) : boundL sub n = -1 := by simp [boundL, h]
theorem boundL_out {sub : List Int} {n : Nat} (h : sub.length ≤ n) : boundL sub (n : Int) = -1 := by
  have : ¬ ((n : Int) < 0) := by omega
  simp [boundL, this, List.getElem?_eq_none h]
theorem boundL_in {sub : List Int} {n : Nat} {x : Int} (h : sub[n]? = some x) : boundL sub (n : Int) = if x < 0 then -1 else x := by
  have : ¬ ((n : Int) < 0) := by omega
  simp [boundL, this, h]

set_option maxHeartbeats 1000000 in
theorem bound_any (aa : Option Addr) (ca : Nat) (sub : List Int) (n : Int) (w : World) (ha : Ints w aa sub) (hm : sub.length ≤ 9223372036854775807) :
    Calls Try.prog 63 #[.slice aa sub.length ca, .int .i64 n] w fun e w' => e = .returned (.int .i64 (boundL sub n)) ∧ w = w' := by
  by_cases h0 : n < 0
  · rw [boundL_neg h0]
    clear ha
    go_enter Try.func63, Try.ntmps63
    go_wp2
    go_ret
    exact ⟨rfl, rfl⟩
  · obtain ⟨k, rfl⟩ := Int.eq_ofNat_of_zero_le (show 0 ≤ n by omega)
    have h0' : ¬ ((k : Int) < 0) := by omega
    by_cases h1 : k < sub.length
    · have d1 : decide ((sub.length : Int) ≤ (k : Int)) = false := by simp; omega
      rcases ha with rfl | ⟨b, o, rfl, hc⟩
      · simp at h1
      · obtain ⟨x, c1, HX⟩ := ints_at hc h1
        rw [boundL_in HX.out]
        clear hc HX h0
        by_cases hx : x < 0
        · have d2 : decide (x < 0) = true := by simpa using hx
          rw [if_pos hx]
          go_enter Try.func63, Try.ntmps63
          go_wp2
          go_ret
          exact ⟨rfl, rfl⟩
        · have d2 : decide (x < 0) = false := by simpa using hx
          rw [if_neg hx]
          go_enter Try.func63, Try.ntmps63
          go_wp2
          go_ret
          exact ⟨rfl, rfl⟩
    · have d1 : decide ((sub.length : Int) ≤ (k : Int)) = true := by simp; omega
      rw [boundL_out (by omega)]
      clear ha h0
      go_enter Try.func63, Try.ntmps63
      go_wp2
      go_ret
      exact ⟨rfl, rfl⟩

set_option maxHeartbeats 1000000 in
theorem value_any (aa : Option Addr) (ca : Nat) (sub : List Int) (v : Bool) (n : Int) (w : World) (ha : Ints w aa sub) (hm : sub.length ≤ 9223372036854775807) :
    Calls Try.prog 62 #[.agg #[.bool v, .int .i64 n], .slice aa sub.length ca] w fun e w' => e = .returned (.int .i64 (valueL v n sub)) ∧ Below w.heap.size w w' := by
  cases v with
  | true =>
    have hv : valueL true n sub = boundL sub n := by
      unfold valueL
      split
      · rename_i h; exact (boundL_neg h).symm
      · rfl
    rw [hv]
    have hA : Ints (w.alloc (.cells #[.bool true, .int .i64 n] 58)) aa sub := ha.below ((Below.refl _ _).alloc (Nat.le_refl _) _)
    have cB := fun W h => Lib.hid (bound_any aa ca sub n W h hm)
    generalize boundL sub n = x at *
    clear ha hv
    have HA := Lib.hid hA
    clear hA
    go_enter Try.func62, Try.ntmps62
    go_wp2_with fail
    refine (cB _ HA.out).out.mono ?_
    rintro e w' ⟨rfl, rfl⟩
    go_wp2
    go_ret
    exact ⟨rfl, (Below.refl _ _).alloc (Nat.le_refl _) _⟩
  | false =>
    clear ha
    by_cases h0 : n < 0
    · have hv : valueL false n sub = -1 := by simp [valueL, h0]
      rw [hv]
      clear hv
      by_cases h1 : n = -1
      · subst h1
        go_enter Try.func62, Try.ntmps62
        go_wp2
        go_ret
        exact ⟨rfl, (Below.refl _ _).alloc (Nat.le_refl _) _⟩
      · have h2 : n < -1 := by omega
        clear h0 h1
        go_enter Try.func62, Try.ntmps62
        go_wp2
        go_ret
        exact ⟨rfl, (Below.refl _ _).alloc (Nat.le_refl _) _⟩
    · have hv : valueL false n sub = n := by simp [valueL, h0]
      rw [hv]
      clear hv
      go_enter Try.func62, Try.ntmps62
      go_wp2
      go_ret
      exact ⟨rfl, (Below.refl _ _).alloc (Nat.le_refl _) _⟩

end Mt
end Go.Proofs.Ytkejjiohkhlnnaa
