/-
  What the calls answer at a store that is none.
-/
import Derived.Test.YtkejjiohkhlnnaaSTry
namespace Go.Proofs.Ytkejjiohkhlnnaa
open Go.RowKit

set_option maxHeartbeats 1000000
theorem add_nil (a : Option Addr) (n c : Nat) (w : World) : Calls Try.prog 21 #[.pointer none, .slice a n c] w fun e w' => e = .returned (.tuple #[.int .i64 0, .int .i64 0]) ∧ w' = w := by
  go_enter Try.func21, Try.ntmps21
  go_wp2
  go_ret2
  exact ⟨rfl, rfl⟩
theorem num_nil (p : Int) (a : Option Addr) (n c : Nat) (w : World) : Calls Try.prog 51 #[.pointer none, .agg #[.int .i64 p, .slice a n c]] w fun e w' => e = .returned (.int .i64 0) ∧ Below w.heap.size w w' := by
  go_enter Try.func51, Try.ntmps51
  go_wp2
  go_ret
  exact ⟨rfl, (Below.refl _ _).alloc (Nat.le_refl _) _⟩
theorem has_nil (p : Int) (a : Option Addr) (n c : Nat) (w : World) : Calls Try.prog 19 #[.pointer none, .agg #[.int .i64 p, .slice a n c]] w fun e w' => e = .returned (.bool false) ∧ Below w.heap.size w w' := by
  go_enter Try.func19, Try.ntmps19
  go_wp2
  go_ret
  exact ⟨rfl, (Below.refl _ _).alloc (Nat.le_refl _) _⟩
theorem len_nil (w : World) : Calls Try.prog 35 #[.pointer none] w fun e w' => e = .returned (.int .i64 0) ∧ w' = w := by
  go_enter Try.func35, Try.ntmps35
  go_wp2
  go_ret
  exact ⟨rfl, rfl⟩
theorem row_nil (i : Int) (w : World) : Calls Try.prog 36 #[.pointer none, .int .i64 i] w fun e w' => e = .returned (.tuple #[.agg #[.int .i64 0, .slice none 0 0], .int .i64 0]) ∧ Below w.heap.size w w' := by
  go_enter Try.func36, Try.ntmps36
  go_wp2
  exact bodyPost_ret (v := .tuple #[.agg #[.int .i64 0, .slice none 0 0], .int .i64 0]) (by simp [results, Try.results36, go_sem]) rfl ⟨rfl, (Below.refl _ _).alloc (Nat.le_refl _) _⟩
theorem of_nil (i : Int) (w : World) : Calls Try.prog 84 #[.pointer none, .int .i64 i] w fun e w' => e = .returned (.slice none 0 0) ∧ w' = w := by
  go_enter Try.func84, Try.ntmps84
  go_wp2
  go_ret
  exact ⟨rfl, rfl⟩
theorem where_nil (i j k : Int) (w : World) : Calls Try.prog 83 #[.pointer none, .int .i64 i, .int .i64 j, .int .i64 k] w fun e w' => e = .returned (.slice none 0 0) ∧ w' = w := by
  go_enter Try.func83, Try.ntmps83
  go_wp2
  go_ret
  exact ⟨rfl, rfl⟩
end Go.Proofs.Ytkejjiohkhlnnaa
