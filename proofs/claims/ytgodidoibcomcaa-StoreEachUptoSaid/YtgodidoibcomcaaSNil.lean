/-
  What the calls answer at a store that is none.
-/
import Derived.Test.YtgodidoibcomcaaSTry
namespace Go.Proofs.Ytgodidoibcomcaa
open Go.RowKit

set_option maxHeartbeats 1000000
theorem add_nil (a : Option Addr) (n c : Nat) (w : World) : Calls Try.prog 16 #[.pointer none, .slice a n c] w fun e w' => e = .returned (.tuple #[.int .i64 0, .int .i64 0]) ∧ w' = w := by
  go_enter Try.func16, Try.ntmps16
  go_wp2
  go_ret2
  exact ⟨rfl, rfl⟩
theorem num_nil (p : Int) (a : Option Addr) (n c : Nat) (w : World) : Calls Try.prog 39 #[.pointer none, .agg #[.int .i64 p, .slice a n c]] w fun e w' => e = .returned (.int .i64 0) ∧ Below w.heap.size w w' := by
  go_enter Try.func39, Try.ntmps39
  go_wp2
  go_ret
  exact ⟨rfl, (Below.refl _ _).alloc (Nat.le_refl _) _⟩
theorem has_nil (p : Int) (a : Option Addr) (n c : Nat) (w : World) : Calls Try.prog 46 #[.pointer none, .agg #[.int .i64 p, .slice a n c]] w fun e w' => e = .returned (.bool false) ∧ Below w.heap.size w w' := by
  go_enter Try.func46, Try.ntmps46
  go_wp2
  go_ret
  exact ⟨rfl, (Below.refl _ _).alloc (Nat.le_refl _) _⟩
theorem len_nil (w : World) : Calls Try.prog 21 #[.pointer none] w fun e w' => e = .returned (.int .i64 0) ∧ w' = w := by
  go_enter Try.func21, Try.ntmps21
  go_wp2
  go_ret
  exact ⟨rfl, rfl⟩
theorem row_nil (i : Int) (w : World) : Calls Try.prog 34 #[.pointer none, .int .i64 i] w fun e w' => e = .returned (.tuple #[.agg #[.int .i64 0, .slice none 0 0], .int .i64 0]) ∧ Below w.heap.size w w' := by
  go_enter Try.func34, Try.ntmps34
  go_wp2
  exact bodyPost_ret (v := .tuple #[.agg #[.int .i64 0, .slice none 0 0], .int .i64 0]) (by simp [results, Try.results34, go_sem]) rfl ⟨rfl, (Below.refl _ _).alloc (Nat.le_refl _) _⟩
theorem each_nil (i : Int) (w : World) : Calls Try.prog 32 #[.pointer none, .int .i64 i, .nilFunc] w fun e w' => e = .returned (.tuple #[]) ∧ w' = w := by
  go_enter Try.func32, Try.ntmps32
  go_wp2
  first
    | refine bodyPost_end (v := .tuple #[]) (results_none Try.results32 _ _ _) rfl ?_
    | refine bodyPost_ret (v := .tuple #[]) (results_none Try.results32 _ _ _) rfl ?_
  exact ⟨rfl, rfl⟩
theorem of_nil (i : Int) (w : World) : Calls Try.prog 36 #[.pointer none, .int .i64 i] w fun e w' => e = .returned (.slice none 0 0) ∧ w' = w := by
  go_enter Try.func36, Try.ntmps36
  go_wp2
  go_ret
  exact ⟨rfl, rfl⟩
theorem where_nil (i j k : Int) (w : World) : Calls Try.prog 19 #[.pointer none, .int .i64 i, .int .i64 j, .int .i64 k] w fun e w' => e = .returned (.slice none 0 0) ∧ w' = w := by
  go_enter Try.func19, Try.ntmps19
  go_wp2
  go_ret
  exact ⟨rfl, rfl⟩
theorem undo_nil (i : Int) (w : World) : Calls Try.prog 20 #[.pointer none, .int .i64 i] w fun e w' => e = .returned (.int .i64 0) ∧ w' = w := by
  go_enter Try.func20, Try.ntmps20
  go_wp2
  go_ret
  exact ⟨rfl, rfl⟩
theorem copy_nil (w : World) : Calls Try.prog 22 #[.pointer none] w fun e w' => e = .returned (.pointer none) ∧ w' = w := by
  go_enter Try.func22, Try.ntmps22
  go_wp2
  go_ret
  exact ⟨rfl, rfl⟩
theorem try_nil (w : World) : Calls Try.prog 23 #[.pointer none, .nilFunc] w fun e w' => e = .returned (.bool false) ∧ Below w.heap.size w w' := by
  go_enter_defers Try.func23, Try.ntmps23
  go_wp2
  simp [bodyPostD, Leaves, results, Try.results23, go_sem]
  exact ((Below.refl _ _).alloc (Nat.le_refl _) _).alloc (by simp) _
end Go.Proofs.Ytgodidoibcomcaa
