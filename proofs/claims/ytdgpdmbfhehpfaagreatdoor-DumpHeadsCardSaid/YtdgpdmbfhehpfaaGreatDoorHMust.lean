/-
  A refusal is a panic that Head catches.
-/
import Derived.Test.YtdgpdmbfhehpfaaGreatDoorProg
import Derived.WalkKit
import Derived.WalkSpells
import Derived.WalkLawsBesides
import Derived.Lib.Hide
import Derived.Defers
import Derived.Recover
import Derived.Below
import Derived.Shelf.Strings.Prefix
namespace Go.Proofs.YtdgpdmbfhehpfaaGreatDoor
open Go.RowKit

def broken (e : Int) : Value := .iface 49 (.int .i64 e)

theorem must_true (e : Int) (w : World) : Calls Tryz.prog 17 #[.bool true, .int .i64 e] w fun x w' => x = .returned (.tuple #[]) ∧ w' = w := by
  go_enter Tryz.func17, Tryz.ntmps17
  go_wp2
  go_end0
  exact ⟨rfl, rfl⟩

theorem must_false (e : Int) (w : World) : Calls Tryz.prog 17 #[.bool false, .int .i64 e] w fun x w' => x = .panicked [{ v := broken e, recovered := false }] ∧ w' = w := by
  go_enter Tryz.func17, Tryz.ntmps17
  go_wp2
  simp [bodyPost, broken]

theorem caught_nil (p : Addr) (w : World) : Calls Tryz.prog 9 #[.nilIface, .pointer (some p)] w fun x w' => x = .returned (.tuple #[]) ∧ w' = w := by
  go_enter Tryz.func9, Tryz.ntmps9
  go_wp2
  exact bodyPost_ret (results_none rfl _ _ _) rfl ⟨rfl, rfl⟩

theorem caught_broken (b : Nat) (e : Int) (v : Value) (w : World) (hc : w.cell? ⟨b, 0, none⟩ = some v) (hz : w.frozen? ⟨b, 0, none⟩ = false) : Calls Tryz.prog 9 #[broken e, .pointer (some ⟨b, 0, none⟩)] w fun x w' => x = .returned (.tuple #[]) ∧ w' = w.setCell ⟨b, 0, none⟩ (.int .i64 e) := by
  unfold broken
  have hta : ∀ w : World, (Instr.typeAssert (.iface 49 (.int .i64 e)) 20 49 true).run Tryz.prog w = .ok (.tuple #[.int .i64 e, .bool true]) w := fun w => by
    simp [Instr.typeAssert, run_underlying Tryz.underlying49]
  go_enter Tryz.func9, Tryz.ntmps9
  go_wp2
  go_end0
  exact ⟨rfl, rfl⟩

/-- Head's closure, where Head panics -/
theorem head1_broken (b1 b2 b3 b4 : Nat) (e : Int) (he : e ≠ 0) (n12 : b1 ≠ b2) (n13 : b1 ≠ b3) (n14 : b1 ≠ b4) (n23 : b2 ≠ b3) (n24 : b2 ≠ b4) (n34 : b3 ≠ b4) (older : List PanicEntry) (w : World) (v1 v2 v3 v4 : Value) (h1 : w.cell? ⟨b1, 0, none⟩ = some v1) (h2 : w.cell? ⟨b2, 0, none⟩ = some v2) (h3 : w.cell? ⟨b3, 0, none⟩ = some v3) (h4 : w.cell? ⟨b4, 0, none⟩ = some v4)
    (f1 : w.frozen? ⟨b1, 0, none⟩ = false) (f2 : w.frozen? ⟨b2, 0, none⟩ = false) (f3 : w.frozen? ⟨b3, 0, none⟩ = false) (f4 : w.frozen? ⟨b4, 0, none⟩ = false) :
    CallsD Tryz.prog 8 #[.pointer (some ⟨b1, 0, none⟩), .pointer (some ⟨b2, 0, none⟩), .pointer (some ⟨b3, 0, none⟩), .pointer (some ⟨b4, 0, none⟩)] (.panicking ({ v := broken e, recovered := false } :: older)) w fun x u' w' =>
      x = .returned (.tuple #[]) ∧ u' = .panicking ({ v := broken e, recovered := true } :: older) ∧ w' = (((w.setCell ⟨b1, 0, none⟩ (.int .i64 e)).setCell ⟨b2, 0, none⟩ (.string ⟨#[]⟩)).setCell ⟨b3, 0, none⟩ (.string ⟨#[]⟩)).setCell ⟨b4, 0, none⟩ (.int .i64 0) := by
  refine callsD_of_wpS Tryz.func8 rfl fun c₀ cs hu => ?_
  apply wpS_seq
  apply wpS_region
  simp [wpOpsS, go_sem, recoverD, hu, Tryz.ntmps8, Exit.thenS]
  refine (caught_broken b1 e v1 w h1 f1).mono ?_
  rintro x w' ⟨rfl, rfl⟩
  have g1 : (w.setCell ⟨b1, 0, none⟩ (.int .i64 e)).cell? ⟨b1, 0, none⟩ = some (.int .i64 e) := World.cell?_setCell_same _ _ _ h1
  apply wpS_seq
  apply wpS_region
  simp [wpOpsS, go_sem, g1, Exit.thenS]
  refine wpS_cond (t := true) (by simp [Act.eval, he]) ?_
  simp only [if_true]
  apply wpS_region
  have k2 : (w.setCell ⟨b1, 0, none⟩ (.int .i64 e)).cell? ⟨b2, 0, none⟩ = some v2 := by rw [World.cell?_setCell_other _ _ _ _ (by intro h; exact n12 (congrArg Addr.block h))]; exact h2
  have k3 : ((w.setCell ⟨b1, 0, none⟩ (.int .i64 e)).setCell ⟨b2, 0, none⟩ (.string ⟨#[]⟩)).cell? ⟨b3, 0, none⟩ = some v3 := by
    rw [World.cell?_setCell_other _ _ _ _ (by intro h; exact n23 (congrArg Addr.block h)), World.cell?_setCell_other _ _ _ _ (by intro h; exact n13 (congrArg Addr.block h))]; exact h3
  have k4 : (((w.setCell ⟨b1, 0, none⟩ (.int .i64 e)).setCell ⟨b2, 0, none⟩ (.string ⟨#[]⟩)).setCell ⟨b3, 0, none⟩ (.string ⟨#[]⟩)).cell? ⟨b4, 0, none⟩ = some v4 := by
    rw [World.cell?_setCell_other _ _ _ _ (by intro h; exact n34 (congrArg Addr.block h)), World.cell?_setCell_other _ _ _ _ (by intro h; exact n24 (congrArg Addr.block h)), World.cell?_setCell_other _ _ _ _ (by intro h; exact n14 (congrArg Addr.block h))]; exact h4
  simp [wpOpsS, go_sem, k2, k3, k4, f2, f3, f4, bodyPostS, results, Tryz.results8]

/-- Head's closure, where Head returns without an error -/
theorem head1_idle (b1 b2 b3 b4 : Nat) (w : World) (h1 : w.cell? ⟨b1, 0, none⟩ = some (.int .i64 0)) :
    CallsD Tryz.prog 8 #[.pointer (some ⟨b1, 0, none⟩), .pointer (some ⟨b2, 0, none⟩), .pointer (some ⟨b3, 0, none⟩), .pointer (some ⟨b4, 0, none⟩)] .returning w fun x u' w' => x = .returned (.tuple #[]) ∧ u' = .returning ∧ w' = w := by
  refine callsD_of_wpS Tryz.func8 rfl fun c₀ cs hu => ?_
  apply wpS_seq
  apply wpS_region
  simp [wpOpsS, go_sem, recoverD, hu, Tryz.ntmps8, Exit.thenS]
  refine (caught_nil ⟨b1, 0, none⟩ w).mono ?_
  rintro x w' ⟨rfl, rfl⟩
  apply wpS_seq
  apply wpS_region
  simp [wpOpsS, go_sem, h1, Exit.thenS]
  refine wpS_cond (t := false) (by simp [Act.eval]) ?_
  simp only [Bool.false_eq_true, if_false]
  refine wpS_of_wp (wp_skip ?_)
  cases c₀
  simp_all [bodyPostS, results, Tryz.results8]

end Go.Proofs.YtdgpdmbfhehpfaaGreatDoor
