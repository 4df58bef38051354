/-
  dump.Head of any bytes.
-/
import Derived.Test.YtdgpdmbfhehpfaaGreatDoorHParts
namespace Go.Proofs.YtdgpdmbfhehpfaaGreatDoor
open Go.RowKit
set_option linter.all false

def HeadOut (d : ByteArray) (e : Ending) : Prop :=
  (refuse d = 0 ∧ e = .returned (.tuple #[.string (d.extract 32 (32 + nA d)), .string (d.extract (32 + nA d) (32 + nA d + nB d)), .int .i64 (nN d : Nat), .int .i64 0])) ∨
  (refuse d ≠ 0 ∧ e = .returned (.tuple #[.string ⟨#[]⟩, .string ⟨#[]⟩, .int .i64 0, .int .i64 (refuse d : Nat)]))

/-- the four results -/
structure Four (w : World) (N : Nat) (v1 v2 v3 v4 : Value) : Prop where
  c1 : w.cell? ⟨N, 0, none⟩ = some v1
  c2 : w.cell? ⟨N + 1, 0, none⟩ = some v2
  c3 : w.cell? ⟨N + 2, 0, none⟩ = some v3
  c4 : w.cell? ⟨N + 3, 0, none⟩ = some v4
  f1 : w.frozen? ⟨N, 0, none⟩ = false
  f2 : w.frozen? ⟨N + 1, 0, none⟩ = false
  f3 : w.frozen? ⟨N + 2, 0, none⟩ = false
  f4 : w.frozen? ⟨N + 3, 0, none⟩ = false

theorem Four.keep {w w' : World} {N : Nat} {v1 v2 v3 v4 : Value} (h : Four w N v1 v2 v3 v4) (hb : Below w.heap.size w w') : Four w' N v1 v2 v3 v4 := by
  have l1 := World.block_lt_of_cell? _ _ h.c1
  have l2 := World.block_lt_of_cell? _ _ h.c2
  have l3 := World.block_lt_of_cell? _ _ h.c3
  have l4 := World.block_lt_of_cell? _ _ h.c4
  exact ⟨(hb.cell l1).trans h.c1, (hb.cell l2).trans h.c2, (hb.cell l3).trans h.c3, (hb.cell l4).trans h.c4, (hb.frozen l1).trans h.f1, (hb.frozen l2).trans h.f2, (hb.frozen l3).trans h.f3, (hb.frozen l4).trans h.f4⟩

theorem nN_small {d : ByteArray} (h : refuse d = 0) : nN d ≤ d.size := by
  unfold refuse at h
  split at h
  · cases h
  · split at h
    · cases h
    · split at h
      · cases h
      · split at h
        · cases h
        · split at h
          · cases h
          · split at h
            · cases h
            · rename_i h6
              simp only [Classical.not_not] at h6
              omega

theorem parts_ok (d : ByteArray) (w : World) (hsz : d.size ≤ 140737488351232) (hT : Tabbed w) (h0 : 0 < w.heap.size) (h : refuse d = 0) :
    Calls Tryz.prog 10 #[.string d] w fun e w' => e = .returned (.tuple #[.string (d.extract 32 (32 + nA d)), .string (d.extract (32 + nA d) (32 + nA d + nB d)), .int .u64 (nN d : Nat), .string (d.extract (32 + nA d + nB d) (d.size - 4))]) ∧ Below w.heap.size w w' :=
  (parts_any d w hsz hT h0).mono fun _ _ ⟨hp, hb⟩ => ⟨(hp.resolve_right fun x => x.1 h).2, hb⟩

theorem parts_bad (d : ByteArray) (w : World) (hsz : d.size ≤ 140737488351232) (hT : Tabbed w) (h0 : 0 < w.heap.size) (h : refuse d ≠ 0) :
    Calls Tryz.prog 10 #[.string d] w fun e w' => e = .panicked [{ v := broken (refuse d : Nat), recovered := false }] ∧ Below w.heap.size w w' :=
  (parts_any d w hsz hT h0).mono fun _ _ ⟨hp, hb⟩ => ⟨(hp.resolve_left fun x => h x.1).2, hb⟩

def w4 (w : World) : World := (((w.alloc (.cells #[.string ⟨#[]⟩] 9)).alloc (.cells #[.string ⟨#[]⟩] 9)).alloc (.cells #[.int .i64 0] 3)).alloc (.cells #[.int .i64 0] 22)

theorem four_new (w : World) : Four (w4 w) w.heap.size (.string ⟨#[]⟩) (.string ⟨#[]⟩) (.int .i64 0) (.int .i64 0) ∧ Below w.heap.size w (w4 w) := by
  refine ⟨⟨?_, ?_, ?_, ?_, ?_, ?_, ?_, ?_⟩, ?_⟩
  all_goals first | (simp [w4, go_sem]; done) | skip
  have B := (Below.refl w.heap.size w)
  have b1 := B.alloc (Nat.le_refl _) (.cells #[.string ⟨#[]⟩] 9)
  have b2 := b1.alloc b1.size (.cells #[.string ⟨#[]⟩] 9)
  have b3 := b2.alloc b2.size (.cells #[.int .i64 0] 3)
  exact b3.alloc b3.size _

theorem Four.set1 {w : World} {N : Nat} {v1 v2 v3 v4 : Value} (F : Four w N v1 v2 v3 v4) (u : Value) : Four (w.setCell ⟨N, 0, none⟩ u) N u v2 v3 v4 := by
  have f1 := F.f1
  have f2 := F.f2
  have f3 := F.f3
  have f4 := F.f4
  refine ⟨?_, ?_, ?_, ?_, by simp [go_sem, f1], by simp [go_sem, f2], by simp [go_sem, f3], by simp [go_sem, f4]⟩
  · exact World.cell?_setCell_same _ _ _ F.c1
  · rw [World.cell?_setCell_other _ _ _ _ (by intro h; have := congrArg Addr.block h; simp at this)]; exact F.c2
  · rw [World.cell?_setCell_other _ _ _ _ (by intro h; have := congrArg Addr.block h; simp at this)]; exact F.c3
  · rw [World.cell?_setCell_other _ _ _ _ (by intro h; have := congrArg Addr.block h; simp at this)]; exact F.c4

theorem Four.set2 {w : World} {N : Nat} {v1 v2 v3 v4 : Value} (F : Four w N v1 v2 v3 v4) (u : Value) : Four (w.setCell ⟨N + 1, 0, none⟩ u) N v1 u v3 v4 := by
  have f1 := F.f1
  have f2 := F.f2
  have f3 := F.f3
  have f4 := F.f4
  refine ⟨?_, ?_, ?_, ?_, by simp [go_sem, f1], by simp [go_sem, f2], by simp [go_sem, f3], by simp [go_sem, f4]⟩
  · rw [World.cell?_setCell_other _ _ _ _ (by intro h; have := congrArg Addr.block h; simp at this)]; exact F.c1
  · exact World.cell?_setCell_same _ _ _ F.c2
  · rw [World.cell?_setCell_other _ _ _ _ (by intro h; have := congrArg Addr.block h; simp at this)]; exact F.c3
  · rw [World.cell?_setCell_other _ _ _ _ (by intro h; have := congrArg Addr.block h; simp at this)]; exact F.c4

theorem Four.set3 {w : World} {N : Nat} {v1 v2 v3 v4 : Value} (F : Four w N v1 v2 v3 v4) (u : Value) : Four (w.setCell ⟨N + 2, 0, none⟩ u) N v1 v2 u v4 := by
  have f1 := F.f1
  have f2 := F.f2
  have f3 := F.f3
  have f4 := F.f4
  refine ⟨?_, ?_, ?_, ?_, by simp [go_sem, f1], by simp [go_sem, f2], by simp [go_sem, f3], by simp [go_sem, f4]⟩
  · rw [World.cell?_setCell_other _ _ _ _ (by intro h; have := congrArg Addr.block h; simp at this)]; exact F.c1
  · rw [World.cell?_setCell_other _ _ _ _ (by intro h; have := congrArg Addr.block h; simp at this)]; exact F.c2
  · exact World.cell?_setCell_same _ _ _ F.c3
  · rw [World.cell?_setCell_other _ _ _ _ (by intro h; have := congrArg Addr.block h; simp at this)]; exact F.c4

theorem Four.set4 {w : World} {N : Nat} {v1 v2 v3 v4 : Value} (F : Four w N v1 v2 v3 v4) (u : Value) : Four (w.setCell ⟨N + 3, 0, none⟩ u) N v1 v2 v3 u := by
  have f1 := F.f1
  have f2 := F.f2
  have f3 := F.f3
  have f4 := F.f4
  refine ⟨?_, ?_, ?_, ?_, by simp [go_sem, f1], by simp [go_sem, f2], by simp [go_sem, f3], by simp [go_sem, f4]⟩
  · rw [World.cell?_setCell_other _ _ _ _ (by intro h; have := congrArg Addr.block h; simp at this)]; exact F.c1
  · rw [World.cell?_setCell_other _ _ _ _ (by intro h; have := congrArg Addr.block h; simp at this)]; exact F.c2
  · rw [World.cell?_setCell_other _ _ _ _ (by intro h; have := congrArg Addr.block h; simp at this)]; exact F.c3
  · exact World.cell?_setCell_same _ _ _ F.c4

set_option maxHeartbeats 2000000 in
theorem head_ok (d : ByteArray) (w : World) (hsz : d.size ≤ 140737488351232) (hT : Tabbed w) (h0 : 0 < w.heap.size) (h : refuse d = 0) :
    Calls Tryz.prog 5 #[.string d] w fun e w' => HeadOut d e ∧ Below w.heap.size w w' := by
  have hmf : ∀ (fn : Fn) (first cap : Array Value) (w : World), (Instr.makeFunc fn first cap).run Tryz.prog w = .ok (.func fn first cap) w := fun _ _ _ _ => rfl
  go_enter_defers Tryz.func5, Tryz.ntmps5
  go_upto_region 0 with fail
  go_cut [2, 3, 4, 5] from 6 to 22 (fun v2 v3 v4 v5 wx => v2 = .pointer (some ⟨w.heap.size, 0, none⟩) ∧ v3 = .pointer (some ⟨w.heap.size + 1, 0, none⟩) ∧ v4 = .pointer (some ⟨w.heap.size + 2, 0, none⟩) ∧ v5 = .pointer (some ⟨w.heap.size + 3, 0, none⟩) ∧ Four wx w.heap.size (.string ⟨#[]⟩) (.string ⟨#[]⟩) (.int .i64 0) (.int .i64 0) ∧ Below w.heap.size w wx)
  case first =>
    go_wp2_with fail
    all_goals go_meet
    exact ⟨rfl, rfl, rfl, rfl, four_new w⟩
  case rest =>
  obtain ⟨rfl, rfl, rfl, rfl, F, bel⟩ := hcut
  go_upto_region 3 with (go_at_call 10; (with_reducible refine (parts_ok _ _ hsz (hT.keep h0 bel) (Nat.lt_of_lt_of_le h0 bel.size) h).mono ?_); rintro e wp ⟨rfl, bel2⟩)
  have F2 := F.keep bel2
  have bel3 := bel.trans (bel2.mono bel.size)
  obtain ⟨M, hM⟩ : ∃ M, nN d = M := ⟨_, rfl⟩
  have hMs := nN_small h
  rw [hM] at hMs
  have iM : IntKind.i64.wrap (M : Int) = (M : Int) := by rw [IntKind.wrap_i64]; omega
  rw [hM]
  have c1 := F2.c1
  have c2 := F2.c2
  have c3 := F2.c3
  have c4 := F2.c4
  have f1 := F2.f1
  have f2 := F2.f2
  have f3 := F2.f3
  have f4 := F2.f4
  go_wp2_with fail
  have G := (((F2.set1 (.string (d.extract 32 (32 + nA d)))).set2 (.string (d.extract (32 + nA d) (32 + nA d + nB d)))).set3 (.int .i64 (M : Int))).set4 (.int .i64 0)
  have bel4 := (((bel3.setCell (p := ⟨w.heap.size, 0, none⟩) (Nat.le_refl _) (.string (d.extract 32 (32 + nA d)))).setCell (p := ⟨w.heap.size + 1, 0, none⟩) (Nat.le_add_right _ _) (.string (d.extract (32 + nA d) (32 + nA d + nB d)))).setCell (p := ⟨w.heap.size + 2, 0, none⟩) (Nat.le_add_right _ _) (.int .i64 (M : Int))).setCell (p := ⟨w.heap.size + 3, 0, none⟩) (Nat.le_add_right _ _) (.int .i64 0)
  clear hmf
  revert G bel4
  generalize (((wp.setCell _ _).setCell _ _).setCell _ _).setCell _ _ = wz
  intro G bel4
  have g1 := G.c1
  have g2 := G.c2
  have g3 := G.c3
  have g4 := G.c4
  show Leaves _ _ _ _ _ _ _
  refine leaves_cons (f := 8) (args := #[.pointer (some ⟨w.heap.size + 3, 0, none⟩), .pointer (some ⟨w.heap.size, 0, none⟩), .pointer (some ⟨w.heap.size + 1, 0, none⟩), .pointer (some ⟨w.heap.size + 2, 0, none⟩)]) (by simp) (by simp [go_sem]) ?_
  refine (head1_idle _ _ _ _ wz g4).mono ?_
  rintro x u' w'' ⟨rfl, rfl, rfl⟩
  simp [Leaves, settle, results, Tryz.results5, go_sem, g1, g2, g3, g4]
  exact ⟨.inl ⟨h, by rw [hM]⟩, bel4⟩

set_option maxHeartbeats 2000000 in
theorem head_bad (d : ByteArray) (w : World) (hsz : d.size ≤ 140737488351232) (hT : Tabbed w) (h0 : 0 < w.heap.size) (h : refuse d ≠ 0) :
    Calls Tryz.prog 5 #[.string d] w fun e w' => HeadOut d e ∧ Below w.heap.size w w' := by
  have hmf : ∀ (fn : Fn) (first cap : Array Value) (w : World), (Instr.makeFunc fn first cap).run Tryz.prog w = .ok (.func fn first cap) w := fun _ _ _ _ => rfl
  go_enter_defers Tryz.func5, Tryz.ntmps5
  go_upto_region 0 with fail
  go_cut [2, 3, 4, 5] from 6 to 22 (fun v2 v3 v4 v5 wx => v2 = .pointer (some ⟨w.heap.size, 0, none⟩) ∧ v3 = .pointer (some ⟨w.heap.size + 1, 0, none⟩) ∧ v4 = .pointer (some ⟨w.heap.size + 2, 0, none⟩) ∧ v5 = .pointer (some ⟨w.heap.size + 3, 0, none⟩) ∧ Four wx w.heap.size (.string ⟨#[]⟩) (.string ⟨#[]⟩) (.int .i64 0) (.int .i64 0) ∧ Below w.heap.size w wx)
  case first =>
    go_wp2_with fail
    all_goals go_meet
    exact ⟨rfl, rfl, rfl, rfl, four_new w⟩
  case rest =>
  obtain ⟨rfl, rfl, rfl, rfl, F, bel⟩ := hcut
  go_wp2_with (go_at_call 10; (with_reducible refine (parts_bad _ _ hsz (hT.keep h0 bel) (Nat.lt_of_lt_of_le h0 bel.size) h).mono ?_); rintro e wp ⟨rfl, bel2⟩)
  clear hmf
  have F2 := F.keep bel2
  have bel3 := bel.trans (bel2.mono bel.size)
  have G := (((F2.set4 (.int .i64 (refuse d : Nat))).set1 (.string ⟨#[]⟩)).set2 (.string ⟨#[]⟩)).set3 (.int .i64 0)
  have bel4 := (((bel3.setCell (p := ⟨w.heap.size + 3, 0, none⟩) (Nat.le_add_right _ _) (.int .i64 (refuse d : Nat))).setCell (p := ⟨w.heap.size, 0, none⟩) (Nat.le_refl _) (.string ⟨#[]⟩)).setCell (p := ⟨w.heap.size + 1, 0, none⟩) (Nat.le_add_right _ _) (.string ⟨#[]⟩)).setCell (p := ⟨w.heap.size + 2, 0, none⟩) (Nat.le_add_right _ _) (.int .i64 0)
  show Leaves _ _ _ _ _ _ _
  refine leaves_cons (f := 8) (args := #[.pointer (some ⟨w.heap.size + 3, 0, none⟩), .pointer (some ⟨w.heap.size, 0, none⟩), .pointer (some ⟨w.heap.size + 1, 0, none⟩), .pointer (some ⟨w.heap.size + 2, 0, none⟩)]) (by simp) (by simp [go_sem]) ?_
  refine (head1_broken (w.heap.size + 3) w.heap.size (w.heap.size + 1) (w.heap.size + 2) (refuse d : Nat) (by omega) (by omega) (by omega) (by omega) (by omega) (by omega) (by omega) [] wp _ _ _ _ F2.c4 F2.c1 F2.c2 F2.c3 F2.f4 F2.f1 F2.f2 F2.f3).mono ?_
  rintro x u' w'' ⟨rfl, rfl, rfl⟩
  revert G bel4
  generalize (((wp.setCell _ _).setCell _ _).setCell _ _).setCell _ _ = wz
  intro G bel4
  have g1 := G.c1
  have g2 := G.c2
  have g3 := G.c3
  have g4 := G.c4
  simp [Leaves, settle, results, Tryz.results5, go_sem, g1, g2, g3, g4]
  exact ⟨.inr ⟨h, rfl⟩, bel4⟩

theorem head_any (d : ByteArray) (w : World) (hsz : d.size ≤ 140737488351232) (hT : Tabbed w) (h0 : 0 < w.heap.size) :
    Calls Tryz.prog 5 #[.string d] w fun e w' => HeadOut d e ∧ Below w.heap.size w w' := by
  by_cases h : refuse d = 0
  · exact head_ok d w hsz hT h0 h
  · exact head_bad d w hsz hT h0 h

end Go.Proofs.YtdgpdmbfhehpfaaGreatDoor
