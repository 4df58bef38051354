/-
  The law MatchOrders is proved: for every input the call returns true, and its arguments read behind it as they read before. No condition.
-/
import Derived.Test.YtkejjiohkhlnnaaQ5
import Derived.ProofKit
import Derived.OpenShut
import Derived.ShutString
import Derived.ChangeOld
import Derived.Below
import Derived.SizedLaws
import Derived.Lib.SmallJoins
namespace Go.Proofs.Ytkejjiohkhlnnaa
open Go.RowKit
namespace Sym

theorem cmpI_anti (a b : Int) : cmpI b a = -cmpI a b := by unfold cmpI; split <;> split <;> (try split) <;> (try omega) <;> rfl
theorem cmpL_anti (a b : List UInt8) : cmpL b a = -cmpL a b := by
  induction a generalizing b with
  | nil => cases b <;> simp [cmpL]
  | cons x a ih =>
    cases b with
    | nil => simp [cmpL]
    | cons y b =>
      simp only [cmpL, ih b]
      split <;> split <;> (try omega)
theorem cmpC_anti (k i : Int) (l : List UInt8) (k' i' : Int) (l' : List UInt8) : cmpC k' i' l' k i l = -cmpC k i l k' i' l' := by
  unfold cmpC
  rw [cmpI_anti k k', cmpI_anti i i', cmpL_anti l l']
  by_cases h1 : cmpI k k' = 0
  · by_cases h2 : cmpI i i' = 0
    · simp [h1, h2]
    · simp [h1, h2]
  · simp [h1]
theorem cmpI_eq {a b : Int} (h : cmpI a b = 0) : a = b := by unfold cmpI at h; split at h <;> (try split at h) <;> simp at h; omega
theorem cmpI_less {a b : Int} (h : cmpI a b = -1) : a < b := by unfold cmpI at h; split at h <;> (try split at h) <;> simp at h; assumption
theorem cmpI_of {a b : Int} (h : a < b) : cmpI a b = -1 := by simp [cmpI, h]
theorem cmpI_self (a : Int) : cmpI a a = 0 := by simp [cmpI]
theorem cmpL_trans (a b c : List UInt8) (h1 : cmpL a b = -1) (h2 : cmpL b c = -1) : cmpL a c = -1 := by
  induction a generalizing b c with
  | nil =>
    cases b with
    | nil => simp [cmpL] at h1
    | cons y b =>
      cases c with
      | nil => simp [cmpL] at h2
      | cons z c => simp [cmpL]
  | cons x a ih =>
    cases b with
    | nil => simp [cmpL] at h1
    | cons y b =>
      cases c with
      | nil => simp [cmpL] at h2
      | cons z c =>
        simp only [cmpL] at h1 h2 ⊢
        by_cases hxy : x.toNat < y.toNat
        · by_cases hyz : y.toNat < z.toNat
          · rw [if_pos (by omega)]
          · rw [if_neg hyz] at h2
            by_cases hzy : z.toNat < y.toNat
            · rw [if_pos hzy] at h2; simp at h2
            · rw [if_pos (by omega)]
        · rw [if_neg hxy] at h1
          by_cases hyx : y.toNat < x.toNat
          · rw [if_pos hyx] at h1; simp at h1
          · rw [if_neg hyx] at h1
            by_cases hyz : y.toNat < z.toNat
            · rw [if_pos (by omega)]
            · rw [if_neg hyz] at h2
              by_cases hzy : z.toNat < y.toNat
              · rw [if_pos hzy] at h2; simp at h2
              · rw [if_neg hzy] at h2
                rw [if_neg (by omega), if_neg (by omega)]
                exact ih b c h1 h2
theorem cmpC_trans {k1 i1 : Int} {l1 : List UInt8} {k2 i2 : Int} {l2 : List UInt8} {k3 i3 : Int} {l3 : List UInt8} (h1 : cmpC k1 i1 l1 k2 i2 l2 = -1) (h2 : cmpC k2 i2 l2 k3 i3 l3 = -1) : cmpC k1 i1 l1 k3 i3 l3 = -1 := by
  unfold cmpC at h1 h2 ⊢
  by_cases a1 : cmpI k1 k2 = 0
  · have e1 := cmpI_eq a1
    subst e1
    by_cases a2 : cmpI k1 k3 = 0
    · have e2 := cmpI_eq a2
      subst e2
      simp only [cmpI_self, ne_eq, not_true_eq_false, if_false] at h1 h2 ⊢
      by_cases b1 : cmpI i1 i2 = 0
      · have e3 := cmpI_eq b1
        subst e3
        by_cases b2 : cmpI i1 i3 = 0
        · have e4 := cmpI_eq b2
          subst e4
          simp only [cmpI_self, not_true_eq_false, if_false] at h1 h2 ⊢
          exact cmpL_trans _ _ _ h1 h2
        · rw [if_pos b2] at h2 ⊢
          exact h2
      · rw [if_pos b1] at h1
        have l12 := cmpI_less h1
        by_cases b2 : cmpI i2 i3 = 0
        · have e4 := cmpI_eq b2
          subst e4
          rw [if_pos b1]
          exact h1
        · rw [if_pos b2] at h2
          have l23 := cmpI_less h2
          have := cmpI_of (a := i1) (b := i3) (by omega)
          rw [this]; simp
    · rw [if_pos a2] at h2 ⊢
      exact h2
  · rw [if_pos a1] at h1
    have l12 := cmpI_less h1
    by_cases a2 : cmpI k2 k3 = 0
    · have e2 := cmpI_eq a2
      subst e2
      rw [if_pos a1]
      exact h1
    · rw [if_pos a2] at h2
      have l23 := cmpI_less h2
      have := cmpI_of (a := k1) (b := k3) (by omega)
      rw [this]; simp
theorem compareR_bad {op k i : Int} {l : List UInt8} {k' i' : Int} {l' : List UInt8} (ho : ¬(op < 1 ∨ 6 < op)) (h : validC k i l = false ∨ validC k' i' l' = false) : compareR op k i l k' i' l' = (false, 5) := by
  unfold compareR; rw [if_neg ho, if_pos h]
theorem compareR_ok {op k i : Int} {l : List UInt8} {k' i' : Int} {l' : List UInt8} {c : Int} (ho : ¬(op < 1 ∨ 6 < op)) (h : validC k i l = true) (h' : validC k' i' l' = true) (hc : cmpC k i l k' i' l' = c) : compareR op k i l k' i' l' = (cmpOp op c, 0) := by
  unfold compareR; rw [if_neg ho, if_neg (by simp [h, h']), hc]

set_option maxHeartbeats 16000000 in
set_option maxRecDepth 100000 in
/-- the walk, the answers being told -/
theorem orders_walk (k1 i1 : Int) (s1 : ByteArray) (k2 i2 : Int) (s2 : ByteArray) (k3 i3 : Int) (s3 : ByteArray) (w : World) (x3 x1 x5 x2 x4 x6 y5 y3 z3 a1 a2 : Bool) (e3 e1 e5 e2 e4 e6 h5 h3 p3 sk : Int)
    (c3 : ∀ W, Hid (Calls Try.prog 26 #[.int .i64 3, .agg #[.int .i64 k1, .int .i64 i1, .string s1], .agg #[.int .i64 k2, .int .i64 i2, .string s2]] W fun e w' => e = .returned (.tuple #[.bool x3, .int .i64 e3]) ∧ Below W.heap.size W w'))
    (c1 : ∀ W, Hid (Calls Try.prog 26 #[.int .i64 1, .agg #[.int .i64 k1, .int .i64 i1, .string s1], .agg #[.int .i64 k2, .int .i64 i2, .string s2]] W fun e w' => e = .returned (.tuple #[.bool x1, .int .i64 e1]) ∧ Below W.heap.size W w'))
    (c5 : ∀ W, Hid (Calls Try.prog 26 #[.int .i64 5, .agg #[.int .i64 k1, .int .i64 i1, .string s1], .agg #[.int .i64 k2, .int .i64 i2, .string s2]] W fun e w' => e = .returned (.tuple #[.bool x5, .int .i64 e5]) ∧ Below W.heap.size W w'))
    (c2 : ∀ W, Hid (Calls Try.prog 26 #[.int .i64 2, .agg #[.int .i64 k1, .int .i64 i1, .string s1], .agg #[.int .i64 k2, .int .i64 i2, .string s2]] W fun e w' => e = .returned (.tuple #[.bool x2, .int .i64 e2]) ∧ Below W.heap.size W w'))
    (c4 : ∀ W, Hid (Calls Try.prog 26 #[.int .i64 4, .agg #[.int .i64 k1, .int .i64 i1, .string s1], .agg #[.int .i64 k2, .int .i64 i2, .string s2]] W fun e w' => e = .returned (.tuple #[.bool x4, .int .i64 e4]) ∧ Below W.heap.size W w'))
    (c6 : ∀ W, Hid (Calls Try.prog 26 #[.int .i64 6, .agg #[.int .i64 k1, .int .i64 i1, .string s1], .agg #[.int .i64 k2, .int .i64 i2, .string s2]] W fun e w' => e = .returned (.tuple #[.bool x6, .int .i64 e6]) ∧ Below W.heap.size W w'))
    (d5 : ∀ W, Hid (Calls Try.prog 26 #[.int .i64 5, .agg #[.int .i64 k2, .int .i64 i2, .string s2], .agg #[.int .i64 k1, .int .i64 i1, .string s1]] W fun e w' => e = .returned (.tuple #[.bool y5, .int .i64 h5]) ∧ Below W.heap.size W w'))
    (d3 : ∀ W, Hid (Calls Try.prog 26 #[.int .i64 3, .agg #[.int .i64 k2, .int .i64 i2, .string s2], .agg #[.int .i64 k3, .int .i64 i3, .string s3]] W fun e w' => e = .returned (.tuple #[.bool y3, .int .i64 h3]) ∧ Below W.heap.size W w'))
    (g3 : ∀ W, Hid (Calls Try.prog 26 #[.int .i64 3, .agg #[.int .i64 k1, .int .i64 i1, .string s1], .agg #[.int .i64 k3, .int .i64 i3, .string s3]] W fun e w' => e = .returned (.tuple #[.bool z3, .int .i64 p3]) ∧ Below W.heap.size W w'))
    (v1 : ∀ W, Hid (Calls Try.prog 27 #[.agg #[.int .i64 k1, .int .i64 i1, .string s1]] W fun e w' => e = .returned (.bool a1) ∧ Below W.heap.size W w'))
    (v2 : ∀ W, Hid (Calls Try.prog 27 #[.agg #[.int .i64 k2, .int .i64 i2, .string s2]] W fun e w' => e = .returned (.bool a2) ∧ Below W.heap.size W w'))
    (sc : ∀ W, Hid (Calls Try.prog 28 #[.agg #[.int .i64 k1, .int .i64 i1, .string s1], .agg #[.int .i64 k2, .int .i64 i2, .string s2]] W fun e w' => e = .returned (.int .i64 sk) ∧ Below W.heap.size W w'))
    (H : (e3 = 5 ∧ e1 = 5 ∧ e5 = 5 ∧ e2 = 5 ∧ e4 = 5 ∧ e6 = 5 ∧ x3 = false ∧ x1 = false ∧ x5 = false ∧ x2 = false ∧ x4 = false ∧ x6 = false ∧ (a1 = false ∨ a1 = true ∧ a2 = false)) ∨
      (e3 = 0 ∧ a1 = true ∧ a2 = true ∧ ((sk = -1 ∧ x3 = true ∧ x1 = false ∧ x5 = false ∧ x2 = true ∧ x4 = true ∧ x6 = false ∧ y5 = true ∧ (h3 = 5 ∨ h3 = 0 ∧ (y3 = false ∨ y3 = true ∧ z3 = true))) ∨
        (sk = 0 ∧ x3 = false ∧ x1 = true ∧ x5 = false ∧ x2 = false ∧ x4 = true ∧ x6 = true ∧ y5 = false ∧ (h3 = 5 ∨ h3 = 0)) ∨
        (sk = 1 ∧ x3 = false ∧ x1 = false ∧ x5 = true ∧ x2 = true ∧ x4 = false ∧ x6 = true ∧ y5 = false ∧ (h3 = 5 ∨ h3 = 0))))) :
    Calls Try.prog 7 #[.agg #[.int .i64 k1, .int .i64 i1, .string s1], .agg #[.int .i64 k2, .int .i64 i2, .string s2], .agg #[.int .i64 k3, .int .i64 i3, .string s3]] w fun e w' => e = .returned (.bool true) ∧ Below w.heap.size w w' := by
  have cT := fun W => Lib.hid (Mt.taken_any W)
  obtain ⟨q1, q2, q3⟩ := Mt.blk3 w (.cells #[.int .i64 k1, .int .i64 i1, .string s1] 65) (.cells #[.int .i64 k2, .int .i64 i2, .string s2] 65) (.cells #[.int .i64 k3, .int .i64 i3, .string s3] 65)
  have hB : Below w.heap.size w (((w.alloc (.cells #[.int .i64 k1, .int .i64 i1, .string s1] 65)).alloc (.cells #[.int .i64 k2, .int .i64 i2, .string s2] 65)).alloc (.cells #[.int .i64 k3, .int .i64 i3, .string s3] 65)) := (((Below.refl _ _).alloc (Nat.le_refl _) _).alloc (by simp) _).alloc (by simp; omega) _
  obtain ⟨W0, hW0⟩ : ∃ W0, W0 = ((w.alloc (.cells #[.int .i64 k1, .int .i64 i1, .string s1] 65)).alloc (.cells #[.int .i64 k2, .int .i64 i2, .string s2] 65)).alloc (.cells #[.int .i64 k3, .int .i64 i3, .string s3] 65) := ⟨_, rfl⟩
  rw [← hW0] at q1 q2 q3 hB
  have f0 : W0.cell? ⟨w.heap.size, 0, none⟩ = some (.int .i64 k1) := Mt.cell_of q1 rfl
  have f1 : W0.cell? ⟨w.heap.size, 1, none⟩ = some (.int .i64 i1) := Mt.cell_of q1 rfl
  have f2 : W0.cell? ⟨w.heap.size, 2, none⟩ = some (.string s1) := Mt.cell_of q1 rfl
  have f3 : W0.cell? ⟨w.heap.size + 1, 0, none⟩ = some (.int .i64 k2) := Mt.cell_of q2 rfl
  have f4 : W0.cell? ⟨w.heap.size + 1, 1, none⟩ = some (.int .i64 i2) := Mt.cell_of q2 rfl
  have f5 : W0.cell? ⟨w.heap.size + 1, 2, none⟩ = some (.string s2) := Mt.cell_of q2 rfl
  have f6 : W0.cell? ⟨w.heap.size + 1 + 1, 0, none⟩ = some (.int .i64 k3) := Mt.cell_of q3 rfl
  have f7 : W0.cell? ⟨w.heap.size + 1 + 1, 1, none⟩ = some (.int .i64 i3) := Mt.cell_of q3 rfl
  have f8 : W0.cell? ⟨w.heap.size + 1 + 1, 2, none⟩ = some (.string s3) := Mt.cell_of q3 rfl
  clear q1 q2 q3
  go_enter Try.func7, Try.ntmps7
  go_upto_region 1 with fail
  rw [← hW0]
  clear hW0
  rcases H with ⟨rfl, rfl, rfl, rfl, rfl, rfl, rfl, rfl, rfl, rfl, rfl, rfl, rfl | ⟨rfl, rfl⟩⟩ | ⟨rfl, rfl, rfl, ⟨rfl, rfl, rfl, rfl, rfl, rfl, rfl, rfl, rfl | ⟨rfl, rfl | ⟨rfl, rfl⟩⟩⟩ | ⟨rfl, rfl, rfl, rfl, rfl, rfl, rfl, rfl, rfl | rfl⟩ | ⟨rfl, rfl, rfl, rfl, rfl, rfl, rfl, rfl, rfl | rfl⟩⟩
  all_goals
    go_wp2_with (first
      | (go_at_call 26; (with_reducible refine (c3 _).out.mono ?_); rintro e V ⟨rfl, hV⟩; replace f0 := on_cell hV f0; replace f1 := on_cell hV f1; replace f2 := on_cell hV f2; replace f3 := on_cell hV f3; replace f4 := on_cell hV f4; replace f5 := on_cell hV f5; replace f6 := on_cell hV f6; replace f7 := on_cell hV f7; replace f8 := on_cell hV f8; replace hB := hB.trans (hV.mono hB.size); clear hV)
      | (go_at_call 26; (with_reducible refine (c1 _).out.mono ?_); rintro e V ⟨rfl, hV⟩; replace f0 := on_cell hV f0; replace f1 := on_cell hV f1; replace f2 := on_cell hV f2; replace f3 := on_cell hV f3; replace f4 := on_cell hV f4; replace f5 := on_cell hV f5; replace f6 := on_cell hV f6; replace f7 := on_cell hV f7; replace f8 := on_cell hV f8; replace hB := hB.trans (hV.mono hB.size); clear hV)
      | (go_at_call 26; (with_reducible refine (c5 _).out.mono ?_); rintro e V ⟨rfl, hV⟩; replace f0 := on_cell hV f0; replace f1 := on_cell hV f1; replace f2 := on_cell hV f2; replace f3 := on_cell hV f3; replace f4 := on_cell hV f4; replace f5 := on_cell hV f5; replace f6 := on_cell hV f6; replace f7 := on_cell hV f7; replace f8 := on_cell hV f8; replace hB := hB.trans (hV.mono hB.size); clear hV)
      | (go_at_call 26; (with_reducible refine (c2 _).out.mono ?_); rintro e V ⟨rfl, hV⟩; replace f0 := on_cell hV f0; replace f1 := on_cell hV f1; replace f2 := on_cell hV f2; replace f3 := on_cell hV f3; replace f4 := on_cell hV f4; replace f5 := on_cell hV f5; replace f6 := on_cell hV f6; replace f7 := on_cell hV f7; replace f8 := on_cell hV f8; replace hB := hB.trans (hV.mono hB.size); clear hV)
      | (go_at_call 26; (with_reducible refine (c4 _).out.mono ?_); rintro e V ⟨rfl, hV⟩; replace f0 := on_cell hV f0; replace f1 := on_cell hV f1; replace f2 := on_cell hV f2; replace f3 := on_cell hV f3; replace f4 := on_cell hV f4; replace f5 := on_cell hV f5; replace f6 := on_cell hV f6; replace f7 := on_cell hV f7; replace f8 := on_cell hV f8; replace hB := hB.trans (hV.mono hB.size); clear hV)
      | (go_at_call 26; (with_reducible refine (c6 _).out.mono ?_); rintro e V ⟨rfl, hV⟩; replace f0 := on_cell hV f0; replace f1 := on_cell hV f1; replace f2 := on_cell hV f2; replace f3 := on_cell hV f3; replace f4 := on_cell hV f4; replace f5 := on_cell hV f5; replace f6 := on_cell hV f6; replace f7 := on_cell hV f7; replace f8 := on_cell hV f8; replace hB := hB.trans (hV.mono hB.size); clear hV)
      | (go_at_call 26; (with_reducible refine (d5 _).out.mono ?_); rintro e V ⟨rfl, hV⟩; replace f0 := on_cell hV f0; replace f1 := on_cell hV f1; replace f2 := on_cell hV f2; replace f3 := on_cell hV f3; replace f4 := on_cell hV f4; replace f5 := on_cell hV f5; replace f6 := on_cell hV f6; replace f7 := on_cell hV f7; replace f8 := on_cell hV f8; replace hB := hB.trans (hV.mono hB.size); clear hV)
      | (go_at_call 26; (with_reducible refine (d3 _).out.mono ?_); rintro e V ⟨rfl, hV⟩; replace f0 := on_cell hV f0; replace f1 := on_cell hV f1; replace f2 := on_cell hV f2; replace f3 := on_cell hV f3; replace f4 := on_cell hV f4; replace f5 := on_cell hV f5; replace f6 := on_cell hV f6; replace f7 := on_cell hV f7; replace f8 := on_cell hV f8; replace hB := hB.trans (hV.mono hB.size); clear hV)
      | (go_at_call 26; (with_reducible refine (g3 _).out.mono ?_); rintro e V ⟨rfl, hV⟩; replace f0 := on_cell hV f0; replace f1 := on_cell hV f1; replace f2 := on_cell hV f2; replace f3 := on_cell hV f3; replace f4 := on_cell hV f4; replace f5 := on_cell hV f5; replace f6 := on_cell hV f6; replace f7 := on_cell hV f7; replace f8 := on_cell hV f8; replace hB := hB.trans (hV.mono hB.size); clear hV)
      | (go_at_call 27; (with_reducible refine (v1 _).out.mono ?_); rintro e V ⟨rfl, hV⟩; replace f0 := on_cell hV f0; replace f1 := on_cell hV f1; replace f2 := on_cell hV f2; replace f3 := on_cell hV f3; replace f4 := on_cell hV f4; replace f5 := on_cell hV f5; replace f6 := on_cell hV f6; replace f7 := on_cell hV f7; replace f8 := on_cell hV f8; replace hB := hB.trans (hV.mono hB.size); clear hV)
      | (go_at_call 27; (with_reducible refine (v2 _).out.mono ?_); rintro e V ⟨rfl, hV⟩; replace f0 := on_cell hV f0; replace f1 := on_cell hV f1; replace f2 := on_cell hV f2; replace f3 := on_cell hV f3; replace f4 := on_cell hV f4; replace f5 := on_cell hV f5; replace f6 := on_cell hV f6; replace f7 := on_cell hV f7; replace f8 := on_cell hV f8; replace hB := hB.trans (hV.mono hB.size); clear hV)
      | (go_at_call 28; (with_reducible refine (sc _).out.mono ?_); rintro e V ⟨rfl, hV⟩; replace f0 := on_cell hV f0; replace f1 := on_cell hV f1; replace f2 := on_cell hV f2; replace f3 := on_cell hV f3; replace f4 := on_cell hV f4; replace f5 := on_cell hV f5; replace f6 := on_cell hV f6; replace f7 := on_cell hV f7; replace f8 := on_cell hV f8; replace hB := hB.trans (hV.mono hB.size); clear hV)
      | (go_at_call 17; (with_reducible refine (cT _).out.mono ?_); rintro e V ⟨rfl, hV⟩; replace f0 := on_cell hV f0; replace f1 := on_cell hV f1; replace f2 := on_cell hV f2; replace f3 := on_cell hV f3; replace f4 := on_cell hV f4; replace f5 := on_cell hV f5; replace f6 := on_cell hV f6; replace f7 := on_cell hV f7; replace f8 := on_cell hV f8; replace hB := hB.trans (hV.mono hB.size); clear hV))
    go_ret
    exact ⟨rfl, hB⟩
end Sym
end Go.Proofs.Ytkejjiohkhlnnaa

namespace Go.Proofs.Ytkejjiohkhlnnaa
open Go.RowKit
namespace Sym

theorem matchOrders_any (k1 i1 : Int) (s1 : ByteArray) (k2 i2 : Int) (s2 : ByteArray) (k3 i3 : Int) (s3 : ByteArray) (w : World) (g1 : s1.size ≤ 9223372036854775807) (g2 : s2.size ≤ 9223372036854775807) (g3 : s3.size ≤ 9223372036854775807) :
    Calls Try.prog 7 #[.agg #[.int .i64 k1, .int .i64 i1, .string s1], .agg #[.int .i64 k2, .int .i64 i2, .string s2], .agg #[.int .i64 k3, .int .i64 i3, .string s3]] w fun e w' => e = .returned (.bool true) ∧ Below w.heap.size w w' := by
  refine orders_walk k1 i1 s1 k2 i2 s2 k3 i3 s3 w (compareR 3 k1 i1 s1.data.toList k2 i2 s2.data.toList).1 (compareR 1 k1 i1 s1.data.toList k2 i2 s2.data.toList).1 (compareR 5 k1 i1 s1.data.toList k2 i2 s2.data.toList).1 (compareR 2 k1 i1 s1.data.toList k2 i2 s2.data.toList).1 (compareR 4 k1 i1 s1.data.toList k2 i2 s2.data.toList).1 (compareR 6 k1 i1 s1.data.toList k2 i2 s2.data.toList).1 (compareR 5 k2 i2 s2.data.toList k1 i1 s1.data.toList).1 (compareR 3 k2 i2 s2.data.toList k3 i3 s3.data.toList).1 (compareR 3 k1 i1 s1.data.toList k3 i3 s3.data.toList).1 (validC k1 i1 s1.data.toList) (validC k2 i2 s2.data.toList) (compareR 3 k1 i1 s1.data.toList k2 i2 s2.data.toList).2 (compareR 1 k1 i1 s1.data.toList k2 i2 s2.data.toList).2 (compareR 5 k1 i1 s1.data.toList k2 i2 s2.data.toList).2 (compareR 2 k1 i1 s1.data.toList k2 i2 s2.data.toList).2 (compareR 4 k1 i1 s1.data.toList k2 i2 s2.data.toList).2 (compareR 6 k1 i1 s1.data.toList k2 i2 s2.data.toList).2 (compareR 5 k2 i2 s2.data.toList k1 i1 s1.data.toList).2 (compareR 3 k2 i2 s2.data.toList k3 i3 s3.data.toList).2 (compareR 3 k1 i1 s1.data.toList k3 i3 s3.data.toList).2 (cmpC k1 i1 s1.data.toList k2 i2 s2.data.toList)
    (fun W => Lib.hid (matchCompare_any 3 k1 i1 s1 k2 i2 s2 W g1 g2)) (fun W => Lib.hid (matchCompare_any 1 k1 i1 s1 k2 i2 s2 W g1 g2)) (fun W => Lib.hid (matchCompare_any 5 k1 i1 s1 k2 i2 s2 W g1 g2)) (fun W => Lib.hid (matchCompare_any 2 k1 i1 s1 k2 i2 s2 W g1 g2)) (fun W => Lib.hid (matchCompare_any 4 k1 i1 s1 k2 i2 s2 W g1 g2)) (fun W => Lib.hid (matchCompare_any 6 k1 i1 s1 k2 i2 s2 W g1 g2)) (fun W => Lib.hid (matchCompare_any 5 k2 i2 s2 k1 i1 s1 W g2 g1)) (fun W => Lib.hid (matchCompare_any 3 k2 i2 s2 k3 i3 s3 W g2 g3)) (fun W => Lib.hid (matchCompare_any 3 k1 i1 s1 k3 i3 s3 W g1 g3)) (fun W => Lib.hid (valid_any k1 i1 s1 W g1)) (fun W => Lib.hid (valid_any k2 i2 s2 W g2)) (fun W => Lib.hid (by have := compare_any k1 i1 s1 k2 i2 s2 W; rwa [ByteArray.toList_eq, ByteArray.toList_eq] at this)) ?_
  cases hv1 : validC k1 i1 s1.data.toList with
  | false =>
    refine .inl ?_
    simp only [compareR_bad (op := 3) (by omega) (Or.inl hv1), compareR_bad (op := 1) (by omega) (Or.inl hv1), compareR_bad (op := 5) (by omega) (Or.inl hv1), compareR_bad (op := 2) (by omega) (Or.inl hv1), compareR_bad (op := 4) (by omega) (Or.inl hv1), compareR_bad (op := 6) (by omega) (Or.inl hv1)]
    simp
  | true =>
    cases hv2 : validC k2 i2 s2.data.toList with
    | false =>
      refine .inl ?_
      simp only [compareR_bad (op := 3) (by omega) (Or.inr hv2), compareR_bad (op := 1) (by omega) (Or.inr hv2), compareR_bad (op := 5) (by omega) (Or.inr hv2), compareR_bad (op := 2) (by omega) (Or.inr hv2), compareR_bad (op := 4) (by omega) (Or.inr hv2), compareR_bad (op := 6) (by omega) (Or.inr hv2)]
      simp
    | true =>
      refine .inr ?_
      obtain ⟨sk, hsk⟩ : ∃ sk, cmpC k1 i1 s1.data.toList k2 i2 s2.data.toList = sk := ⟨_, rfl⟩
      have hba : cmpC k2 i2 s2.data.toList k1 i1 s1.data.toList = -sk := by rw [cmpC_anti, hsk]
      simp only [compareR_ok (op := 3) (by omega) hv1 hv2 hsk, compareR_ok (op := 1) (by omega) hv1 hv2 hsk, compareR_ok (op := 5) (by omega) hv1 hv2 hsk, compareR_ok (op := 2) (by omega) hv1 hv2 hsk, compareR_ok (op := 4) (by omega) hv1 hv2 hsk, compareR_ok (op := 6) (by omega) hv1 hv2 hsk, compareR_ok (op := 5) (by omega) hv2 hv1 hba, hsk]
      cases hv3 : validC k3 i3 s3.data.toList with
      | false =>
        have hr := hsk ▸ cmpC_range k1 i1 s1.data.toList k2 i2 s2.data.toList
        simp only [compareR_bad (op := 3) (by omega) (Or.inr hv3)]
        rcases hr with rfl | rfl | rfl <;> simp [cmpOp]
      | true =>
        obtain ⟨t, ht⟩ : ∃ t, cmpC k2 i2 s2.data.toList k3 i3 s3.data.toList = t := ⟨_, rfl⟩
        obtain ⟨u, hu⟩ : ∃ u, cmpC k1 i1 s1.data.toList k3 i3 s3.data.toList = u := ⟨_, rfl⟩
        have hr := hsk ▸ cmpC_range k1 i1 s1.data.toList k2 i2 s2.data.toList
        have hr2 := ht ▸ cmpC_range k2 i2 s2.data.toList k3 i3 s3.data.toList
        simp only [compareR_ok (op := 3) (by omega) hv2 hv3 ht, compareR_ok (op := 3) (by omega) hv1 hv3 hu]
        rcases hr with rfl | rfl | rfl
        · rcases hr2 with rfl | rfl | rfl
          · have := cmpC_trans hsk ht
            rw [hu] at this
            subst this
            simp [cmpOp]
          · simp [cmpOp]
          · simp [cmpOp]
        · simp [cmpOp]
        · simp [cmpOp]
end Sym
end Go.Proofs.Ytkejjiohkhlnnaa

namespace Go.Proofs.Ytkejjiohkhlnnaa.matchOrdersLaw
open Go.ChangeShapes Go.WideShapes Go.ChangeAt Go.RowKit Go.Joins
open Go.ChangeMaps (open_string shut_string)

theorem own : ownKnob Try.prog.godebug = none := by kernel_rfl
theorem laidOut : laidOutB Try.prog = true := by kernel_rfl

theorem cells3 : Try.prog.cellsOf 65 = 3 := by kernel_rfl

set_option maxRecDepth 100000 in
theorem lifted (os : Os) (started : os.Started) (H : Type) (enc : TypeId × Value → H) :
    ReturnsInHanded {} Try.checked os 7 .any (Rows.matchOrdersSpec.pre6 enc Try.prog Try.f7 Rows.matchOrdersRow.domain false) (Rows.matchOrdersSpec.post enc Try.prog Try.f7 false true false false) := by
  refine returnsInHanded_of_change_sized (C := Try.checked) own started (by kernel_rfl) Try.func7
    (ChangeSpec.witness6 (enc := enc) (C := Try.checked) false ⟨#[], #[.agg #[.int .i64 0, .int .i64 0, .string ByteArray.empty], .agg #[.int .i64 0, .int .i64 0, .string ByteArray.empty], .agg #[.int .i64 0, .int .i64 0, .string ByteArray.empty]], []⟩ 8 (by kernel_rfl) (by kernel_rfl) (by kernel_rfl) (by kernel_rfl)) ?_
  intro W base args ds gs before hval0 hW _ hsz0 _
  have hsz : (DataW.weightsEach Try.prog (Try.f7.params.toList ++ Rows.matchOrdersSpec.plain.varTypes Try.prog) (ds ++ gs)).all (· ≤ reachBytes) = true := hsz0
  clear hsz0
  have hval : ∀ (j : Nat) t v, Try.f7.params[j]? = some t → args[j]? = some v → Value.okWide Try.prog W .any base t v := hval0
  have hW' := hW
  obtain ⟨p, q, hA0, hV, rfl, hfz, hnd⟩ := hW
  have hA : DataW.TrodAll enc Try.prog W 0 (fun _ => true) true Try.f7.params.toList args.toList ds p := hA0
  rw [Try.params7] at hA hval hsz
  obtain ⟨v0, vs0, d0, ds0, p0, q0, hargs, rfl, rfl, h0, r0⟩ := trodAll_cons hA
  obtain ⟨v1, vs1, d1, ds1, p1, q1, rfl, rfl, rfl, h1, r1⟩ := trodAll_cons r0
  obtain ⟨v2, vs2, d2, ds2, p2, q2, rfl, rfl, rfl, h2, r2⟩ := trodAll_cons r1
  obtain ⟨rfl, rfl, rfl⟩ := trodAll_nil r2
  obtain rfl : args = #[v0, v1, v2] := by cases args; simp_all
  obtain ⟨rfl, rfl⟩ := trodVars_none hV
  have k0 := h0
  have lt0 : ∀ x ∈ p0, x.block < W.heap.size := by obtain ⟨m, hm⟩ := k0; exact DataW.trod_lt m _ _ _ hm
  have k1 := h1
  have lt1 : ∀ x ∈ p1, x.block < W.heap.size := by obtain ⟨m, hm⟩ := k1; exact DataW.trod_lt m _ _ _ hm
  have k2 := h2
  have lt2 : ∀ x ∈ p2, x.block < W.heap.size := by obtain ⟨m, hm⟩ := k2; exact DataW.trod_lt m _ _ _ hm
  obtain ⟨c0a, c0b, c0c, y0a, y0b, y0c, m0, rfl, _, _, e0a, e0b, e0c⟩ := open_agg3 Try.underlying65 (by kernel_rfl) cells3 (hval 0 65 v0 rfl rfl) h0
  obtain ⟨k0i, g0a, _, _⟩ := DataW.trod_int Try.underlying3 e0a
  obtain ⟨i0i, g0b, _, _⟩ := DataW.trod_int Try.underlying2 e0b
  obtain ⟨s0, g0c, _, z0⟩ := DataW.trod_string Try.underlying9 e0c
  simp at g0a g0b g0c
  subst g0a; subst g0b; subst g0c
  obtain ⟨c1a, c1b, c1c, y1a, y1b, y1c, m1, rfl, _, _, e1a, e1b, e1c⟩ := open_agg3 Try.underlying65 (by kernel_rfl) cells3 (hval 1 65 v1 rfl rfl) h1
  obtain ⟨k1i, g1a, _, _⟩ := DataW.trod_int Try.underlying3 e1a
  obtain ⟨i1i, g1b, _, _⟩ := DataW.trod_int Try.underlying2 e1b
  obtain ⟨s1, g1c, _, z1⟩ := DataW.trod_string Try.underlying9 e1c
  simp at g1a g1b g1c
  subst g1a; subst g1b; subst g1c
  obtain ⟨c2a, c2b, c2c, y2a, y2b, y2c, m2, rfl, _, _, e2a, e2b, e2c⟩ := open_agg3 Try.underlying65 (by kernel_rfl) cells3 (hval 2 65 v2 rfl rfl) h2
  obtain ⟨k2i, g2a, _, _⟩ := DataW.trod_int Try.underlying3 e2a
  obtain ⟨i2i, g2b, _, _⟩ := DataW.trod_int Try.underlying2 e2b
  obtain ⟨s2, g2c, _, z2⟩ := DataW.trod_string Try.underlying9 e2c
  simp at g2a g2b g2c
  subst g2a; subst g2b; subst g2c
  clear hA0 hval0
  simp only [List.append_nil] at hW'
  refine (Sym.matchOrders_any k0i i0i s0 k1i i1i s1 k2i i2i s2 W z0 z1 z2).mono fun e W' ⟨he, bel⟩ => ?_
  subst he
  exact ⟨_, rfl, _, _, _, [], _, [], hW', trodAll_mk1 (shut_bool Try.underlying4 _), (trodAll_cons_mk (Below.trod laidOut (by kernel_rfl) (of_decide_eq_true (by kernel_rfl)) k0 bel lt0) (trodAll_cons_mk (Below.trod laidOut (by kernel_rfl) (of_decide_eq_true (by kernel_rfl)) k1 bel lt1) (trodAll_cons_mk (Below.trod laidOut (by kernel_rfl) (of_decide_eq_true (by kernel_rfl)) k2 bel lt2) trodAll_mk0))), rfl, bel.frame _, fun h => by cases h⟩

theorem proved : Rows.MatchOrdersSaid :=
  OpenClaim.holds_of_wide 7 Try.f7 rfl rfl rfl rfl rfl rfl rfl ⟨rfl, rfl, rfl, rfl, rfl⟩ rfl rfl rfl rfl rfl (by kernel_rfl) Try.func7 (by kernel_rfl)
    (of_decide_eq_true (by kernel_rfl)) (by unfold Func.isWrapper; first | (rw [if_pos (by decide +kernel)]; kernel_rfl) | (rw [if_neg (by decide +kernel)]; exact ⟨rfl, rfl⟩))
    (fun os started H enc _ => lifted os started H enc)
#print axioms proved
end Go.Proofs.Ytkejjiohkhlnnaa.matchOrdersLaw
