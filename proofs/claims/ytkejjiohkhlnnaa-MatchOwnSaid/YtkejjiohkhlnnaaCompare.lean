/-
  What match.Compare and the reference's Compare do: one and the same.
-/
import Derived.Test.YtkejjiohkhlnnaaSymRef
namespace Go.Proofs.Ytkejjiohkhlnnaa
open Go.RowKit
namespace Sym

def cmpOp (op c : Int) : Bool :=
  if op = 1 then c == 0 else if op = 2 then c != 0 else if op = 3 then decide (c < 0) else if op = 4 then decide (c ≤ 0) else if op = 5 then decide (0 < c) else decide (0 ≤ c)
/-- what a comparison of two constants answers -/
def compareR (op : Int) (k i : Int) (l : List UInt8) (k' i' : Int) (l' : List UInt8) : Bool × Int :=
  if op < 1 ∨ 6 < op then (false, 2) else if validC k i l = false ∨ validC k' i' l' = false then (false, 5) else (cmpOp op (cmpC k i l k' i' l'), 0)

/-- a constant's three cells -/
def At3 (w : World) (b : Nat) (k i : Int) (s : ByteArray) : Prop :=
  w.cell? ⟨b, 0, none⟩ = some (.int .i64 k) ∧ w.cell? ⟨b, 1, none⟩ = some (.int .i64 i) ∧ w.cell? ⟨b, 2, none⟩ = some (.string s)
theorem At3.below {w w' : World} {b B : Nat} {k i : Int} {s : ByteArray} (h : At3 w b k i s) (hb : Below B w w') (hB : b < B) : At3 w' b k i s :=
  ⟨(hb.cell (p := ⟨b, 0, none⟩) hB).trans h.1, (hb.cell (p := ⟨b, 1, none⟩) hB).trans h.2.1, (hb.cell (p := ⟨b, 2, none⟩) hB).trans h.2.2⟩
theorem at3_first (w : World) (t : TypeId) (k i k' i' : Int) (s s' : ByteArray) :
    At3 ((w.alloc (.cells #[.int .i64 k, .int .i64 i, .string s] t)).alloc (.cells #[.int .i64 k', .int .i64 i', .string s'] t)) w.heap.size k i s := by
  refine ⟨?_, ?_, ?_⟩ <;> simp
theorem at3_second (w : World) (t : TypeId) (k i k' i' : Int) (s s' : ByteArray) :
    At3 ((w.alloc (.cells #[.int .i64 k, .int .i64 i, .string s] t)).alloc (.cells #[.int .i64 k', .int .i64 i', .string s'] t)) (w.heap.size + 1) k' i' s' := by
  refine ⟨?_, ?_, ?_⟩ <;> go_simp

set_option maxHeartbeats 2000000 in
theorem matchCompare_any (op k i : Int) (s : ByteArray) (k' i' : Int) (s' : ByteArray) (w : World) (hs : s.size ≤ 9223372036854775807) (hs' : s'.size ≤ 9223372036854775807) :
    Calls Try.prog 26 #[.int .i64 op, .agg #[.int .i64 k, .int .i64 i, .string s], .agg #[.int .i64 k', .int .i64 i', .string s']] w
      fun e w' => e = .returned (.tuple #[.bool (compareR op k i s.data.toList k' i' s'.data.toList).1, .int .i64 (compareR op k i s.data.toList k' i' s'.data.toList).2]) ∧ Below w.heap.size w w' := by
  have cA := fun W => Lib.hid (valid_any k i s W hs)
  have cB := fun W => Lib.hid (valid_any k' i' s' W hs')
  have cC := fun W => Lib.hid (compare_any k i s k' i' s' W)
  rw [ByteArray.toList_eq, ByteArray.toList_eq] at cC
  by_cases h1 : op < 1
  · have hr : compareR op k i s.data.toList k' i' s'.data.toList = (false, 2) := by simp [compareR, h1]
    rw [hr]
    clear hr cA cB cC
    go_enter Try.func26, Try.ntmps26
    go_wp2
    go_ret2
    exact ⟨rfl, ((Below.refl _ _).alloc (Nat.le_refl _) _).alloc (by simp) _⟩
  · by_cases h6 : 6 < op
    · have hr : compareR op k i s.data.toList k' i' s'.data.toList = (false, 2) := by simp [compareR, h6]
      have d6 : decide ((6 : Int) < op) = true := by simpa using h6
      rw [hr]
      clear hr cA cB cC
      go_enter Try.func26, Try.ntmps26
      go_wp2
      go_ret2
      exact ⟨rfl, ((Below.refl _ _).alloc (Nat.le_refl _) _).alloc (by simp) _⟩
    · have d6 : decide ((6 : Int) < op) = false := by simpa using h6
      cases va : validC k i s.data.toList with
      | false =>
        have hr : compareR op k i s.data.toList k' i' s'.data.toList = (false, 5) := by simp [compareR, h1, h6, va]
        rw [hr]
        rw [va] at cA
        clear hr va cB cC
        go_enter Try.func26, Try.ntmps26
        go_wp2_with fail
        refine (cA _).out.mono ?_
        rintro e w1 ⟨rfl, hb1⟩
        have A1 := (at3_first w 65 k i k' i' s s').below hb1 (by simp; omega)
        have A2 := (at3_second w 65 k i k' i' s s').below hb1 (by simp)
        obtain ⟨z0, z1, z2⟩ := id A1
        obtain ⟨y0, y1, y2⟩ := id A2
        have sz1 : w.heap.size + 2 ≤ w1.heap.size := by have := hb1.size; simp at this; omega
        have bl1 : Below w.heap.size w w1 := (((Below.refl _ _).alloc (Nat.le_refl _) _).alloc (by simp) _).trans (hb1.mono (by simp; omega))
        clear hb1
        go_wp2
        go_ret2
        exact ⟨rfl, bl1⟩
      | true =>
        cases vb : validC k' i' s'.data.toList with
        | false =>
          have hr : compareR op k i s.data.toList k' i' s'.data.toList = (false, 5) := by simp [compareR, h1, h6, va, vb]
          rw [hr]
          rw [va] at cA
          rw [vb] at cB
          clear hr va vb cC
          go_enter Try.func26, Try.ntmps26
          go_wp2_with fail
          refine (cA _).out.mono ?_
          rintro e w1 ⟨rfl, hb1⟩
          have A1 := (at3_first w 65 k i k' i' s s').below hb1 (by simp; omega)
          have A2 := (at3_second w 65 k i k' i' s s').below hb1 (by simp)
          obtain ⟨z0, z1, z2⟩ := id A1
          obtain ⟨y0, y1, y2⟩ := id A2
          have sz1 : w.heap.size + 2 ≤ w1.heap.size := by have := hb1.size; simp at this; omega
          have bl1 : Below w.heap.size w w1 := (((Below.refl _ _).alloc (Nat.le_refl _) _).alloc (by simp) _).trans (hb1.mono (by simp; omega))
          clear hb1
          go_wp2_with fail
          refine (cB _).out.mono ?_
          rintro e w2 ⟨rfl, hb2⟩
          have B1 := A1.below hb2 (by omega)
          have B2 := A2.below hb2 (by omega)
          have sz2 := hb2.size
          have bl2 := bl1.trans (hb2.mono (by omega))
          clear z0 z1 z2 y0 y1 y2 A1 A2 hb2
          obtain ⟨z0, z1, z2⟩ := id B1
          obtain ⟨y0, y1, y2⟩ := id B2
          go_wp2
          go_ret2
          exact ⟨rfl, bl2⟩
        | true =>
          have hr : compareR op k i s.data.toList k' i' s'.data.toList = (cmpOp op (cmpC k i s.data.toList k' i' s'.data.toList), 0) := by simp [compareR, h1, h6, va, vb]
          rw [hr]
          rw [va] at cA
          rw [vb] at cB
          generalize cmpC k i s.data.toList k' i' s'.data.toList = c at *
          clear hr va vb d6
          have hop : op = 1 ∨ op = 2 ∨ op = 3 ∨ op = 4 ∨ op = 5 ∨ op = 6 := by omega
          clear h1 h6
          rcases hop with rfl | rfl | rfl | rfl | rfl | rfl
          · go_enter Try.func26, Try.ntmps26
            go_wp2_with fail
            refine (cA _).out.mono ?_
            rintro e w1 ⟨rfl, hb1⟩
            have A1 := (at3_first w 65 k i k' i' s s').below hb1 (by simp; omega)
            have A2 := (at3_second w 65 k i k' i' s s').below hb1 (by simp)
            obtain ⟨z0, z1, z2⟩ := id A1
            obtain ⟨y0, y1, y2⟩ := id A2
            have sz1 : w.heap.size + 2 ≤ w1.heap.size := by have := hb1.size; simp at this; omega
            have bl1 : Below w.heap.size w w1 := (((Below.refl _ _).alloc (Nat.le_refl _) _).alloc (by simp) _).trans (hb1.mono (by simp; omega))
            clear hb1
            go_wp2_with fail
            refine (cB _).out.mono ?_
            rintro e w2 ⟨rfl, hb2⟩
            have B1 := A1.below hb2 (by omega)
            have B2 := A2.below hb2 (by omega)
            have sz2 := hb2.size
            have bl2 := bl1.trans (hb2.mono (by omega))
            clear z0 z1 z2 y0 y1 y2 A1 A2 hb2
            obtain ⟨z0, z1, z2⟩ := id B1
            obtain ⟨y0, y1, y2⟩ := id B2
            go_wp2_with fail
            refine (cC _).out.mono ?_
            rintro e w3 ⟨rfl, hb3⟩
            go_wp2
            go_ret2
            exact ⟨rfl, bl2.trans (hb3.mono (by omega))⟩
          · go_enter Try.func26, Try.ntmps26
            go_wp2_with fail
            refine (cA _).out.mono ?_
            rintro e w1 ⟨rfl, hb1⟩
            have A1 := (at3_first w 65 k i k' i' s s').below hb1 (by simp; omega)
            have A2 := (at3_second w 65 k i k' i' s s').below hb1 (by simp)
            obtain ⟨z0, z1, z2⟩ := id A1
            obtain ⟨y0, y1, y2⟩ := id A2
            have sz1 : w.heap.size + 2 ≤ w1.heap.size := by have := hb1.size; simp at this; omega
            have bl1 : Below w.heap.size w w1 := (((Below.refl _ _).alloc (Nat.le_refl _) _).alloc (by simp) _).trans (hb1.mono (by simp; omega))
            clear hb1
            go_wp2_with fail
            refine (cB _).out.mono ?_
            rintro e w2 ⟨rfl, hb2⟩
            have B1 := A1.below hb2 (by omega)
            have B2 := A2.below hb2 (by omega)
            have sz2 := hb2.size
            have bl2 := bl1.trans (hb2.mono (by omega))
            clear z0 z1 z2 y0 y1 y2 A1 A2 hb2
            obtain ⟨z0, z1, z2⟩ := id B1
            obtain ⟨y0, y1, y2⟩ := id B2
            go_wp2_with fail
            refine (cC _).out.mono ?_
            rintro e w3 ⟨rfl, hb3⟩
            go_wp2
            go_ret2
            exact ⟨rfl, bl2.trans (hb3.mono (by omega))⟩
          · go_enter Try.func26, Try.ntmps26
            go_wp2_with fail
            refine (cA _).out.mono ?_
            rintro e w1 ⟨rfl, hb1⟩
            have A1 := (at3_first w 65 k i k' i' s s').below hb1 (by simp; omega)
            have A2 := (at3_second w 65 k i k' i' s s').below hb1 (by simp)
            obtain ⟨z0, z1, z2⟩ := id A1
            obtain ⟨y0, y1, y2⟩ := id A2
            have sz1 : w.heap.size + 2 ≤ w1.heap.size := by have := hb1.size; simp at this; omega
            have bl1 : Below w.heap.size w w1 := (((Below.refl _ _).alloc (Nat.le_refl _) _).alloc (by simp) _).trans (hb1.mono (by simp; omega))
            clear hb1
            go_wp2_with fail
            refine (cB _).out.mono ?_
            rintro e w2 ⟨rfl, hb2⟩
            have B1 := A1.below hb2 (by omega)
            have B2 := A2.below hb2 (by omega)
            have sz2 := hb2.size
            have bl2 := bl1.trans (hb2.mono (by omega))
            clear z0 z1 z2 y0 y1 y2 A1 A2 hb2
            obtain ⟨z0, z1, z2⟩ := id B1
            obtain ⟨y0, y1, y2⟩ := id B2
            go_wp2_with fail
            refine (cC _).out.mono ?_
            rintro e w3 ⟨rfl, hb3⟩
            go_wp2
            go_ret2
            exact ⟨rfl, bl2.trans (hb3.mono (by omega))⟩
          · go_enter Try.func26, Try.ntmps26
            go_wp2_with fail
            refine (cA _).out.mono ?_
            rintro e w1 ⟨rfl, hb1⟩
            have A1 := (at3_first w 65 k i k' i' s s').below hb1 (by simp; omega)
            have A2 := (at3_second w 65 k i k' i' s s').below hb1 (by simp)
            obtain ⟨z0, z1, z2⟩ := id A1
            obtain ⟨y0, y1, y2⟩ := id A2
            have sz1 : w.heap.size + 2 ≤ w1.heap.size := by have := hb1.size; simp at this; omega
            have bl1 : Below w.heap.size w w1 := (((Below.refl _ _).alloc (Nat.le_refl _) _).alloc (by simp) _).trans (hb1.mono (by simp; omega))
            clear hb1
            go_wp2_with fail
            refine (cB _).out.mono ?_
            rintro e w2 ⟨rfl, hb2⟩
            have B1 := A1.below hb2 (by omega)
            have B2 := A2.below hb2 (by omega)
            have sz2 := hb2.size
            have bl2 := bl1.trans (hb2.mono (by omega))
            clear z0 z1 z2 y0 y1 y2 A1 A2 hb2
            obtain ⟨z0, z1, z2⟩ := id B1
            obtain ⟨y0, y1, y2⟩ := id B2
            go_wp2_with fail
            refine (cC _).out.mono ?_
            rintro e w3 ⟨rfl, hb3⟩
            go_wp2
            go_ret2
            exact ⟨rfl, bl2.trans (hb3.mono (by omega))⟩
          · go_enter Try.func26, Try.ntmps26
            go_wp2_with fail
            refine (cA _).out.mono ?_
            rintro e w1 ⟨rfl, hb1⟩
            have A1 := (at3_first w 65 k i k' i' s s').below hb1 (by simp; omega)
            have A2 := (at3_second w 65 k i k' i' s s').below hb1 (by simp)
            obtain ⟨z0, z1, z2⟩ := id A1
            obtain ⟨y0, y1, y2⟩ := id A2
            have sz1 : w.heap.size + 2 ≤ w1.heap.size := by have := hb1.size; simp at this; omega
            have bl1 : Below w.heap.size w w1 := (((Below.refl _ _).alloc (Nat.le_refl _) _).alloc (by simp) _).trans (hb1.mono (by simp; omega))
            clear hb1
            go_wp2_with fail
            refine (cB _).out.mono ?_
            rintro e w2 ⟨rfl, hb2⟩
            have B1 := A1.below hb2 (by omega)
            have B2 := A2.below hb2 (by omega)
            have sz2 := hb2.size
            have bl2 := bl1.trans (hb2.mono (by omega))
            clear z0 z1 z2 y0 y1 y2 A1 A2 hb2
            obtain ⟨z0, z1, z2⟩ := id B1
            obtain ⟨y0, y1, y2⟩ := id B2
            go_wp2_with fail
            refine (cC _).out.mono ?_
            rintro e w3 ⟨rfl, hb3⟩
            go_wp2
            go_ret2
            exact ⟨rfl, bl2.trans (hb3.mono (by omega))⟩
          · go_enter Try.func26, Try.ntmps26
            go_wp2_with fail
            refine (cA _).out.mono ?_
            rintro e w1 ⟨rfl, hb1⟩
            have A1 := (at3_first w 65 k i k' i' s s').below hb1 (by simp; omega)
            have A2 := (at3_second w 65 k i k' i' s s').below hb1 (by simp)
            obtain ⟨z0, z1, z2⟩ := id A1
            obtain ⟨y0, y1, y2⟩ := id A2
            have sz1 : w.heap.size + 2 ≤ w1.heap.size := by have := hb1.size; simp at this; omega
            have bl1 : Below w.heap.size w w1 := (((Below.refl _ _).alloc (Nat.le_refl _) _).alloc (by simp) _).trans (hb1.mono (by simp; omega))
            clear hb1
            go_wp2_with fail
            refine (cB _).out.mono ?_
            rintro e w2 ⟨rfl, hb2⟩
            have B1 := A1.below hb2 (by omega)
            have B2 := A2.below hb2 (by omega)
            have sz2 := hb2.size
            have bl2 := bl1.trans (hb2.mono (by omega))
            clear z0 z1 z2 y0 y1 y2 A1 A2 hb2
            obtain ⟨z0, z1, z2⟩ := id B1
            obtain ⟨y0, y1, y2⟩ := id B2
            go_wp2_with fail
            refine (cC _).out.mono ?_
            rintro e w3 ⟨rfl, hb3⟩
            go_wp2
            go_ret2
            exact ⟨rfl, bl2.trans (hb3.mono (by omega))⟩

end Sym
end Go.Proofs.Ytkejjiohkhlnnaa
