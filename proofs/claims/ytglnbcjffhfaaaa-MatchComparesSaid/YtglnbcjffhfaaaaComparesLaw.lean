/-
  The law MatchCompares, walked: for every operation and every two constants the program's comparison and the reference's are one.
-/
import Derived.Test.YtglnbcjffhfaaaaCompare
namespace Go.Proofs.Ytglnbcjffhfaaaa
open Go.RowKit
namespace Sym
set_option maxHeartbeats 2000000 in
theorem matchCompares_any (op k i : Int) (s : ByteArray) (k' i' : Int) (s' : ByteArray) (w : World) (hs : s.size ≤ 9223372036854775807) (hs' : s'.size ≤ 9223372036854775807) :
    Calls Try.prog 5 #[.int .i64 op, .agg #[.int .i64 k, .int .i64 i, .string s], .agg #[.int .i64 k', .int .i64 i', .string s']] w
      fun e w' => e = .returned (.bool true) ∧ Below w.heap.size w w' := by
  have cA := fun W => Lib.hid (matchCompare_any op k i s k' i' s' W hs hs')
  have cB := fun W => Lib.hid (refCompare06_any op k i s k' i' s' W hs hs')
  generalize (compareR op k i s.data.toList k' i' s'.data.toList).1 = x at *
  generalize (compareR op k i s.data.toList k' i' s'.data.toList).2 = y at *
  go_enter Try.func5, Try.ntmps5
  go_wp2_with fail
  refine (cA _).out.mono ?_
  rintro e w1 ⟨rfl, hb1⟩
  have A1 := (at3_first w 36 k i k' i' s s').below hb1 (by simp; omega)
  have A2 := (at3_second w 36 k i k' i' s s').below hb1 (by simp)
  obtain ⟨z0, z1, z2⟩ := id A1
  obtain ⟨y0, y1, y2⟩ := id A2
  have sz1 : w.heap.size + 2 ≤ w1.heap.size := by have := hb1.size; simp at this; omega
  have bl1 : Below w.heap.size w w1 := (((Below.refl _ _).alloc (Nat.le_refl _) _).alloc (by simp) _).trans (hb1.mono (by simp; omega))
  clear hb1
  go_wp2_with fail
  refine (cB _).out.mono ?_
  rintro e w2 ⟨rfl, hb2⟩
  go_wp2
  go_ret
  exact ⟨rfl, bl1.trans (hb2.mono (by omega))⟩
end Sym
end Go.Proofs.Ytglnbcjffhfaaaa
