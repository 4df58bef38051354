/-
  The law MatchGrounds, walked.
-/
import Derived.Test.YtkejjiohkhlnnaaCopies
namespace Go.Proofs.Ytkejjiohkhlnnaa
open Go.RowKit
namespace Mt

/-- a pattern's two cells -/
def AtP (w : World) (b : Nat) (pred : Int) (a : Option Addr) (n c : Nat) : Prop := w.cell? ⟨b, 0, none⟩ = some (.int .i64 pred) ∧ w.cell? ⟨b, 1, none⟩ = some (.slice a n c)
theorem AtP.below {w w' : World} {B b n c : Nat} {pred : Int} {a : Option Addr} (h : AtP w b pred a n c) (hb : Below B w w') (hB : b < B) : AtP w' b pred a n c :=
  ⟨(hb.cell (p := ⟨b, 0, none⟩) hB).trans h.1, (hb.cell (p := ⟨b, 1, none⟩) hB).trans h.2⟩
theorem atP_new (w : World) (t : TypeId) (pred : Int) (a : Option Addr) (n c : Nat) : AtP (w.alloc (.cells #[.int .i64 pred, .slice a n c] t)) w.heap.size pred a n c := by
  refine ⟨?_, ?_⟩ <;> go_simp

theorem groundD_length (sub : List Int) (l : List (Bool × Int)) : ((groundL sub l).getD []).length ≤ l.length := by
  cases h : groundL sub l with
  | none => simp
  | some xs => rw [Option.getD_some, ground_length h]; exact Nat.le_refl _
theorem ground_end {l : List (Bool × Int)} {xs ys : List Int} {bs : Bool} {W : World} (hy : (groundL xs l).getD [] = ys) (hb : (groundL xs l).isSome = bs) (e : Ending) (w' : World) (h : GroundEnd l xs W e w') :
    ∃ a c, e = .returned (.tuple #[.slice a ys.length c, .bool bs]) ∧ Ints w' a ys ∧ Below W.heap.size W w' := by
  unfold GroundEnd at h
  rw [hy, hb] at h
  exact h

end Mt
end Go.Proofs.Ytkejjiohkhlnnaa
