/-
  What made and told of the law's package do.
-/
import Derived.Test.YtkejjiohkhlnnaaSAdd
import Derived.Test.YtkejjiohkhlnnaaSNew
namespace Go.Proofs.Ytkejjiohkhlnnaa
open Go.RowKit
open Go.Maps (Keyed)

/-- the store that made makes -/
def madeSt (ar : List Int) : St := (⟨ar ++ [0], [], [], 0, []⟩ : St).push ((ar.length : Int), [])

theorem fits_row0 {ar : List Int} : FitsRow (ar ++ [0]) ((ar.length : Int), []) := by
  refine ⟨by simp, by simp; omega, ?_, by simp, fun x hx => by cases hx⟩
  simp

end Go.Proofs.Ytkejjiohkhlnnaa
