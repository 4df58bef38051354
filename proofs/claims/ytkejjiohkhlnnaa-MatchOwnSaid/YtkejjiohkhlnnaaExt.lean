/-
  What Extend does: the program's.
-/
import Derived.Test.YtkejjiohkhlnnaaExtL
import Derived.Test.YtkejjiohkhlnnaaRefExt
import Derived.Laws.OwnMore
import Derived.Deep.RegionHeld3
namespace Go.Proofs.Ytkejjiohkhlnnaa
open Go.RowKit
namespace Mt
theorem addr_add0 (b j : Nat) : (⟨b, 0, none⟩ : Addr).add j = ⟨b, j, none⟩ := by unfold Addr.add; split <;> simp_all

theorem row_at {ys : List Int} {zs : List Z} {k : Nat} {z : Z} (h : zs[k]? = some z) : rowL ys (zs.drop k) = if z.1.1 = true then (if 0 ≤ ys.getD z.1.2.toNat 0 ∧ ys.getD z.1.2.toNat 0 ≠ z.2 then none else rowL (ys.set z.1.2.toNat z.2) (zs.drop (k + 1)))
    else if z.1.2 = z.2 then rowL ys (zs.drop (k + 1)) else none := by
  rw [drop_at h]; rfl
theorem made_ints (m : Nat) : (madeCells (Value.int .i64 0).cells (m * 1)).toList = (List.replicate m (0 : Int)).map (Value.int .i64) := by
  rw [Nat.mul_one]
  exact (toList_madeCells_one _ _).trans (by simp)
theorem row_cell {w : World} {base e g n cap : Nat} {ys : List Int} (h : w.ownsRow base e 1 (.slice (some ⟨g, 0, none⟩) n cap) n (ys.map (Value.int .i64))) {k : Nat} {y : Int} (hy : ys[k]? = some y) : w.cell? ⟨g, k, none⟩ = some (.int .i64 y) := by
  have := h.cells (g := g) rfl k (.int .i64 y) (by rw [List.getElem?_map, hy]; rfl)
  rw [addr_add0] at this
  exact this
theorem base_done {ys sub : List Int} {m : Nat} (hl : ys.length = m) (h : ∀ j, j < m → ys[j]? = some (boundL sub (j : Int))) : ys = baseL sub m := by
  apply List.ext_getElem?
  intro j
  by_cases hj : j < m
  · rw [h j hj]; simp [baseL, hj]
  · rw [List.getElem?_eq_none (by omega), List.getElem?_eq_none (by simp [baseL]; omega)]
end Mt
end Go.Proofs.Ytkejjiohkhlnnaa

