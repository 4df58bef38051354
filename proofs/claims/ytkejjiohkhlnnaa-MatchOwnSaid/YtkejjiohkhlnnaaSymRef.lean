/-
  What the reference's calls on constants do.
-/
import Derived.Test.YtkejjiohkhlnnaaSymValid
import Derived.Test.YtkejjiohkhlnnaaSymCmp
namespace Go.Proofs.Ytkejjiohkhlnnaa
open Go.RowKit
namespace Sym
theorem ref_cases (c : UInt8) : (lowB c = true ∧ tailB c = true) ∨ (lowB c = false ∧ upB c = true ∧ tailB c = true) ∨
    (lowB c = false ∧ upB c = false ∧ digB c = true ∧ tailB c = true) ∨ (lowB c = false ∧ upB c = false ∧ digB c = false ∧ c = 95 ∧ tailB c = true) ∨
    (lowB c = false ∧ upB c = false ∧ digB c = false ∧ ((c.toNat : Int) != 95) = true ∧ tailB c = false) := by
  cases h1 : lowB c with
  | true => exact .inl ⟨rfl, by simp [tailB, h1]⟩
  | false =>
    cases h2 : upB c with
    | true => exact .inr (.inl ⟨rfl, rfl, by simp [tailB, h2]⟩)
    | false =>
      cases h3 : digB c with
      | true => exact .inr (.inr (.inl ⟨rfl, rfl, rfl, by simp [tailB, h3]⟩))
      | false =>
        by_cases h4 : c = 95
        · exact .inr (.inr (.inr (.inl ⟨rfl, rfl, rfl, h4, by simp [tailB, h4]⟩)))
        · refine .inr (.inr (.inr (.inr ⟨rfl, rfl, rfl, ?_, by simp [tailB, h1, h2, h3, h4]⟩)))
          have : c.toNat ≠ 95 := fun e => h4 (UInt8.toNat_inj.1 e)
          simp only [bne_iff_ne]
          omega

theorem cmpL_drop {a b : List UInt8} {k : Nat} {x y : UInt8} (hx : a[k]? = some x) (hy : b[k]? = some y) :
    cmpL (a.drop k) (b.drop k) = if x.toNat < y.toNat then -1 else if y.toNat < x.toNat then 1 else cmpL (a.drop (k + 1)) (b.drop (k + 1)) := by
  obtain ⟨hk, rfl⟩ := List.getElem?_eq_some_iff.1 hx
  obtain ⟨hk', rfl⟩ := List.getElem?_eq_some_iff.1 hy
  rw [List.drop_eq_getElem_cons hk, List.drop_eq_getElem_cons hk', cmpL]

theorem below_of_drewN {w w' : World} {B : Nat} (h : ∃ n, w.drewN n = w') : Below B w w' := by
  obtain ⟨n, rfl⟩ := h
  exact below_drewN (Below.refl _ _) n

end Sym
end Go.Proofs.Ytkejjiohkhlnnaa
