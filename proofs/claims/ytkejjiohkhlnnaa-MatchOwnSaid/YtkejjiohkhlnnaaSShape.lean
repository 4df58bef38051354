/-
  What shaped of the law's package does.
-/
import Derived.Test.YtkejjiohkhlnnaaSLaw
namespace Go.Proofs.Ytkejjiohkhlnnaa
open Go.RowKit

def Rng (x : Int) : Prop := -9223372036854775808 ≤ x ∧ x ≤ 9223372036854775807
def fixI (v : Int) : Int := if v < 0 then -(v + 1) else v
/-- the predicate that a number means -/
def predOf (n : Nat) (p : Int) : Nat := (if p.tmod ((n : Int) + 1) < 0 then p.tmod ((n : Int) + 1) + n + 1 else p.tmod ((n : Int) + 1)).toNat
def argsOf (xs : List Int) (c : Nat) : List Int := (List.range c).map fun j => fixI ((xs[j]?).getD 0)
def countOf (ar : List Int) (P : Nat) : Nat := ((ar[P]?).getD 0).toNat
def shape (ar : List Int) (r : Row) : Row := ((predOf ar.length r.1 : Nat), argsOf r.2 (countOf ar (predOf ar.length r.1)))
theorem argsOf_snoc (xs : List Int) (j : Nat) : argsOf xs (j + 1) = argsOf xs j ++ [fixI ((xs[j]?).getD 0)] := by
  simp [argsOf, List.range_succ]
theorem argsOf_length (xs : List Int) (c : Nat) : (argsOf xs c).length = c := by simp [argsOf]
theorem tmod_gt (n k : Int) (hk : 0 < k) : -k < n.tmod k := by
  rcases Int.le_total 0 n with h | h
  · have := Int.tmod_nonneg k h; omega
  · have := Int.tmod_lt_of_pos (-n) hk
    rw [Int.neg_tmod] at this
    omega
theorem predOf_le (n : Nat) (p : Int) : predOf n p ≤ n := by
  have h1 := Int.tmod_lt_of_pos p (show (0 : Int) < n + 1 by omega)
  have h2 := tmod_gt p (n + 1) (by omega)
  unfold predOf
  split <;> omega
theorem fits_at {ar : List Int} (h : fitsL ar = true) {P : Nat} {x : Int} (hx : ar[P]? = some x) : 0 ≤ x ∧ x ≤ 8 := by
  unfold fitsL at h
  simp only [Bool.and_eq_true, List.all_eq_true, decide_eq_true_eq] at h
  exact h.2 x (List.mem_of_getElem? hx)
theorem fits_len {ar : List Int} (h : fitsL ar = true) : ar.length < 128 := by
  unfold fitsL at h
  simp only [Bool.and_eq_true, decide_eq_true_eq] at h
  exact h.1
theorem ownsInts_base {w : World} {B B' : Nat} {v : Value} {n : Nat} {xs : List Value} (h : w.ownsRow B 3 1 v n xs) (hb : B' ≤ B) : w.ownsRow B' 3 1 v n xs := by
  rcases h with ⟨h1, h2 | ⟨g, cap, cur, h3, h4, h5⟩⟩
  · exact ⟨h1, .inl h2⟩
  · exact ⟨h1, .inr ⟨g, cap, cur, h3, by omega, h5⟩⟩

end Go.Proofs.Ytkejjiohkhlnnaa
