/-
  What joined and fits of the law's package do.
-/
import Derived.Test.YtkejjiohkhlnnaaSRows
namespace Go.Proofs.Ytkejjiohkhlnnaa
open Go.RowKit

/-- l, and the rows of m that are new, in order -/
def joinedL (l m : List Row) : List Row := m.foldl (fun out r => if r ∈ out then out else out ++ [r]) l
theorem joinedL_snoc (l m : List Row) (r : Row) : joinedL l (m ++ [r]) = if r ∈ joinedL l m then joinedL l m else joinedL l m ++ [r] := by
  unfold joinedL; rw [List.foldl_append]; rfl
theorem joinedL_length (l m : List Row) : (joinedL l m).length ≤ l.length + m.length := by
  induction m generalizing l with
  | nil => simp [joinedL]
  | cons r m ih =>
    have h := ih (if r ∈ l then l else l ++ [r])
    simp only [joinedL, List.foldl_cons] at h ⊢
    split at h <;> simp_all <;> omega
theorem joinedL_mem (l m : List Row) (r : Row) : r ∈ joinedL l m ↔ r ∈ l ∨ r ∈ m := by
  induction m generalizing l with
  | nil => simp [joinedL]
  | cons x m ih =>
    have h := ih (if x ∈ l then l else l ++ [x])
    simp only [joinedL, List.foldl_cons] at h ⊢
    rw [h]
    split
    · rename_i hx
      constructor
      · rintro (h | h) <;> simp [h]
      · rintro (h | h)
        · exact .inl h
        · rcases List.mem_cons.1 h with rfl | h
          · exact .inl hx
          · exact .inr h
    · rw [List.mem_append, List.mem_singleton, List.mem_cons, or_assoc]

def fitsL (ar : List Int) : Bool := decide (ar.length < 128) && ar.all fun x => decide (0 ≤ x) && decide (x ≤ 8)

end Go.Proofs.Ytkejjiohkhlnnaa
