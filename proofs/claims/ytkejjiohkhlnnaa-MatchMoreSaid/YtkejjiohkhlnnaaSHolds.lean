/-
  What holds of the law's package answers of the rows that the store holds: true.
-/
import Derived.Test.YtkejjiohkhlnnaaSMade
namespace Go.Proofs.Ytkejjiohkhlnnaa
open Go.RowKit
open Go.Maps (Keyed)

theorem ofK_at (rows : List Row) (r : Row) (q : Int) : ofK (rows ++ [r]) (.int .i64 q) = if r.1 = q then ofK rows (.int .i64 q) ++ [(rows.length : Int)] else ofK rows (.int .i64 q) := by
  rw [ofK_snoc]
  unfold updL
  by_cases h : r.1 = q
  · rw [if_pos h, if_pos (by rw [h])]
  · rw [if_neg h, if_neg (fun e => h (by simp at e; exact e.symm))]

end Go.Proofs.Ytkejjiohkhlnnaa
