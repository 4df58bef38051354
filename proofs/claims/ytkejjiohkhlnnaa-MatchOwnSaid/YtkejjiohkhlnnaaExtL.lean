/-
  Extend on lists: what the reference reckons and what the program reckons is one. No program in sight.
-/
import Derived.Test.YtkejjiohkhlnnaaValue
namespace Go.Proofs.Ytkejjiohkhlnnaa
open Go.RowKit
namespace Mt

abbrev Z := (Bool × Int) × Int
def badP (z : Z) : Bool := decide (z.1.2 < 0) || decide (z.2 < 0) || (z.1.1 && decide (16 ≤ z.1.2))
/-- the size after the slots zs, if none is bad -/
def chkL (bad : Z → Bool) (m : Nat) : List Z → Option Nat
  | [] => some m
  | z :: r => if bad z then none else chkL bad (if z.1.1 then max m (z.1.2.toNat + 1) else m) r
def rowL (ys : List Int) : List Z → Option (List Int)
  | [] => some ys
  | z :: r => if z.1.1 = true then (if 0 ≤ ys.getD z.1.2.toNat 0 ∧ ys.getD z.1.2.toNat 0 ≠ z.2 then none else rowL (ys.set z.1.2.toNat z.2) r)
    else if z.1.2 = z.2 then rowL ys r else none
def baseL (sub : List Int) (n : Nat) : List Int := (List.range n).map fun (i : Nat) => boundL sub (i : Int)
def extL (l : List (Bool × Int)) (args sub : List Int) : Option (List Int) :=
  if l.length = args.length then (chkL badP sub.length (l.zip args)).bind fun n => rowL (baseL sub n) (l.zip args) else none

theorem drop_at {α : Type} {l : List α} {k : Nat} {z : α} (h : l[k]? = some z) : l.drop k = z :: l.drop (k + 1) := by
  obtain ⟨hk, rfl⟩ := List.getElem?_eq_some_iff.1 h
  exact List.drop_eq_getElem_cons hk
theorem zip_at {l : List (Bool × Int)} {args : List Int} {k : Nat} {s : Bool × Int} {a : Int} (h1 : l[k]? = some s) (h2 : args[k]? = some a) : (l.zip args)[k]? = some (s, a) := by
  rw [List.getElem?_zip_eq_some]; exact ⟨h1, h2⟩

theorem chk_le {bad : Z → Bool} {m n : Nat} {zs : List Z} (h : chkL bad m zs = some n) : m ≤ n := by
  induction zs generalizing m with
  | nil => simp [chkL] at h; omega
  | cons z r ih =>
    simp only [chkL] at h
    split at h
    · cases h
    · have := ih h
      split at this <;> omega
theorem chk_in {m n : Nat} {zs : List Z} (h : chkL badP m zs = some n) : ∀ z ∈ zs, z.1.1 = true → 0 ≤ z.1.2 ∧ z.1.2 < n := by
  induction zs generalizing m with
  | nil => intro z hz; cases hz
  | cons y r ih =>
    simp only [chkL] at h
    split at h
    · cases h
    · rename_i hb
      intro z hz hv
      rcases List.mem_cons.1 hz with rfl | hz
      · rw [if_pos hv] at h
        have := chk_le h
        simp [badP] at hb
        omega
      · exact ih h z hz hv
end Mt
end Go.Proofs.Ytkejjiohkhlnnaa
