/-
  Constants by their fields: what a name is, what a constant is, their order: plain Lean, no program in sight.
-/
import Derived.WalkKit
namespace Go.Proofs.Ytkejjiohkhlnnaa
namespace Sym

def lowB (b : UInt8) : Bool := decide (97 ≤ b.toNat) && decide (b.toNat ≤ 122)
def upB (b : UInt8) : Bool := decide (65 ≤ b.toNat) && decide (b.toNat ≤ 90)
def digB (b : UInt8) : Bool := decide (48 ≤ b.toNat) && decide (b.toNat ≤ 57)
/-- may the byte stand in a word behind its first one? -/
def tailB (b : UInt8) : Bool := lowB b || upB b || digB b || b == 95
def notL : List UInt8 := [110, 111, 116]
/-- is it a word whose first byte is small? -/
def wordL : List UInt8 → Bool
  | [] => false
  | c :: r => decide (r.length < 64) && lowB c && r.all tailB
def nameL (l : List UInt8) : Bool := !(l == notL) && wordL l
/-- is it a constant? -/
def validC (k i : Int) (l : List UInt8) : Bool :=
  if k = 1 then l.isEmpty else if k = 2 then decide (i = 0) && nameL l else if k = 3 then decide (i = 0) && decide (l.length ≤ 255) else false

/-- the order of two texts, byte by byte -/
def cmpL : List UInt8 → List UInt8 → Int
  | [], [] => 0
  | [], _ :: _ => -1
  | _ :: _, [] => 1
  | a :: l, b :: m => if a.toNat < b.toNat then -1 else if b.toNat < a.toNat then 1 else cmpL l m
def cmpI (a b : Int) : Int := if a < b then -1 else if b < a then 1 else 0
/-- the order of two constants -/
def cmpC (k i : Int) (l : List UInt8) (k' i' : Int) (l' : List UInt8) : Int :=
  if cmpI k k' ≠ 0 then cmpI k k' else if cmpI i i' ≠ 0 then cmpI i i' else cmpL l l'

theorem cmpI_range (a b : Int) : cmpI a b = -1 ∨ cmpI a b = 0 ∨ cmpI a b = 1 := by unfold cmpI; split <;> (try split) <;> simp
theorem cmpL_range (a b : List UInt8) : cmpL a b = -1 ∨ cmpL a b = 0 ∨ cmpL a b = 1 := by
  induction a generalizing b with
  | nil => cases b <;> simp [cmpL]
  | cons x a ih =>
    cases b with
    | nil => simp [cmpL]
    | cons y b => unfold cmpL; split <;> (try split) <;> simp [ih]
theorem cmpC_range (k i : Int) (l : List UInt8) (k' i' : Int) (l' : List UInt8) : cmpC k i l k' i' l' = -1 ∨ cmpC k i l k' i' l' = 0 ∨ cmpC k i l k' i' l' = 1 := by
  unfold cmpC
  split
  · exact cmpI_range _ _
  · split
    · exact cmpI_range _ _
    · exact cmpL_range _ _

/-- Go's '<' on strings -/
theorem less_iff (a b : List UInt8) : Op.bytesLess a b = decide (cmpL a b = -1) := by
  induction a generalizing b with
  | nil => cases b <;> simp [Op.bytesLess, cmpL]
  | cons x a ih =>
    cases b with
    | nil => simp [Op.bytesLess, cmpL]
    | cons y b =>
      simp only [Op.bytesLess, cmpL, ih]
      by_cases h1 : x.toNat < y.toNat
      · simp [h1, UInt8.lt_iff_toNat_lt]
      · by_cases h2 : y.toNat < x.toNat
        · have : ¬ x = y := by rintro rfl; omega
          simp [h1, h2, this, UInt8.lt_iff_toNat_lt]
        · have : x = y := UInt8.toNat_inj.1 (by omega)
          subst this
          simp [h1]
theorem same_iff (a b : List UInt8) : cmpL a b = 0 ↔ a = b := by
  induction a generalizing b with
  | nil => cases b <;> simp [cmpL]
  | cons x a ih =>
    cases b with
    | nil => simp [cmpL]
    | cons y b =>
      unfold cmpL
      by_cases h1 : x.toNat < y.toNat
      · have : ¬ x = y := by rintro rfl; omega
        simp [h1, this]
      · by_cases h2 : y.toNat < x.toNat
        · have : ¬ x = y := by rintro rfl; omega
          simp [h1, h2, this]
        · have : x = y := UInt8.toNat_inj.1 (by omega)
          subst this
          simp [ih]
end Sym
end Go.Proofs.Ytkejjiohkhlnnaa
