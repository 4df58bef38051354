/-
  What the small calls on bytes and numbers do, the program's and the reference's.
-/
import Derived.Test.YtkejjiohkhlnnaaRows
import Derived.Test.YtkejjiohkhlnnaaSymPlain
import Derived.WalkKit
import Derived.WalkSpells
import Derived.WalkLawsBesides
import Derived.Lib.Hide
namespace Go.Proofs.Ytkejjiohkhlnnaa
open Go.RowKit
namespace Sym

theorem small_any (b : UInt8) (w : World) : Calls Try.prog 79 #[.int .u8 b.toNat] w fun e w' => e = .returned (.bool (lowB b)) ∧ w = w' := by
  by_cases h1 : 97 ≤ b.toNat
  · by_cases h2 : b.toNat ≤ 122
    · have hr : lowB b = true := by simp [lowB, h1, h2]
      have d2 : decide ((b.toNat : Int) ≤ 122) = true := by simp; omega
      rw [hr]; clear hr
      go_enter Try.func79, Try.ntmps79
      go_wp2
      go_ret
      exact ⟨rfl, rfl⟩
    · have hr : lowB b = false := by simp [lowB, h2]
      have d2 : decide ((b.toNat : Int) ≤ 122) = false := by simp; omega
      rw [hr]; clear hr
      go_enter Try.func79, Try.ntmps79
      go_wp2
      go_ret
      exact ⟨rfl, rfl⟩
  · have hr : lowB b = false := by simp [lowB, h1]
    rw [hr]; clear hr
    go_enter Try.func79, Try.ntmps79
    go_wp2
    go_ret
    exact ⟨rfl, rfl⟩

theorem big_any (b : UInt8) (w : World) : Calls Try.prog 91 #[.int .u8 b.toNat] w fun e w' => e = .returned (.bool (upB b || b == 95)) ∧ w = w' := by
  by_cases h1 : 65 ≤ b.toNat
  · by_cases h2 : b.toNat ≤ 90
    · have hr : (upB b || b == 95) = true := by simp [upB, h1, h2]
      have d2 : decide ((b.toNat : Int) ≤ 90) = true := by simp; omega
      rw [hr]; clear hr
      go_enter Try.func91, Try.ntmps91
      go_wp2
      go_ret
      exact ⟨rfl, rfl⟩
    · by_cases h3 : b.toNat = 95
      · have hr : (upB b || b == 95) = true := by
          have : b = 95 := UInt8.toNat_inj.1 h3
          simp [this]
        rw [hr]; clear hr
        rw [h3]
        clear h1 h2 h3
        go_enter Try.func91, Try.ntmps91
        go_wp2
        go_ret
        exact ⟨rfl, rfl⟩
      · have hr : (upB b || b == 95) = false := by
          have : ¬ b = 95 := by rintro rfl; exact h3 rfl
          simp [upB, h2, this]
        have h3' : ((b.toNat : Int) == 95) = false := by simp; omega
        have d2 : decide ((b.toNat : Int) ≤ 90) = false := by simp; omega
        rw [hr]; clear hr h3
        go_enter Try.func91, Try.ntmps91
        go_wp2
        go_ret
        exact ⟨rfl, rfl⟩
  · have hr : (upB b || b == 95) = false := by
      have : ¬ b = 95 := by rintro rfl; exact h1 (by decide)
      simp [upB, h1, this]
    have h3' : ((b.toNat : Int) == 95) = false := by simp; omega
    rw [hr]; clear hr
    go_enter Try.func91, Try.ntmps91
    go_wp2
    go_ret
    exact ⟨rfl, rfl⟩

theorem compareInt_any (a b : Int) (w : World) : Calls Try.prog 59 #[.int .i64 a, .int .i64 b] w fun e w' => e = .returned (.int .i64 (cmpI a b)) ∧ w = w' := by
  rcases Int.lt_trichotomy a b with h | h | h
  · have hr : cmpI a b = -1 := by simp [cmpI, h]
    rw [hr]; clear hr
    go_enter Try.func59, Try.ntmps59
    go_wp2
    go_ret
    exact ⟨rfl, rfl⟩
  · subst h
    have hr : cmpI a a = 0 := by simp [cmpI]
    rw [hr]; clear hr
    go_enter Try.func59, Try.ntmps59
    go_wp2
    go_ret
    exact ⟨rfl, rfl⟩
  · have hr : cmpI a b = 1 := by simp [cmpI, h]; omega
    rw [hr]; clear hr
    go_enter Try.func59, Try.ntmps59
    go_wp2
    go_ret
    exact ⟨rfl, rfl⟩

theorem compareInt64_any (a b : Int) (w : World) : Calls Try.prog 60 #[.int .i64 a, .int .i64 b] w fun e w' => e = .returned (.int .i64 (cmpI a b)) ∧ w = w' := by
  rcases Int.lt_trichotomy a b with h | h | h
  · have hr : cmpI a b = -1 := by simp [cmpI, h]
    rw [hr]; clear hr
    go_enter Try.func60, Try.ntmps60
    go_wp2
    go_ret
    exact ⟨rfl, rfl⟩
  · subst h
    have hr : cmpI a a = 0 := by simp [cmpI]
    rw [hr]; clear hr
    go_enter Try.func60, Try.ntmps60
    go_wp2
    go_ret
    exact ⟨rfl, rfl⟩
  · have hr : cmpI a b = 1 := by simp [cmpI, h]; omega
    rw [hr]; clear hr
    go_enter Try.func60, Try.ntmps60
    go_wp2
    go_ret
    exact ⟨rfl, rfl⟩

theorem compareString_any (s r : ByteArray) (w : World) : Calls Try.prog 61 #[.string s, .string r] w fun e w' => e = .returned (.int .i64 (cmpL s.toList r.toList)) ∧ w = w' := by
  have hl := less_iff s.toList r.toList
  have hs := same_iff s.toList r.toList
  rcases cmpL_range s.toList r.toList with h | h | h
  · rw [h] at hl hs ⊢
    have h1 : Op.bytesLess s.toList r.toList = true := by simpa using hl
    clear hl hs h
    go_enter Try.func61, Try.ntmps61
    go_wp2
    go_ret
    exact ⟨rfl, rfl⟩
  · have he := hs.1 h
    rw [h] at hl ⊢
    have h1 : Op.bytesLess s.toList r.toList = false := by simpa using hl
    have h2 : (s.toList == r.toList) = true := by simpa using he
    clear hl hs h he
    go_enter Try.func61, Try.ntmps61
    go_wp2
    go_ret
    exact ⟨rfl, rfl⟩
  · have he : ¬ s.toList = r.toList := fun e => by have := hs.2 e; omega
    rw [h] at hl ⊢
    have h1 : Op.bytesLess s.toList r.toList = false := by simpa using hl
    have h2 : (s.toList == r.toList) = false := by simpa using he
    clear hl hs h he
    go_enter Try.func61, Try.ntmps61
    go_wp2
    go_ret
    exact ⟨rfl, rfl⟩

end Sym
end Go.Proofs.Ytkejjiohkhlnnaa
