/-
  What Extend does: the reference's.
-/
import Derived.Test.YtkejjiohkhlnnaaExtL
import Derived.Test.YtkejjiohkhlnnaaGroundsLaw
namespace Go.Proofs.Ytkejjiohkhlnnaa
open Go.RowKit
namespace Mt

theorem chk_at {bad : Z → Bool} {m : Nat} {zs : List Z} {k : Nat} {z : Z} (h : zs[k]? = some z) : chkL bad m (zs.drop k) = if bad z then none else chkL bad (if z.1.1 then max m (z.1.2.toNat + 1) else m) (zs.drop (k + 1)) := by
  rw [drop_at h]; rfl
theorem ints_some {w : World} {a : Option Addr} {xs : List Int} (h : Ints w a xs) {k : Nat} (hk : k < xs.length) : ∃ b o, a = some ⟨b, o, none⟩ ∧ ∃ x, w.cell? ⟨b, o + k, none⟩ = some (.int .i64 x) ∧ Hid (xs[k]? = some x) := by
  rcases h with rfl | ⟨b, o, rfl, hc⟩
  · simp at hk
  · exact ⟨b, o, rfl, ints_at hc hk⟩
theorem slots_some {w : World} {a : Option Addr} {l : List (Bool × Int)} (h : Slots w a l) {k : Nat} (hk : k < l.length) : ∃ b o, a = some ⟨b, o, none⟩ ∧ ∃ v n, w.cell? ⟨b, o + k * 2, none⟩ = some (.bool v) ∧ w.cell? ⟨b, o + k * 2 + 1, none⟩ = some (.int .i64 n) ∧ Hid (l[k]? = some (v, n)) := by
  rcases h with rfl | ⟨b, o, rfl, hc⟩
  · simp at hk
  · exact ⟨b, o, rfl, slots_at hc hk⟩
end Mt
end Go.Proofs.Ytkejjiohkhlnnaa

