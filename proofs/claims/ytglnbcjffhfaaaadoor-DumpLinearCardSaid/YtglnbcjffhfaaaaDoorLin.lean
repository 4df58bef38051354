/-
  The plain law: the sum of an exclusive or of three texts of one length is that of their sums. No program in sight.
-/
import Derived.Test.YtglnbcjffhfaaaaDoorCrc
namespace Go.Proofs.YtglnbcjffhfaaaaDoor
namespace Crc
theorem tab_xor {a b : Nat} (ha : a < 16) (hb : b < 16) : tab (a ^^^ b) = tab a ^^^ tab b := by
  have : ∀ x y : Fin 16, tab (x.1 ^^^ y.1) = tab x.1 ^^^ tab y.1 := by decide +kernel
  exact this ⟨a, ha⟩ ⟨b, hb⟩
theorem half_xor (x y : Nat) : half (x ^^^ y) = half x ^^^ half y := by
  have h1 := Nat.xor_mod_two_pow (a := x) (b := y) (n := 4)
  have h2 := Nat.xor_div_two_pow (a := x) (b := y) (n := 4)
  simp only [Nat.reducePow] at h1 h2
  unfold half
  rw [h1, h2, tab_xor (Nat.mod_lt _ (by omega)) (Nat.mod_lt _ (by omega))]
  ac_rfl
theorem byte_xor (x y : Nat) (u v : UInt8) : byte (x ^^^ y) (u ^^^ v) = byte x u ^^^ byte y v := by
  unfold byte
  rw [UInt8.toNat_xor, ← half_xor, ← half_xor]
  congr 2
  ac_rfl
/-- byte by byte -/
def xors : List UInt8 → List UInt8 → List UInt8
  | a :: l, b :: m => (a ^^^ b) :: xors l m
  | _, _ => []
theorem feed_xor (l m : List UInt8) (x y : Nat) (h : l.length = m.length) : feed (x ^^^ y) (xors l m) = feed x l ^^^ feed y m := by
  induction l generalizing m x y with
  | nil => cases m with
    | nil => rfl
    | cons b m => simp at h
  | cons a l ih => cases m with
    | nil => simp at h
    | cons b m =>
      show feed (byte (x ^^^ y) (a ^^^ b)) (xors l m) = feed (byte x a) l ^^^ feed (byte y b) m
      rw [byte_xor]
      exact ih m _ _ (by simpa using h)
theorem xors_length (l m : List UInt8) (h : l.length = m.length) : (xors l m).length = l.length := by
  induction l generalizing m with
  | nil => cases m <;> rfl
  | cons a l ih => cases m with
    | nil => simp at h
    | cons b m => simp only [xors, List.length_cons]; rw [ih m (by simpa using h)]
theorem sum_xor (l m r : List UInt8) (h : l.length = m.length) (h' : l.length = r.length) : sum [xors (xors l m) r] = (sum [l] ^^^ sum [m]) ^^^ sum [r] := by
  have e (t : List UInt8) : sum [t] = 4294967295 ^^^ feed 4294967295 t := (nat_not _ (feed_lt t (by omega))).symm
  have f : feed 4294967295 (xors (xors l m) r) = (feed 4294967295 l ^^^ feed 4294967295 m) ^^^ feed 4294967295 r := by
    rw [← feed_xor l m _ _ h, ← feed_xor _ r _ _ (by rw [xors_length l m h]; exact h')]
    rfl
  rw [e, e, e, e, f]
  have a (x y z w : Nat) : (w ^^^ x ^^^ (w ^^^ y)) ^^^ (w ^^^ z) = w ^^^ (x ^^^ y ^^^ z) := by
    have h1 : w ^^^ x ^^^ (w ^^^ y) = x ^^^ y := by
      rw [Nat.xor_comm w x, Nat.xor_assoc, ← Nat.xor_assoc w w y, Nat.xor_self, Nat.zero_xor]
    rw [h1, ← Nat.xor_assoc, Nat.xor_comm (x ^^^ y) w, Nat.xor_assoc]
  exact (a _ _ _ _).symm
theorem sum_told : sum [[49, 50, 51, 52, 53, 54, 55, 56, 57]] = 3421780262 := by decide +kernel
end Crc
end Go.Proofs.YtglnbcjffhfaaaaDoor
