/-
  The plain law of the sum: what four turns make of a half byte; no program in sight.
-/
import Derived.WalkKit
namespace Go.Proofs.YtdgpdmbfhehpfaaGreatDoor
namespace Crc

def tabL : List Nat := [0, 498536548, 997073096, 651767980, 1994146192, 1802195444, 1303535960, 1342533948, 3988292384, 4027552580, 3604390888, 3412177804, 2607071920, 2262029012, 2685067896, 3183342108]
def tab (k : Nat) : Nat := tabL.getD k 0
def half (c : Nat) : Nat := tab (c % 16) ^^^ (c / 16)
def byte (c : Nat) (u : UInt8) : Nat := half (half (c ^^^ u.toNat))
def feed (c : Nat) (l : List UInt8) : Nat := l.foldl byte c
def feeds (c : Nat) (ss : List (List UInt8)) : Nat := ss.foldl feed c
def sum (ss : List (List UInt8)) : Nat := 4294967295 - feeds 4294967295 ss

theorem tab_lt (k : Nat) : tab k < 4294967296 := by
  unfold tab tabL
  by_cases h : k < 16
  · have : ∀ k : Fin 16, [0, 498536548, 997073096, 651767980, 1994146192, 1802195444, 1303535960, 1342533948, 3988292384, 4027552580, 3604390888, 3412177804, 2607071920, 2262029012, 2685067896, 3183342108].getD k.1 0 < 4294967296 := by decide
    exact this ⟨k, h⟩
  · rw [List.getD_eq_getElem?_getD, List.getElem?_eq_none (by simp; omega)]; decide

theorem xor_lt {a b : Nat} (ha : a < 4294967296) (hb : b < 4294967296) : a ^^^ b < 4294967296 := Nat.xor_lt_two_pow (n := 32) ha hb

theorem half_lt {c : Nat} (h : c < 4294967296) : half c < 4294967296 := xor_lt (tab_lt _) (by omega)
theorem byte_lt {c : Nat} (u : UInt8) (h : c < 4294967296) : byte c u < 4294967296 :=
  half_lt (half_lt (xor_lt h (by have := u.toNat_lt; omega)))
theorem feed_lt {c : Nat} (l : List UInt8) (h : c < 4294967296) : feed c l < 4294967296 := by
  induction l generalizing c with
  | nil => exact h
  | cons u l ih => exact ih (byte_lt u h)
theorem feeds_lt {c : Nat} (l : List (List UInt8)) (h : c < 4294967296) : feeds c l < 4294967296 := by
  induction l generalizing c with
  | nil => exact h
  | cons u l ih => exact ih (feed_lt u h)
theorem sum_lt (l : List (List UInt8)) : sum l < 4294967296 := by unfold sum; omega

theorem feed_append (c : Nat) (l m : List UInt8) : feed c (l ++ m) = feed (feed c l) m := by simp [feed]
theorem feeds_flatten (c : Nat) (l : List (List UInt8)) : feeds c l = feed c l.flatten := by
  induction l generalizing c with
  | nil => rfl
  | cons u l ih => simp only [List.flatten_cons, feed_append]; exact ih _
theorem sum_flatten (l : List (List UInt8)) : sum l = sum [l.flatten] := by
  unfold sum; rw [feeds_flatten, feeds_flatten]; simp

/-! what the walk meets -/
theorem xor_byte (c : Nat) (u : UInt8) (h : c < 4294967296) : bits .xor .u32 (c : Int) ((u.toNat : Int) % 4294967296) = ((c ^^^ u.toNat : Nat) : Int) := by
  have hu := u.toNat_lt
  rw [show ((u.toNat : Int) % 4294967296) = ((u.toNat : Nat) : Int) from by omega]
  exact u32_xor_nat _ _ h (by omega)
theorem and15 (c : Nat) (h : c < 4294967296) : bits .and .u32 (c : Int) 15 = ((c % 16 : Nat) : Int) := by
  rw [show (15 : Int) = ((15 : Nat) : Int) from rfl, u32_and_nat _ _ h (by omega), nat_mask4]
theorem xor_half (c : Nat) (h : c < 4294967296) : bits .xor .u32 (tab (c % 16) : Int) ((c : Int) / 16) = ((half c : Nat) : Int) := by
  rw [show ((c : Int) / 16) = ((c / 16 : Nat) : Int) from by omega]
  exact u32_xor_nat _ _ (tab_lt _) (by omega)

theorem nat_not (c : Nat) (h : c < 4294967296) : 4294967295 ^^^ c = 4294967295 - c := by
  have e : (BitVec.allOnes 32 ^^^ BitVec.ofNat 32 c) = ~~~ (BitVec.ofNat 32 c) := by
    ext i hi; rw [BitVec.getElem_xor, BitVec.getElem_not, BitVec.getElem_allOnes, Bool.true_xor]
  have e2 := congrArg BitVec.toNat e
  rw [BitVec.toNat_xor, BitVec.toNat_not] at e2
  simp only [BitVec.toNat_allOnes, BitVec.toNat_ofNat] at e2
  rw [Nat.mod_eq_of_lt (by omega : c < 2 ^ 32)] at e2
  simpa using e2
theorem not_u32 (c : Nat) (h : c < 4294967296) : bits .xor .u32 IntKind.u32.max (c : Int) = ((4294967295 - c : Nat) : Int) := by
  rw [show IntKind.u32.max = ((4294967295 : Nat) : Int) from by decide, u32_xor_nat _ _ (by omega) h, nat_not c h]

/-- a half step, in the walk's words -/
theorem step (c : Nat) (h : c < 4294967296) : ∃ r x : Nat, r < 16 ∧ x < 4294967296 ∧ x = half c ∧ bits .and .u32 (c : Int) 15 = (r : Int) ∧ bits .xor .u32 (tab r : Int) ((c : Int) / 16) = (x : Int) :=
  ⟨c % 16, half c, Nat.mod_lt _ (by omega), half_lt h, rfl, and15 c h, xor_half c h⟩
theorem start (c : Nat) (u : UInt8) (h : c < 4294967296) : ∃ x : Nat, x < 4294967296 ∧ x = c ^^^ u.toNat ∧ bits .xor .u32 (c : Int) ((u.toNat : Int) % 4294967296) = (x : Int) :=
  ⟨_, xor_lt h (by have := u.toNat_lt; omega), rfl, xor_byte c u h⟩

theorem take_snoc (s : ByteArray) (k : Nat) (h : k < s.size) : s.data.toList.take (k + 1) = s.data.toList.take k ++ [s[k]] := by
  rw [List.take_succ_eq_append_getElem (by simpa using h)]; rfl
theorem feed_snoc (c : Nat) (s : ByteArray) (k : Nat) (h : k < s.size) : feed c (s.data.toList.take (k + 1)) = byte (feed c (s.data.toList.take k)) s[k] := by
  rw [take_snoc s k h, feed_append]; rfl
def lists (ss : List ByteArray) : List (List UInt8) := ss.map (·.data.toList)
theorem feeds_snoc (c : Nat) (ss : List ByteArray) (k : Nat) (h : k < ss.length) :
    feeds c (lists (ss.take (k + 1))) = feed (feeds c (lists (ss.take k))) ss[k].data.toList := by
  rw [List.take_succ_eq_append_getElem h]; simp only [lists, feeds, List.map_append, List.foldl_append]; rfl

/-! bit by bit -/
def bit (c : Nat) : Nat := if c % 2 = 1 then (c / 2) ^^^ 3988292384 else c / 2
def bitsN : Nat → Nat → Nat
  | 0, c => c
  | n + 1, c => bit (bitsN n c)

theorem bit_lt {c : Nat} (h : c < 4294967296) : bit c < 4294967296 := by
  unfold bit
  split
  · exact xor_lt (by omega) (by omega)
  · omega

theorem bit_in (x y : Nat) : bit (x ^^^ y * 2) = bit x ^^^ y := by
  have h1 := Nat.xor_div_two_pow (a := x) (b := y * 2) (n := 1)
  have h2 := Nat.xor_mod_two_pow (a := x) (b := y * 2) (n := 1)
  simp only [Nat.pow_one] at h1 h2
  rw [Nat.mul_div_cancel _ (by omega)] at h1
  rw [Nat.mul_mod_left, Nat.xor_zero] at h2
  unfold bit
  rw [h1, h2]
  split
  · rw [Nat.xor_assoc, Nat.xor_comm y, ← Nat.xor_assoc]
  · rfl

theorem bit4_in (x y : Nat) : bit (bit (bit (bit (x ^^^ y * 16)))) = bit (bit (bit (bit x))) ^^^ y := by
  rw [show y * 16 = y * 8 * 2 from by omega, bit_in, show y * 8 = y * 4 * 2 from by omega, bit_in, show y * 4 = y * 2 * 2 from by omega, bit_in, bit_in]

theorem join16 (a b : Nat) (ha : a < 16) : a ^^^ b * 16 = b * 16 + a := by
  have h1 : (a ^^^ b * 16) / 16 = b := by
    have := Nat.xor_div_two_pow (a := a) (b := b * 16) (n := 4)
    simp only [Nat.reducePow] at this
    rw [this, Nat.mul_div_cancel _ (by omega), Nat.div_eq_of_lt ha, Nat.zero_xor]
  have h2 : (a ^^^ b * 16) % 16 = a := by
    have := Nat.xor_mod_two_pow (a := a) (b := b * 16) (n := 4)
    simp only [Nat.reducePow] at this
    rw [this, Nat.mul_mod_left, Nat.mod_eq_of_lt ha, Nat.xor_zero]
  have := Nat.div_add_mod (a ^^^ b * 16) 16
  omega

theorem half_bits (c : Nat) : half c = bit (bit (bit (bit c))) := by
  have h : c = (c % 16) ^^^ (c / 16) * 16 := by rw [join16 _ _ (by omega)]; omega
  have ht : ∀ k : Fin 16, tab k.1 = bit (bit (bit (bit k.1))) := by decide
  have := bit4_in (c % 16) (c / 16)
  rw [← h] at this
  rw [this, half, ht ⟨c % 16, by omega⟩]

theorem byte_bits (c : Nat) (u : UInt8) : byte c u = bitsN 8 (c ^^^ u.toNat) := by
  unfold byte
  rw [half_bits, half_bits]
  rfl

theorem bitsN_lt {c : Nat} (h : c < 4294967296) : ∀ n, bitsN n c < 4294967296
  | 0 => h
  | n + 1 => bit_lt (bitsN_lt h n)

end Crc
end Go.Proofs.YtdgpdmbfhehpfaaGreatDoor
