/-
  The plain law of the sum: what four turns make of a half byte; no program in sight.
-/
import Derived.WalkKit
namespace Go.Proofs.YtglnbcjffhfaaaaDoor
namespace Crc

def tabL : List Nat := [0, 498536548, 997073096, 651767980, 1994146192, 1802195444, 1303535960, 1342533948, 3988292384, 4027552580, 3604390888, 3412177804, 2607071920, 2262029012, 2685067896, 3183342108]
def tab (k : Nat) : Nat := tabL.getD k 0
def half (c : Nat) : Nat := tab (c % 16) ^^^ (c / 16)
def byte (c : Nat) (u : UInt8) : Nat := half (half (c ^^^ u.toNat))
def feed (c : Nat) (l : List UInt8) : Nat := l.foldl byte c
def feeds (c : Nat) (ss : List (List UInt8)) : Nat := ss.foldl feed c
def sum (ss : List (List UInt8)) : Nat := 4294967295 - feeds 4294967295 ss

theorem tab_lt (k : Nat) : tab k < 4294967296 := by
  unfold tab tabL
  by_cases h : k < 16
  · have : ∀ k : Fin 16, [0, 498536548, 997073096, 651767980, 1994146192, 1802195444, 1303535960, 1342533948, 3988292384, 4027552580, 3604390888, 3412177804, 2607071920, 2262029012, 2685067896, 3183342108].getD k.1 0 < 4294967296 := by decide
    exact this ⟨k, h⟩
  · rw [List.getD_eq_getElem?_getD, List.getElem?_eq_none (by simp; omega)]; decide

theorem xor_lt {a b : Nat} (ha : a < 4294967296) (hb : b < 4294967296) : a ^^^ b < 4294967296 := Nat.xor_lt_two_pow (n := 32) ha hb

theorem half_lt {c : Nat} (h : c < 4294967296) : half c < 4294967296 := xor_lt (tab_lt _) (by omega)
theorem byte_lt {c : Nat} (u : UInt8) (h : c < 4294967296) : byte c u < 4294967296 :=
  half_lt (half_lt (xor_lt h (by have := u.toNat_lt; omega)))
theorem feed_lt {c : Nat} (l : List UInt8) (h : c < 4294967296) : feed c l < 4294967296 := by
  induction l generalizing c with
  | nil => exact h
  | cons u l ih => exact ih (byte_lt u h)
theorem feeds_lt {c : Nat} (l : List (List UInt8)) (h : c < 4294967296) : feeds c l < 4294967296 := by
  induction l generalizing c with
  | nil => exact h
  | cons u l ih => exact ih (feed_lt u h)
theorem sum_lt (l : List (List UInt8)) : sum l < 4294967296 := by unfold sum; omega

theorem feed_append (c : Nat) (l m : List UInt8) : feed c (l ++ m) = feed (feed c l) m := by simp [feed]
theorem feeds_flatten (c : Nat) (l : List (List UInt8)) : feeds c l = feed c l.flatten := by
  induction l generalizing c with
  | nil => rfl
  | cons u l ih => simp only [List.flatten_cons, feed_append]; exact ih _
theorem sum_flatten (l : List (List UInt8)) : sum l = sum [l.flatten] := by
  unfold sum; rw [feeds_flatten, feeds_flatten]; simp

/-! what the walk meets -/
theorem xor_byte (c : Nat) (u : UInt8) (h : c < 4294967296) : bits .xor .u32 (c : Int) ((u.toNat : Int) % 4294967296) = ((c ^^^ u.toNat : Nat) : Int) := by
  have hu := u.toNat_lt
  rw [show ((u.toNat : Int) % 4294967296) = ((u.toNat : Nat) : Int) from by omega]
  exact u32_xor_nat _ _ h (by omega)
theorem and15 (c : Nat) (h : c < 4294967296) : bits .and .u32 (c : Int) 15 = ((c % 16 : Nat) : Int) := by
  rw [show (15 : Int) = ((15 : Nat) : Int) from rfl, u32_and_nat _ _ h (by omega), nat_mask4]
theorem xor_half (c : Nat) (h : c < 4294967296) : bits .xor .u32 (tab (c % 16) : Int) ((c : Int) / 16) = ((half c : Nat) : Int) := by
  rw [show ((c : Int) / 16) = ((c / 16 : Nat) : Int) from by omega]
  exact u32_xor_nat _ _ (tab_lt _) (by omega)

theorem nat_not (c : Nat) (h : c < 4294967296) : 4294967295 ^^^ c = 4294967295 - c := by
  have e : (BitVec.allOnes 32 ^^^ BitVec.ofNat 32 c) = ~~~ (BitVec.ofNat 32 c) := by
    ext i hi; rw [BitVec.getElem_xor, BitVec.getElem_not, BitVec.getElem_allOnes, Bool.true_xor]
  have e2 := congrArg BitVec.toNat e
  rw [BitVec.toNat_xor, BitVec.toNat_not] at e2
  simp only [BitVec.toNat_allOnes, BitVec.toNat_ofNat] at e2
  rw [Nat.mod_eq_of_lt (by omega : c < 2 ^ 32)] at e2
  simpa using e2
theorem not_u32 (c : Nat) (h : c < 4294967296) : bits .xor .u32 IntKind.u32.max (c : Int) = ((4294967295 - c : Nat) : Int) := by
  rw [show IntKind.u32.max = ((4294967295 : Nat) : Int) from by decide, u32_xor_nat _ _ (by omega) h, nat_not c h]

/-- a half step, in the walk's words -/
theorem step (c : Nat) (h : c < 4294967296) : ∃ r x : Nat, r < 16 ∧ x < 4294967296 ∧ x = half c ∧ bits .and .u32 (c : Int) 15 = (r : Int) ∧ bits .xor .u32 (tab r : Int) ((c : Int) / 16) = (x : Int) :=
  ⟨c % 16, half c, Nat.mod_lt _ (by omega), half_lt h, rfl, and15 c h, xor_half c h⟩
theorem start (c : Nat) (u : UInt8) (h : c < 4294967296) : ∃ x : Nat, x < 4294967296 ∧ x = c ^^^ u.toNat ∧ bits .xor .u32 (c : Int) ((u.toNat : Int) % 4294967296) = (x : Int) :=
  ⟨_, xor_lt h (by have := u.toNat_lt; omega), rfl, xor_byte c u h⟩

theorem take_snoc (s : ByteArray) (k : Nat) (h : k < s.size) : s.data.toList.take (k + 1) = s.data.toList.take k ++ [s[k]] := by
  rw [List.take_succ_eq_append_getElem (by simpa using h)]; rfl
theorem feed_snoc (c : Nat) (s : ByteArray) (k : Nat) (h : k < s.size) : feed c (s.data.toList.take (k + 1)) = byte (feed c (s.data.toList.take k)) s[k] := by
  rw [take_snoc s k h, feed_append]; rfl
def lists (ss : List ByteArray) : List (List UInt8) := ss.map (·.data.toList)
theorem feeds_snoc (c : Nat) (ss : List ByteArray) (k : Nat) (h : k < ss.length) :
    feeds c (lists (ss.take (k + 1))) = feed (feeds c (lists (ss.take k))) ss[k].data.toList := by
  rw [List.take_succ_eq_append_getElem h]; simp only [lists, feeds, List.map_append, List.foldl_append]; rfl

/-! where the bytes are cut is no matter -/
theorem sum_of (l m : List (List UInt8)) (h : l.flatten = m.flatten) : sum l = sum m := by
  rw [sum_flatten l, sum_flatten m, h]

/-! the sum behind its own text -/
theorem join (a b : Nat) (ha : a < 256) : a ^^^ b * 256 = b * 256 + a := by
  have h1 : (a ^^^ b * 256) / 256 = b := by
    have := Nat.xor_div_two_pow (a := a) (b := b * 256) (n := 8)
    simp only [Nat.reducePow] at this
    rw [this, Nat.mul_div_cancel _ (by omega), Nat.div_eq_of_lt ha, Nat.zero_xor]
  have h2 : (a ^^^ b * 256) % 256 = a := by
    have := Nat.xor_mod_two_pow (a := a) (b := b * 256) (n := 8)
    simp only [Nat.reducePow] at this
    rw [this, Nat.mul_mod_left, Nat.mod_eq_of_lt ha, Nat.xor_zero]
  have := Nat.div_add_mod (a ^^^ b * 256) 256
  omega

theorem half_in (x y : Nat) : half (x ^^^ y * 16) = half x ^^^ y := by
  have h1 := Nat.xor_div_two_pow (a := x) (b := y * 16) (n := 4)
  have h2 := Nat.xor_mod_two_pow (a := x) (b := y * 16) (n := 4)
  simp only [Nat.reducePow] at h1 h2
  unfold half
  rw [h1, h2, Nat.mul_div_cancel _ (by omega), Nat.mul_mod_left, Nat.xor_zero, Nat.xor_assoc]

theorem half2_in (x y : Nat) : half (half (x ^^^ y * 256)) = half (half x) ^^^ y := by
  rw [show y * 256 = y * 16 * 16 from by omega, half_in, half_in]
theorem half4_in (x y : Nat) : half (half (half (half (x ^^^ y * 65536)))) = half (half (half (half x))) ^^^ y := by
  rw [show y * 65536 = y * 256 * 256 from by omega, half2_in, half2_in]
theorem half6_in (x y : Nat) : half (half (half (half (half (half (x ^^^ y * 16777216)))))) = half (half (half (half (half (half x))))) ^^^ y := by
  rw [show y * 16777216 = y * 65536 * 256 from by omega, half2_in, half4_in]

theorem fold4 (n : Nat) : n % 256 ^^^ (n / 256 % 256) * 256 ^^^ (n / 65536 % 256) * 65536 ^^^ (n / 16777216) * 16777216 = n := by
  have a3 := join (n / 65536 % 256) (n / 16777216) (by omega)
  have a2 := join (n / 256 % 256) (n / 65536) (by omega)
  have a1 := join (n % 256) (n / 256) (by omega)
  have s (x y : Nat) : (x ^^^ y) * 256 = x * 256 ^^^ y * 256 := by
    have := Nat.shiftLeft_xor_distrib (a := x) (b := y) (i := 8)
    simpa [Nat.shiftLeft_eq] using this
  rw [show (n / 65536 % 256) * 65536 = (n / 65536 % 256) * 256 * 256 from by omega, show n / 16777216 * 16777216 = n / 16777216 * 256 * 256 * 256 from by omega]
  rw [Nat.xor_assoc, Nat.xor_assoc, ← s, ← s, ← s, a3]
  rw [show n / 16777216 * 256 + n / 65536 % 256 = n / 65536 from by omega, a2]
  rw [show n / 65536 * 256 + n / 256 % 256 = n / 256 from by omega, a1]
  omega

def fourB (n : Nat) : List UInt8 := [UInt8.ofNat (n % 256), UInt8.ofNat (n / 256 % 256), UInt8.ofNat (n / 65536 % 256), UInt8.ofNat (n / 16777216)]

theorem feed_four (c n : Nat) (hn : n < 4294967296) : feed c (fourB n) = half (half (half (half (half (half (half (half (c ^^^ n)))))))) := by
  have e (k : Nat) (h : k < 256) : (UInt8.ofNat k).toNat = k := by
    simpa using h
  unfold fourB feed byte
  simp only [List.foldl_cons, List.foldl_nil]
  rw [e _ (by omega), e _ (by omega), e _ (by omega), e _ (by omega)]
  have h2 (x y : Nat) : half (half x) ^^^ y = half (half (x ^^^ y * 256)) := (half2_in x y).symm
  have f := fold4 n
  simp only [h2]
  rw [show n / 65536 % 256 * 256 * 256 = n / 65536 % 256 * 65536 from by omega, show n / 16777216 * 256 * 256 * 256 = n / 16777216 * 16777216 from by omega]
  have g : c ^^^ n % 256 ^^^ n / 256 % 256 * 256 ^^^ n / 65536 % 256 * 65536 ^^^ n / 16777216 * 16777216 = c ^^^ n := by
    conv => rhs; rw [← f]
    simp only [Nat.xor_assoc]
  rw [g]

theorem own (l : List UInt8) : sum [l, fourB (sum [l])] = 558161692 := by
  have hc := feed_lt l (c := 4294967295) (by omega)
  have e : sum [l] = 4294967295 - feed 4294967295 l := rfl
  have hx : feed 4294967295 l ^^^ sum [l] = 4294967295 := by
    rw [e, ← nat_not _ hc, Nat.xor_comm 4294967295, ← Nat.xor_assoc, Nat.xor_self, Nat.zero_xor]
  have : feed (feed 4294967295 l) (fourB (sum [l])) = 3736805603 := by
    rw [feed_four _ _ (sum_lt _), hx]; decide
  show 4294967295 - feed (feed 4294967295 l) (fourB (sum [l])) = _
  rw [this]

end Crc
end Go.Proofs.YtglnbcjffhfaaaaDoor
