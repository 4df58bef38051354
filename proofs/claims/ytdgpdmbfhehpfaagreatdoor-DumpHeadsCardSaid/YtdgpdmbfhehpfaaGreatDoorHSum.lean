/-
  What the call of dump.Sum does, for every slice of at most a thousand strings: it answers the sum of the bytes, and turns nothing.
-/
import Derived.Test.YtdgpdmbfhehpfaaGreatDoorProg
import Derived.Test.YtdgpdmbfhehpfaaGreatDoorHCrc
import Derived.WalkKit
import Derived.WalkSpells
import Derived.WalkLawsBesides
import Derived.Lib.Hide
namespace Go.Proofs.YtdgpdmbfhehpfaaGreatDoor
open Go.RowKit

/-- the table's cells, as they lie in a world -/
def Tabbed (w : World) : Prop := ∀ k, k < 16 → w.cell? ⟨0, k, none⟩ = some (.int .u32 (Crc.tab k))

set_option maxHeartbeats 400000 in
theorem dumpSum_any (b off : Nat) (ss : List ByteArray) (cap : Nat) (w : World) (hm : ss.length ≤ 1000)
    (hs : ∀ j (h : j < ss.length), ss[j].size ≤ 9223372036854775807)
    (hc : ∀ j (h : j < ss.length), w.cell? ⟨b, off + j, none⟩ = some (.string ss[j]))
    (hT : Tabbed w) :
    Calls Tryz.prog 19 #[.slice (some ⟨b, off, none⟩) ss.length cap] w fun e w' => e = .returned (.int .u32 (Crc.sum (Crc.lists ss) : Nat)) ∧ w' = w := by
  go_enter Tryz.func19, Tryz.ntmps19
  go_wp2
  go_loop [3, 9] (fun n i => ∃ k c : Nat, k ≤ ss.length ∧ c < 4294967296 ∧ i = .int .i64 k ∧ n = .int .u32 c ∧ Hid (c = Crc.feeds 4294967295 (Crc.lists (ss.take k)))) (fun _ i => ss.length - (intOf i).toNat)
  case atStart => exact ⟨0, 4294967295, Nat.zero_le _, by omega, rfl, rfl, Lib.hid rfl⟩
  case round =>
    obtain ⟨k, c, hk, hc1, rfl, rfl, HC⟩ := hrel
    by_cases hlt : k < ss.length
    · have hcx := hc k hlt
      have hsz := hs k hlt
      obtain ⟨s, hs0⟩ : ∃ s, s = ss[k] := ⟨_, rfl⟩
      rw [← hs0] at hcx hsz
      have HS := Lib.hid hs0
      clear hs0 hc hs
      go_wp2
      go_loop [3, 15] (fun n i => ∃ k1 c1 : Nat, k1 ≤ s.size ∧ c1 < 4294967296 ∧ i = .int .i64 k1 ∧ n = .int .u32 c1 ∧ Hid (c1 = Crc.feed c (s.data.toList.take k1))) (fun _ i => s.size - (intOf i).toNat)
      case atStart => exact ⟨0, c, Nat.zero_le _, hc1, rfl, rfl, Lib.hid rfl⟩
      case round =>
        obtain ⟨k1, c1, hk1, hc2, rfl, rfl, HC1⟩ := hrel
        by_cases hlt1 : k1 < s.size
        · obtain ⟨x1, hx1, hx1', ex1⟩ := Crc.start c1 s[k1] hc2
          obtain ⟨r1, x2, hr1, hx2, hx2', er1, ex2⟩ := Crc.step x1 hx1
          obtain ⟨r2, x3, hr2, hx3, hx3', er2, ex3⟩ := Crc.step x2 hx2
          have hx := Lib.hid hx1'
          have hy := Lib.hid hx2'
          have hz := Lib.hid hx3'
          have hT1 := hT r1 hr1
          have hT2 := hT r2 hr2
          clear hx1' hx2' hx3'
          go_wp2
          go_round
          case rel => exact ⟨k1 + 1, x3, by omega, hx3, by go_num, rfl, Lib.hid (by rw [Crc.feed_snoc _ _ _ hlt1, ← HC1.out, Crc.byte, ← hx.out, ← hy.out, ← hz.out])⟩
          case measure => simp [intOf]; omega
        · go_wp2
          go_round
          case rel => exact ⟨k + 1, c1, by omega, hc2, by go_num, rfl, Lib.hid (by rw [HC1.out, HC.out, Crc.feeds_snoc _ _ _ hlt, ← HS.out, List.take_of_length_le (l := s.data.toList) (by simpa using Nat.le_of_not_lt hlt1)])⟩
          case measure => simp [intOf]; omega
    · go_wp2
      go_ret
      refine ⟨(show Ending.returned (.int .u32 (bits .xor .u32 IntKind.u32.max (c : Int))) = _ from ?_), rfl⟩
      rw [Crc.not_u32 c hc1, HC.out, List.take_of_length_le (by omega), Crc.sum]

set_option maxHeartbeats 1000000 in
theorem refSum_any (b off : Nat) (ss : List ByteArray) (cap : Nat) (w : World) (hm : ss.length ≤ 1000)
    (hs : ∀ j (h : j < ss.length), ss[j].size ≤ 9223372036854775807)
    (hc : ∀ j (h : j < ss.length), w.cell? ⟨b, off + j, none⟩ = some (.string ss[j])) :
    Calls Tryz.prog 16 #[.slice (some ⟨b, off, none⟩) ss.length cap] w fun e w' => e = .returned (.int .u32 (Crc.sum (Crc.lists ss) : Nat)) ∧ w' = w := by
  go_enter Tryz.func16, Tryz.ntmps16
  go_wp2
  go_loop [3, 10] (fun n i => ∃ k c : Nat, k ≤ ss.length ∧ c < 4294967296 ∧ i = .int .i64 k ∧ n = .int .u32 c ∧ Hid (c = Crc.feeds 4294967295 (Crc.lists (ss.take k)))) (fun _ i => ss.length - (intOf i).toNat)
  case atStart => exact ⟨0, 4294967295, Nat.zero_le _, by omega, rfl, rfl, Lib.hid rfl⟩
  case round =>
    obtain ⟨k, c, hk, hc1, rfl, rfl, HC⟩ := hrel
    by_cases hlt : k < ss.length
    · have hcx := hc k hlt
      have hsz := hs k hlt
      obtain ⟨s, hs0⟩ : ∃ s, s = ss[k] := ⟨_, rfl⟩
      rw [← hs0] at hcx hsz
      have HS := Lib.hid hs0
      clear hs0 hc hs
      go_wp2
      go_loop [3, 6] (fun n i => ∃ k1 c1 : Nat, k1 ≤ s.size ∧ c1 < 4294967296 ∧ i = .int .i64 k1 ∧ n = .int .u32 c1 ∧ Hid (c1 = Crc.feed c (s.data.toList.take k1))) (fun _ i => s.size - (intOf i).toNat)
      case atStart => exact ⟨0, c, Nat.zero_le _, hc1, rfl, rfl, Lib.hid rfl⟩
      case round =>
        obtain ⟨k1, c1, hk1, hc2, rfl, rfl, HC1⟩ := hrel
        by_cases hlt1 : k1 < s.size
        · obtain ⟨x1, hx1, hx1', ex1⟩ := Crc.start c1 s[k1] hc2
          have hx := Lib.hid hx1'
          clear hx1'
          go_wp2
          go_loop [3, 26] (fun n i => ∃ k2 c2 : Nat, k2 ≤ 8 ∧ c2 < 4294967296 ∧ i = .int .i64 k2 ∧ n = .int .u32 c2 ∧ Hid (c2 = Crc.bitsN k2 x1)) (fun _ i => 8 - (intOf i).toNat)
          case atStart => exact ⟨0, x1, Nat.zero_le _, hx1, rfl, rfl, Lib.hid rfl⟩
          case round =>
            obtain ⟨k2, c2, hk2, hc3, rfl, rfl, HC2⟩ := hrel
            by_cases hlt2 : k2 < 8
            · by_cases hodd : c2 % 2 = 1
              · go_wp2
                refine ⟨⟨k2 + 1, Crc.bit c2, by omega, Crc.bit_lt hc3, by go_num, ?_, Lib.hid (by rw [HC2.out]; rfl)⟩, by simp [intOf]; omega⟩
                rw [show ((c2 : Int) / 2) = ((c2 / 2 : Nat) : Int) from by omega, show (3988292384 : Int) = ((3988292384 : Nat) : Int) from rfl, u32_xor_nat _ _ (by omega) (by omega)]
                rw [Crc.bit, if_pos hodd]
              · go_wp2
                refine ⟨⟨k2 + 1, Crc.bit c2, by omega, Crc.bit_lt hc3, by go_num, ?_, Lib.hid (by rw [HC2.out]; rfl)⟩, by simp [intOf]; omega⟩
                rw [show ((c2 : Int) / 2) = ((c2 / 2 : Nat) : Int) from by omega]
                rw [Crc.bit, if_neg hodd]
            · go_wp2
              go_round
              case rel => exact ⟨k1 + 1, c2, by omega, hc3, by go_num, rfl, Lib.hid (by
                have : k2 = 8 := by omega
                subst this
                rw [HC2.out, Crc.feed_snoc _ _ _ hlt1, Crc.byte_bits, ← HC1.out, hx.out])⟩
              case measure => simp [intOf]; omega
        · go_wp2
          go_round
          case rel => exact ⟨k + 1, c1, by omega, hc2, by go_num, rfl, Lib.hid (by rw [HC1.out, HC.out, Crc.feeds_snoc _ _ _ hlt, ← HS.out, List.take_of_length_le (l := s.data.toList) (by simpa using Nat.le_of_not_lt hlt1)])⟩
          case measure => simp [intOf]; omega
    · go_wp2
      go_ret
      refine ⟨(show Ending.returned _ = _ from ?_), rfl⟩
      show Ending.returned (.int .u32 (bits .xor .u32 (c : Int) ((4294967295 : Nat) : Int))) = _
      rw [u32_xor_nat _ _ hc1 (by omega), Nat.xor_comm, Crc.nat_not c hc1, HC.out, List.take_of_length_le (by omega), Crc.sum]
end Go.Proofs.YtdgpdmbfhehpfaaGreatDoor
