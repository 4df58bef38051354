/-
  The walks of the law DumpSplits: what each call of it does.
-/
import Derived.Test.YtglnbcjffhfaaaaDoorSum
import Derived.Deep.RegionWith
import Derived.Deep.RegionHeld3
namespace Go.Proofs.YtglnbcjffhfaaaaDoor
open Go.RowKit

theorem tmod_gt (n k : Int) (hk : 0 < k) : -k < n.tmod k := by
  rcases Int.le_total 0 n with h | h
  · have := Int.tmod_nonneg k h; omega
  · have := Int.tmod_lt_of_pos (-n) hk
    rw [Int.neg_tmod] at this
    omega

theorem mod_plain (n k : Int) (hk : 0 < k) : ((n.tmod k) + k).tmod k = n % k := by
  have h1 := Int.tmod_lt_of_pos n hk
  have h2 := tmod_gt n k hk
  rw [Int.tmod_eq_emod_of_nonneg (by omega), Int.add_emod_right]
  rw [Int.emod_eq_emod_iff_emod_sub_eq_zero]
  have := Int.tmod_add_mul_tdiv n k
  rw [show n.tmod k - n = k * (-(n.tdiv k)) from by rw [Int.mul_neg]; omega]
  exact Int.mul_emod_right _ _

set_option maxHeartbeats 400000 in
theorem mod_any (n k : Int) (w : World) (hk : 0 < k) (hk2 : k ≤ 1000000000000000) :
    Calls Tryd.prog 5 #[.int .i64 n, .int .i64 k] w fun e w' => e = .returned (.int .i64 (n % k)) ∧ w = w' := by
  have h1 := Int.tmod_lt_of_pos n hk
  have h2 := tmod_gt n k hk
  have hm := Lib.hid (mod_plain n k hk)
  go_enter Tryd.func5, Tryd.ntmps5
  go_wp2
  go_ret
  refine ⟨(show Ending.returned (.int .i64 ((n.tmod k + k) % k)) = _ from ?_), rfl⟩
  rw [← Int.tmod_eq_emod_of_nonneg (by omega), hm.out]

/-- string(b) of a block of four bytes, as it lies in a world -/
theorem conv_bytes (W : World) (a : Addr) (l : List Int) (cap : Nat) (h : ∀ j v, (l.map (Value.int .u8))[j]? = some v → W.cell? (a.add j) = some v) :
    (convert 27 9 (.slice (some a) l.length cap)).run Tryd.prog W = .ok (.string (l.foldl (fun r n => r.push (UInt8.ofNat n.toNat)) ByteArray.empty)) W := by
  rw [run_convert_bytes_string W 27 9 5 _ _ _ Tryd.underlying27 Tryd.underlying5 Tryd.underlying9]
  refine run_bytesToString W a _ cap l ?_
  have := run_loadCells_list (P := Tryd.prog) (w := W) a (l.map (Value.int .u8)) h
  simpa using this

def fourB (n : Nat) : ByteArray := ⟨#[UInt8.ofNat (n % 256), UInt8.ofNat (n / 256 % 256), UInt8.ofNat (n / 65536 % 256), UInt8.ofNat (n / 16777216)]⟩

set_option maxHeartbeats 400000 in
theorem four_any (n : Nat) (w : World) (hn : n < 4294967296) :
    Calls Tryd.prog 7 #[.int .u32 n] w fun e w' => e = .returned (.string (fourB n)) ∧ Below w.heap.size w w' := by
  have hk := conv_bytes (w.alloc (Obj.cells #[.int .u8 (n % 256), .int .u8 (n / 256 % 256), .int .u8 (n / 65536 % 256), .int .u8 (n / 16777216)] 5)) ⟨w.heap.size, 0, none⟩
    [n % 256, n / 256 % 256, n / 65536 % 256, n / 16777216] 4 (by
      intro j v hj
      match j, hj with
      | 0, hj => simp at hj; subst hj; simp [Addr.add]
      | 1, hj => simp at hj; subst hj; simp [Addr.add]
      | 2, hj => simp at hj; subst hj; simp [Addr.add]
      | 3, hj => simp at hj; subst hj; simp [Addr.add])
  simp only [List.length_cons, List.length_nil, Nat.zero_add, Nat.reduceAdd] at hk
  go_enter Tryd.func7, Tryd.ntmps7
  go_wp2
  go_ret
  exact ⟨rfl, (Below.refl _ _).alloc (Nat.le_refl _) _⟩


theorem Tabbed.of_below {B : Nat} {w w' : World} (hB : 0 < B) (h : Tabbed w) (hb : Below B w w') : Tabbed w' :=
  fun k hk => (hb.cell (p := ⟨0, k, none⟩) hB).trans (h k hk)
theorem Tabbed.drew {w : World} (h : Tabbed w) : Tabbed w.drew := h

/-- Sum of one, two, five strings that lie at the head of a block -/
theorem sum1 (b : Nat) (s : ByteArray) (w : World) (hs : s.size ≤ 9223372036854775807) (hc : w.cell? ⟨b, 0, none⟩ = some (.string s)) (hT : Tabbed w) :
    Calls Tryd.prog 6 #[.slice (some ⟨b, 0, none⟩) 1 1] w fun e w' => e = .returned (.int .u32 (Crc.sum [s.data.toList] : Nat)) ∧ w = w' :=
  (sum_any b 0 [s] 1 w (by simp) (by intro j h; match j, h with | 0, _ => exact hs) (by intro j h; match j, h with | 0, _ => exact hc) hT).mono fun _ _ ⟨h, h'⟩ => ⟨h, h'.symm⟩
theorem sum2 (b : Nat) (s r : ByteArray) (w : World) (hs : s.size ≤ 9223372036854775807) (hr : r.size ≤ 9223372036854775807)
    (hc : w.cell? ⟨b, 0, none⟩ = some (.string s)) (hd : w.cell? ⟨b, 1, none⟩ = some (.string r)) (hT : Tabbed w) :
    Calls Tryd.prog 6 #[.slice (some ⟨b, 0, none⟩) 2 2] w fun e w' => e = .returned (.int .u32 (Crc.sum [s.data.toList, r.data.toList] : Nat)) ∧ w = w' :=
  (sum_any b 0 [s, r] 2 w (by simp) (by intro j h; match j, h with | 0, _ => exact hs | 1, _ => exact hr) (by intro j h; match j, h with | 0, _ => exact hc | 1, _ => exact hd) hT).mono fun _ _ ⟨h, h'⟩ => ⟨h, h'.symm⟩
theorem sum5 (b : Nat) (s r : ByteArray) (w : World) (hs : s.size ≤ 9223372036854775807) (hr : r.size ≤ 9223372036854775807)
    (h0 : w.cell? ⟨b, 0, none⟩ = some (.string ⟨#[]⟩)) (h1 : w.cell? ⟨b, 1, none⟩ = some (.string s)) (h2 : w.cell? ⟨b, 2, none⟩ = some (.string ⟨#[]⟩))
    (h3 : w.cell? ⟨b, 3, none⟩ = some (.string r)) (h4 : w.cell? ⟨b, 4, none⟩ = some (.string ⟨#[]⟩)) (hT : Tabbed w) :
    Calls Tryd.prog 6 #[.slice (some ⟨b, 0, none⟩) 5 5] w fun e w' => e = .returned (.int .u32 (Crc.sum [[], s.data.toList, [], r.data.toList, []] : Nat)) ∧ w = w' :=
  (sum_any b 0 [⟨#[]⟩, s, ⟨#[]⟩, r, ⟨#[]⟩] 5 w (by simp) (by intro j h; match j, h with | 0, _ => exact Nat.zero_le _ | 1, _ => exact hs | 2, _ => exact Nat.zero_le _ | 3, _ => exact hr | 4, _ => exact Nat.zero_le _)
    (by intro j h; match j, h with | 0, _ => exact h0 | 1, _ => exact h1 | 2, _ => exact h2 | 3, _ => exact h3 | 4, _ => exact h4) hT).mono fun _ _ ⟨h, h'⟩ => ⟨h, h'.symm⟩


theorem Tabbed.alloc {w : World} (h : Tabbed w) (hz : 0 < w.heap.size) (o : Obj) : Tabbed (w.alloc o) :=
  h.of_below hz ((Below.refl _ _).alloc (Nat.le_refl _) _)

theorem ext_two (s : ByteArray) (i : Nat) (_hi : i ≤ s.size) : (s.extract 0 i).data.toList ++ (s.extract i s.size).data.toList = s.data.toList := by
  obtain ⟨⟨l⟩⟩ := s
  simp [ByteArray.data_extract, List.extract_eq_take_drop, ByteArray.size]
  rw [List.take_of_length_le (l := List.drop i l) (by simp), List.take_append_drop]

/-- what the three calls of the last line answer -/
theorem cut2 (b i N : Nat) (s : ByteArray) (w : World) (hi : i ≤ s.size) (hs : s.size ≤ 140737488351232) (hN : Hid (Crc.sum [s.data.toList] = N))
    (hc : w.cell? ⟨b, 0, none⟩ = some (.string (s.extract 0 i))) (hd : w.cell? ⟨b, 1, none⟩ = some (.string (s.extract i s.size))) (hT : Tabbed w) :
    Calls Tryd.prog 6 #[.slice (some ⟨b, 0, none⟩) 2 2] w fun e w' => e = .returned (.int .u32 N) ∧ w = w' :=
  (sum2 b _ _ w (by simp; omega) (by simp; omega) hc hd hT).mono fun e w' ⟨h, h'⟩ => ⟨by
    rw [h, ← hN.out, Crc.sum_of [(s.extract 0 i).data.toList, (s.extract i s.size).data.toList] [s.data.toList] (by simpa using ext_two s i hi)], h'⟩
theorem cut5 (b i N : Nat) (s : ByteArray) (w : World) (hi : i ≤ s.size) (hs : s.size ≤ 140737488351232) (hN : Hid (Crc.sum [s.data.toList] = N))
    (h0 : w.cell? ⟨b, 0, none⟩ = some (.string ⟨#[]⟩)) (h1 : w.cell? ⟨b, 1, none⟩ = some (.string (s.extract 0 i))) (h2 : w.cell? ⟨b, 2, none⟩ = some (.string ⟨#[]⟩))
    (h3 : w.cell? ⟨b, 3, none⟩ = some (.string (s.extract i s.size))) (h4 : w.cell? ⟨b, 4, none⟩ = some (.string ⟨#[]⟩)) (hT : Tabbed w) :
    Calls Tryd.prog 6 #[.slice (some ⟨b, 0, none⟩) 5 5] w fun e w' => e = .returned (.int .u32 N) ∧ w = w' :=
  (sum5 b _ _ w (by simp; omega) (by simp; omega) h0 h1 h2 h3 h4 hT).mono fun e w' ⟨h, h'⟩ => ⟨by
    rw [h, ← hN.out, Crc.sum_of [[], (s.extract 0 i).data.toList, [], (s.extract i s.size).data.toList, []] [s.data.toList] (by simpa using ext_two s i hi)], h'⟩
theorem own2 (b N : Nat) (s : ByteArray) (w : World) (hs : s.size ≤ 140737488351232) (hN : Hid (Crc.sum [s.data.toList] = N))
    (hc : w.cell? ⟨b, 0, none⟩ = some (.string s)) (hd : w.cell? ⟨b, 1, none⟩ = some (.string (fourB N))) (hT : Tabbed w) :
    Calls Tryd.prog 6 #[.slice (some ⟨b, 0, none⟩) 2 2] w fun e w' => e = .returned (.int .u32 558161692) ∧ w = w' :=
  (sum2 b _ _ w (by omega) (by show 4 ≤ _; omega) hc hd hT).mono fun e w' ⟨h, h'⟩ => ⟨by
    rw [h]
    have : Crc.sum [s.data.toList, (fourB N).data.toList] = 558161692 := by
      have := Crc.own s.data.toList
      rw [hN.out] at this
      exact this
    rw [this]; rfl, h'⟩

set_option maxHeartbeats 1000000 in
theorem splits_any (s : ByteArray) (at_ : Int) (w : World) (hs : s.size ≤ 140737488351232) (hT : Tabbed w) (hz : 0 < w.heap.size) :
    Calls Tryd.prog 3 #[.string s, .int .i64 at_] w fun e w' => e = .returned (.bool true) ∧ Below w.heap.size w w' := by
  have g1 := Int.emod_nonneg at_ (show ((s.size : Int) + 1) ≠ 0 by omega)
  have g2 := Int.emod_lt_of_pos at_ (show 0 < ((s.size : Int) + 1) by omega)
  obtain ⟨i, hi⟩ : ∃ i : Nat, (i : Int) = at_ % ((s.size : Int) + 1) := ⟨(at_ % ((s.size : Int) + 1)).toNat, by omega⟩
  have hi1 : i ≤ s.size := by omega
  have Hi := Lib.hid hi
  clear hi g1 g2
  go_enter Tryd.func3, Tryd.ntmps3
  go_wp2_with fail
  refine (mod_any at_ _ w (by omega) (by omega)).mono ?_
  rintro e w' ⟨rfl, rfl⟩
  rw [← Hi.out]
  go_wp2_with fail
  refine (sum1 w.heap.size s _ (by omega) (by go_simp) (hT.alloc hz _)).mono ?_
  rintro e w' ⟨rfl, rfl⟩
  obtain ⟨N, hN⟩ : ∃ N, Crc.sum [s.data.toList] = N := ⟨_, rfl⟩
  rw [hN]
  have HN := Lib.hid hN
  have hN1 : N < 4294967296 := by rw [← hN]; exact Crc.sum_lt _
  clear hN
  go_wp2_with fail
  obtain ⟨W, hW⟩ : ∃ W, W = w.alloc (Obj.cells #[Value.string s] 9) := ⟨_, rfl⟩
  have hTW : Tabbed W := by rw [hW]; exact hT.alloc hz _
  have hzW : 0 < W.heap.size := by rw [hW]; simp
  have hbW : Below w.heap.size w W := by rw [hW]; exact (Below.refl _ _).alloc (Nat.le_refl _) _
  rw [← hW]
  have HW := Lib.hid hW
  have HN1 := Lib.hid hN1
  clear hW hN1
  go_region_held3 (fun _ => True) (exact trivial) (first
    | (go_at_call 6
       with_reducible refine (cut2 _ i N s _ hi1 hs HN ?_ ?_ ?_).mono ?_
       · go_simp
       · go_simp
       · exact (hTW.alloc hzW _).drew
       rintro e w' ⟨rfl, rfl⟩)
    | (go_at_call 6
       with_reducible refine (cut5 _ i N s _ hi1 hs HN ?_ ?_ ?_ ?_ ?_ ?_).mono ?_
       · go_simp
       · go_simp
       · go_simp
       · go_simp
       · go_simp
       · exact ((hTW.alloc hzW _).alloc (by simp) _).drew
       rintro e w' ⟨rfl, rfl⟩)
    | (go_at_call 7
       with_reducible refine (four_any N _ HN1.out).mono ?_
       rintro e w1 ⟨rfl, hb⟩
       have hTw1 : Tabbed w1 := Tabbed.of_below (by simp) (((hTW.alloc hzW _).alloc (by simp) _).drew) hb
       have hzw1 : 0 < w1.heap.size := by have := hb.size; simp at this; omega
       have hbF : Below w.heap.size w w1 := (((hbW.alloc hbW.size _).alloc (by have := hbW.size; simp; omega) _).drew).trans (hb.mono (by have := hbW.size; simp; omega)))
    | (go_at_call 6
       with_reducible refine (own2 _ N s _ hs HN ?_ ?_ ?_).mono ?_
       · go_simp
       · go_simp
       · exact Tabbed.alloc (by assumption) (by assumption) _
       rintro e w' ⟨rfl, rfl⟩))
  go_wp2
  go_ret
  exact ⟨rfl, Below.alloc (by assumption) (Below.size (by assumption)) _⟩
end Go.Proofs.YtglnbcjffhfaaaaDoor
