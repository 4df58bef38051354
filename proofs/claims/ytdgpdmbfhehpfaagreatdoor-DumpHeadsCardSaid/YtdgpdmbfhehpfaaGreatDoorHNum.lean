/-
  Numbers, the lowest byte first: the reference's value, the program's reader.
-/
import Derived.Test.YtdgpdmbfhehpfaaGreatDoorProg
import Derived.WalkKit
import Derived.WalkSpells
import Derived.WalkLawsBesides
import Derived.Lib.Hide
import Derived.Deep.RegionHeld3
import Derived.Below
import Derived.Laws.Bits64
import Derived.Deep.QuietTactic
import Derived.BigQuiet
namespace Go.Proofs.YtdgpdmbfhehpfaaGreatDoor
open Go.RowKit
set_option linter.all false

/-- the number that the bytes are, the lowest first -/
def le : List UInt8 → Nat
  | [] => 0
  | u :: l => u.toNat + 256 * le l

theorem le_lt : ∀ l : List UInt8, le l < 256 ^ l.length
  | [] => by simp [le]
  | u :: l => by
    have := le_lt l
    have hu := u.toNat_lt
    simp only [le, List.length_cons, Nat.pow_succ]
    have h1 : le l + 1 ≤ 256 ^ l.length := this
    have h2 := Nat.mul_le_mul_left 256 h1
    omega

theorem le_append : ∀ l m : List UInt8, le (l ++ m) = le l + 256 ^ l.length * le m
  | [], m => by simp [le]
  | u :: l, m => by
    simp only [List.cons_append, le, le_append l m, List.length_cons, Nat.pow_succ]
    rw [Nat.mul_add, Nat.mul_comm _ 256, Nat.mul_assoc, Nat.add_assoc]

theorem le_64 {l : List UInt8} (h : l.length ≤ 8) : le l < 18446744073709551616 := by
  have := le_lt l
  have h2 : (256 : Nat) ^ l.length ≤ 256 ^ 8 := Nat.pow_le_pow_right (by omega) h
  omega

theorem drop_cons (s : ByteArray) (k : Nat) (h : k < s.size) : s.data.toList.drop k = s[k] :: s.data.toList.drop (k + 1) := by
  rw [List.drop_eq_getElem_cons (by simpa using h)]; rfl

set_option maxHeartbeats 400000 in
theorem value_any (s : ByteArray) (w : World) (h : s.size ≤ 8) :
    Calls Tryz.prog 15 #[.string s] w fun e w' => e = .returned (.int .u64 (le s.data.toList : Nat)) ∧ w' = w := by
  go_enter Tryz.func15, Tryz.ntmps15
  go_wp2
  go_loop [3, 4] (fun n i => ∃ k c : Nat, k ≤ s.size ∧ c < 18446744073709551616 ∧ i = .int .i64 ((k : Int) - 1) ∧ n = .int .u64 c ∧ Hid (c = le (s.data.toList.drop k))) (fun _ i => (intOf i + 1).toNat)
  case atStart => exact ⟨s.size, 0, Nat.le_refl _, by omega, by go_num, rfl, Lib.hid (by rw [List.drop_of_length_le (by simp)]; rfl)⟩
  case round =>
    obtain ⟨k, c, hk, hc, rfl, rfl, HC⟩ := hrel
    by_cases h0 : k = 0
    · subst h0
      go_wp2
      go_ret
      refine ⟨?_, rfl⟩
      rw [HC.out, List.drop_zero]
      rfl
    · obtain ⟨j, rfl⟩ : ∃ j, k = j + 1 := ⟨k - 1, by omega⟩
      have ej : ((j + 1 : Nat) : Int) - 1 = (j : Int) := by omega
      rw [ej]
      have hlt : j < s.size := by omega
      go_wp2
      refine ⟨⟨j, le (s.data.toList.drop j), by omega, le_64 (by simp; omega), rfl, ?_, Lib.hid rfl⟩, by simp [intOf]⟩
      have hd : le (s.data.toList.drop j) = s[j].toNat + 256 * c := by rw [drop_cons s j hlt, le, HC.out]
      have hb : le (s.data.toList.drop j) < 18446744073709551616 := le_64 (by simp; omega)
      have hu := s[j].toNat_lt
      rw [show ∀ n, IntKind.u64.wrap n = n % 18446744073709551616 from fun _ => rfl, show ∀ n, IntKind.u64.wrap n = n % 18446744073709551616 from fun _ => rfl, show ∀ n, IntKind.u64.wrap n = n % 18446744073709551616 from fun _ => rfl, hd]
      rw [hd] at hb
      congr 1
      omega

/-- the world but for the draws -/
structure Drawn (w w' : World) : Prop where
  heap : w'.heap = w.heap
  os : w'.os = w.os
  tape : w'.tape = w.tape
  output : w'.output = w.output

theorem Drawn.refl (w : World) : Drawn w w := ⟨rfl, rfl, rfl, rfl⟩
theorem Drawn.drew {w w' : World} (h : Drawn w w') : Drawn w w'.drew := ⟨h.heap, h.os, h.tape, h.output⟩
theorem Drawn.cell {w w' : World} (h : Drawn w w') (a : Addr) : w'.cell? a = w.cell? a := by unfold World.cell?; rw [h.heap]

/-- a part of a number -/
theorem or_part {n u k : Nat} (hn : n < 256 ^ k) (hu : u < 256) : n ||| u * 256 ^ k = n + 256 ^ k * u := by
  have e : (256 : Nat) ^ k = 2 ^ (8 * k) := by rw [Nat.pow_mul]
  rw [e] at hn ⊢
  rw [Nat.mul_comm, Nat.or_comm, ← Nat.two_pow_add_eq_or_of_lt hn]
  omega

set_option maxHeartbeats 1000000 in
theorem number_any (b pos size : Nat) (d : ByteArray) (w : World) (h0 : w.cell? ⟨b, 0, none⟩ = some (.string d)) (h1 : w.cell? ⟨b, 1, none⟩ = some (.int .i64 pos)) (hf : w.frozen? ⟨b, 1, none⟩ = false)
    (hle : pos + size ≤ d.size) (hsz : d.size ≤ 140737488351232) (h8 : size ≤ 8) :
    Calls Tryz.prog 20 #[.pointer (some ⟨b, 0, none⟩), .int .i64 size] w fun e w' => e = .returned (.int .u64 (le ((d.data.toList.drop pos).take size) : Nat)) ∧ Drawn (w.setCell ⟨b, 1, none⟩ (.int .i64 ((pos + size : Nat) : Int))) w' := by
  go_enter Tryz.func20, Tryz.ntmps20
  go_wp2_with fail
  go_loopw [5, 8] (fun n i wr => ∃ k c : Nat, k ≤ size ∧ i = .int .i64 k ∧ n = .int .u64 c ∧ Hid (c = le ((d.data.toList.drop pos).take k)) ∧ Drawn w wr) (fun _ i _ => size - (intOf i).toNat)
  case atStart => exact ⟨0, 0, Nat.zero_le _, rfl, rfl, Lib.hid (by simp [le]), Drawn.refl _⟩
  case round =>
    obtain ⟨k, c, hk, rfl, rfl, HC, D⟩ := hrel
    have g0 : wr.cell? ⟨b, 0, none⟩ = some (.string d) := (D.cell _).trans h0
    have g1 : wr.cell? ⟨b, 1, none⟩ = some (.int .i64 pos) := (D.cell _).trans h1
    have gf : wr.frozen? ⟨b, 1, none⟩ = false := by unfold World.frozen? at hf ⊢; rw [D.heap]; exact hf
    by_cases hlt : k < size
    · have hq : pos + k < d.size := by omega
      obtain ⟨x, hx⟩ : ∃ x, x = d[pos + k] := ⟨_, rfl⟩
      have iw : IntKind.i64.wrap ((pos : Int) + (k : Int)) = (pos : Int) + (k : Int) := by
        rw [IntKind.wrap_i64]; omega
      have iv : IntKind.i64.wrap (8 * (k : Int)) = 8 * (k : Int) := by
        rw [IntKind.wrap_i64]; omega
      have i0 : (0 : Int) ≤ (pos : Int) + (k : Int) := by omega
      have i1 : d[((pos : Int) + (k : Int)).toNat]? = some x := by
        rw [show ((pos : Int) + (k : Int)).toNat = pos + k by omega, hx, ByteArray.getElem?_lt' d _ hq]
      have hu := x.toNat_lt
      have i2 : IntKind.u64.wrap (x.toNat : Int) = (x.toNat : Int) := by
        rw [IntKind.wrap_u64]; omega
      obtain ⟨y, hy⟩ : ∃ y : Nat, y = 256 ^ k * x.toNat := ⟨_, rfl⟩
      have hy64 : y < 18446744073709551616 := by
        have : (256 : Nat) ^ k ≤ 256 ^ 7 := Nat.pow_le_pow_right (by omega) (by omega)
        have h1 := Nat.mul_le_mul this (Nat.le_of_lt_succ (show x.toNat < 255 + 1 by omega))
        omega
      have i3 : IntKind.u64.wrap ((x.toNat : Int) * 2 ^ (8 * (k : Int)).toNat) = (y : Int) := by
        rw [show (8 * (k : Int)).toNat = 8 * k by omega, Int.pow_mul, IntKind.wrap_u64, hy]
        have e : ((256 ^ k * x.toNat : Nat) : Int) = (x.toNat : Int) * (2 ^ 8) ^ k := by
          rw [Int.natCast_mul, Int.mul_comm]; norm_cast
        rw [← e, Int.emod_eq_of_lt (by omega) (by omega)]
      have hc64 : c < 18446744073709551616 := by
        rw [HC.out]; exact le_64 (by simp; omega)
      have i4 : bits .or .u64 (c : Int) (y : Int) = ((c + y : Nat) : Int) := by
        have hcl : c < 256 ^ k := by
          have := le_lt ((d.data.toList.drop pos).take k)
          rw [← HC.out] at this
          simpa [Nat.min_eq_left (show k ≤ d.size - pos by omega)] using this
        rw [u64_or_nat _ _ hc64 hy64, hy, Nat.mul_comm, or_part hcl hu, Nat.mul_comm]
      have hnext : c + y = le ((d.data.toList.drop pos).take (k + 1)) := by
        have hl : k < (d.data.toList.drop pos).length := by simp; omega
        have hg : (d.data.toList.drop pos)[k] = x := by
          rw [List.getElem_drop, hx]; rfl
        have hkl : ((d.data.toList.drop pos).take k).length = k := by rw [List.length_take]; omega
        rw [List.take_succ_eq_append_getElem hl, le_append, hkl, hg, hy, HC.out]
        simp [le]
      have HN := Lib.hid hnext
      clear hx hy hnext
      go_wp2_with fail
      go_region_held3 (fun w' => w'.cell? ⟨b, 0, none⟩ = some (.string d) ∧ w'.cell? ⟨b, 1, none⟩ = some (.int .i64 pos)) (first | assumption | exact ⟨g0, g1⟩ | go_keep) (fail)
      have hxx : d[((pos : Int) + (k : Int)).toNat]'(by omega) = x := by
        rw [getElem?_pos d _ (by omega)] at i1
        exact Option.some.inj i1
      rw [hxx, i2, i3, i4]
      go_wp2_with fail
      exact ⟨⟨k + 1, c + y, by omega, by go_num, rfl, HN, D.drew⟩, by simp [intOf]; omega⟩
    · go_wp2_with fail
      refine bodyPost_ret (results_tmp rfl _ _ _) rfl ?_
      have hk' : k = size := by omega
      subst hk'
      refine ⟨?_, ?_⟩
      · rw [HC.out]; rfl
      · have e : ((pos : Int) + (k : Int)) = ((pos + k : Nat) : Int) := by omega
        rw [e]
        exact ⟨by simp [World.setCell, D.heap], by simp [World.setCell, D.os], by simp [World.setCell, D.tape], by simp [World.setCell, D.output]⟩

end Go.Proofs.YtdgpdmbfhehpfaaGreatDoor
