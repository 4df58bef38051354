/-
  dump.parts of any bytes.
-/
import Derived.Test.YtdgpdmbfhehpfaaGreatDoorHSum
import Derived.Test.YtdgpdmbfhehpfaaGreatDoorHNum
import Derived.Test.YtdgpdmbfhehpfaaGreatDoorHMust
import Derived.Deep.Cut
import Derived.Deep.CutBlock
import Derived.Deep.DeepCutAuto
namespace Go.Proofs.YtdgpdmbfhehpfaaGreatDoor
open Go.RowKit
set_option linter.all false

theorem hasPrefix2_any (s p : ByteArray) (w : World) : Calls Tryz.prog 38 #[.string s, .string p] w fun e w' => e = .returned (.bool (Lib.hasPrefix s.data.toList p.data.toList)) ∧ w' = w := by
  rw [← Lib.hasPrefix_of_take, ← Lib.size_eq, ← Lib.size_eq]
  go_enter Tryz.func38, Tryz.ntmps38
  go_wp2
  · rename_i h
    go_ret
    refine ⟨?_, rfl⟩
    show Ending.returned (Value.bool ((s.extract 0 p.size).toList == p.toList)) = _
    rw [Lib.extract_toList, Lib.toList_data]
    simp [h]
  · rename_i h
    go_ret
    refine ⟨?_, rfl⟩
    show Ending.returned (Value.bool false) = _
    simp [h]
theorem hasPrefix_any (s p : ByteArray) (w : World) : Calls Tryz.prog 18 #[.string s, .string p] w fun e w' => e = .returned (.bool (Lib.hasPrefix s.data.toList p.data.toList)) ∧ w' = w := by
  go_enter Tryz.func18, Tryz.ntmps18
  go_wp2_with (go_at_call 38; (with_reducible refine (hasPrefix2_any _ _ _).mono ?_); rintro e w' ⟨rfl, hw⟩; rw [hw])
  go_ret
  exact ⟨rfl, rfl⟩

abbrev magic : ByteArray := ⟨#[101, 100, 105, 99, 116, 1, 13, 10]⟩

/-- a reader of the bytes d, at a place -/
structure RD (w : World) (b pos : Nat) (d : ByteArray) : Prop where
  data : w.cell? ⟨b, 0, none⟩ = some (.string d)
  place : w.cell? ⟨b, 1, none⟩ = some (.int .i64 pos)
  free : w.frozen? ⟨b, 1, none⟩ = false

theorem Drawn.below {w w' : World} {N b : Nat} {v : Value} (h : Drawn (w.setCell ⟨b, 1, none⟩ v) w') (hN : N ≤ b) : Below N w w' := by
  have B := (Below.refl N w).setCell (p := ⟨b, 1, none⟩) hN v
  exact ⟨h.os.trans B.os, h.tape.trans B.tape, h.output.trans B.output, by rw [h.heap]; exact B.size, fun k hk => by rw [h.heap]; exact B.block k hk⟩

theorem number_rd {b pos size N : Nat} {d : ByteArray} {w : World} (R : RD w b pos d) (hN : N ≤ b) (hw : N ≤ w.heap.size) (hle : pos + size ≤ d.size) (hsz : d.size ≤ 140737488351232) (h8 : size ≤ 8) :
    Calls Tryz.prog 20 #[.pointer (some ⟨b, 0, none⟩), .int .i64 size] w fun e w' => e = .returned (.int .u64 (le ((d.data.toList.drop pos).take size) : Nat)) ∧ RD w' b (pos + size) d ∧ Below N w w' := by
  refine (number_any b pos size d w R.data R.place R.free hle hsz h8).mono fun e w' ⟨he, D⟩ => ⟨he, ⟨?_, ?_, ?_⟩, D.below hN⟩
  · rw [D.cell, World.cell?_setCell_other _ _ _ _ (by simp)]; exact R.data
  · rw [D.cell]; exact World.cell?_setCell_same _ _ _ R.place
  · have hf : (w.setCell ⟨b, 1, none⟩ (.int .i64 ((pos + size : Nat) : Int))).frozen? ⟨b, 1, none⟩ = false := by
      have := R.free
      simp [go_sem, this]
    unfold World.frozen? at hf ⊢
    rw [D.heap]
    exact hf

theorem number4 {b pos N : Nat} {d : ByteArray} {w : World} (R : RD w b pos d) (hN : N ≤ b) (hw : N ≤ w.heap.size) (hle : pos + 4 ≤ d.size) (hsz : d.size ≤ 140737488351232) :
    Calls Tryz.prog 20 #[.pointer (some ⟨b, 0, none⟩), .int .i64 4] w fun e w' => e = .returned (.int .u64 (le ((d.data.toList.drop pos).take 4) : Nat)) ∧ RD w' b (pos + 4) d ∧ Below N w w' := number_rd (size := 4) R hN hw hle hsz (by decide)
theorem number8 {b pos N : Nat} {d : ByteArray} {w : World} (R : RD w b pos d) (hN : N ≤ b) (hw : N ≤ w.heap.size) (hle : pos + 8 ≤ d.size) (hsz : d.size ≤ 140737488351232) :
    Calls Tryz.prog 20 #[.pointer (some ⟨b, 0, none⟩), .int .i64 8] w fun e w' => e = .returned (.int .u64 (le ((d.data.toList.drop pos).take 8) : Nat)) ∧ RD w' b (pos + 8) d ∧ Below N w w' := number_rd (size := 8) R hN hw hle hsz (by decide)

theorem num4 {b pos : Nat} {d : ByteArray} {w0 w : World} (R : RD w b pos d) (B : Below w0.heap.size w0 w) (hN : w0.heap.size ≤ b) (hle : pos + 4 ≤ d.size) (hsz : d.size ≤ 140737488351232) :
    Calls Tryz.prog 20 #[.pointer (some ⟨b, 0, none⟩), .int .i64 4] w fun e w' => e = .returned (.int .u64 (le ((d.data.toList.drop pos).take 4) : Nat)) ∧ RD w' b (pos + 4) d ∧ Below w0.heap.size w0 w' :=
  (number4 R hN B.size hle hsz).mono fun _ _ ⟨h1, h2, h3⟩ => ⟨h1, h2, B.trans h3⟩
theorem num8 {b pos : Nat} {d : ByteArray} {w0 w : World} (R : RD w b pos d) (B : Below w0.heap.size w0 w) (hN : w0.heap.size ≤ b) (hle : pos + 8 ≤ d.size) (hsz : d.size ≤ 140737488351232) :
    Calls Tryz.prog 20 #[.pointer (some ⟨b, 0, none⟩), .int .i64 8] w fun e w' => e = .returned (.int .u64 (le ((d.data.toList.drop pos).take 8) : Nat)) ∧ RD w' b (pos + 8) d ∧ Below w0.heap.size w0 w' :=
  (number8 R hN B.size hle hsz).mono fun _ _ ⟨h1, h2, h3⟩ => ⟨h1, h2, B.trans h3⟩

theorem RD.new (w : World) (d : ByteArray) (pos : Nat) : RD (w.alloc (.cells #[.string d, .int .i64 pos] 54)) w.heap.size pos d :=
  ⟨by simp [go_sem], by simp [go_sem], by simp [go_sem]⟩

theorem RD.lt {w : World} {b pos : Nat} {d : ByteArray} (h : RD w b pos d) : b < w.heap.size := World.block_lt_of_cell? _ _ h.data

theorem RD.alloc {w : World} {b pos : Nat} {d : ByteArray} (h : RD w b pos d) (o : Obj) : RD (w.alloc o) b pos d := by
  have hb : Below w.heap.size w (w.alloc o) := (Below.refl _ _).alloc (Nat.le_refl _) o
  exact ⟨(hb.cell h.lt).trans h.data, (hb.cell h.lt).trans h.place, (hb.frozen h.lt).trans h.free⟩

theorem Tabbed.keep {w w' : World} (h : Tabbed w) (h0 : 0 < w.heap.size) (hb : Below w.heap.size w w') : Tabbed w' := fun k hk => (hb.cell h0).trans (h k hk)

theorem dumpSum1 (b : Nat) (s : ByteArray) (w : World) (hs : s.size ≤ 9223372036854775807) (hc : w.cell? ⟨b, 0, none⟩ = some (.string s)) (hT : Tabbed w) :
    Calls Tryz.prog 19 #[.slice (some ⟨b, 0, none⟩) 1 1] w fun e w' => e = .returned (.int .u32 (Crc.sum [s.data.toList] : Nat)) ∧ w' = w :=
  dumpSum_any b 0 [s] 1 w (by simp) (fun j h => by
    have : j = 0 := by simpa using h
    subst this
    exact hs) (fun j h => by
    have : j = 0 := by simpa using h
    subst this
    exact hc) hT

def okMagic (d : ByteArray) : Bool := Lib.hasPrefix d.data.toList magic.data.toList
def sumL (d : ByteArray) : Nat := Crc.sum [(d.extract 0 (d.size - 4)).data.toList]
def sumR (d : ByteArray) : Nat := le ((d.data.toList.drop (d.size - 4)).take 4)
def nA (d : ByteArray) : Nat := le ((d.data.toList.drop 8).take 4)
def nB (d : ByteArray) : Nat := le ((d.data.toList.drop 12).take 4)
def nN (d : ByteArray) : Nat := le ((d.data.toList.drop 16).take 8)
def nS (d : ByteArray) : Nat := le ((d.data.toList.drop 24).take 8)

/-- the error of the bytes; 0: they are taken -/
def refuse (d : ByteArray) : Nat :=
  if okMagic d = false then 60 else if d.size < 36 then 62 else if ¬ sumL d = sumR d then 61 else
  if ¬ (nA d ≤ 65536 ∧ nB d ≤ 65536) then 62 else if ¬ 32 + nA d + nB d ≤ d.size - 4 then 62 else
  if ¬ (nS d = d.size - 4 - (32 + nA d + nB d) ∧ nN d ≤ nS d) then 62 else 0

def PartsOut (d : ByteArray) (e : Ending) : Prop :=
  (refuse d = 0 ∧ e = .returned (.tuple #[.string (d.extract 32 (32 + nA d)), .string (d.extract (32 + nA d) (32 + nA d + nB d)), .int .u64 (nN d : Nat), .string (d.extract (32 + nA d + nB d) (d.size - 4))])) ∨
  (refuse d ≠ 0 ∧ e = .panicked [{ v := broken (refuse d : Nat), recovered := false }])

theorem PartsOut.bad {d : ByteArray} (n : Nat) {z : Int} (h : refuse d = n) (h0 : n ≠ 0) (hz : z = (n : Int)) : PartsOut d (.panicked [{ v := broken z, recovered := false }]) := by
  subst hz
  exact .inr ⟨by omega, by rw [h]⟩

theorem refuse_60 {d : ByteArray} (h : Lib.hasPrefix d.data.toList magic.data.toList = false) : refuse d = 60 := by
  unfold refuse
  rw [if_pos (show okMagic d = false from h)]
theorem refuse_62a {d : ByteArray} (h : Lib.hasPrefix d.data.toList magic.data.toList = true) (h1 : d.size < 36) : refuse d = 62 := by
  unfold refuse
  rw [if_neg (by unfold okMagic; rw [h]; decide), if_pos h1]

theorem refuse_61 {d : ByteArray} (h : Lib.hasPrefix d.data.toList magic.data.toList = true) (h1 : ¬ d.size < 36) (h2 : ¬ sumL d = sumR d) : refuse d = 61 := by
  unfold refuse
  rw [if_neg (by unfold okMagic; rw [h]; decide), if_neg h1, if_pos h2]

theorem refuse_62b {d : ByteArray} (h : Lib.hasPrefix d.data.toList magic.data.toList = true) (h1 : ¬ d.size < 36) (h2 : sumL d = sumR d) (h3 : ¬ (nA d ≤ 65536 ∧ nB d ≤ 65536)) : refuse d = 62 := by
  unfold refuse
  rw [if_neg (by unfold okMagic; rw [h]; decide), if_neg h1, if_neg (by simp [h2]), if_pos h3]
theorem refuse_62c {d : ByteArray} (h : Lib.hasPrefix d.data.toList magic.data.toList = true) (h1 : ¬ d.size < 36) (h2 : sumL d = sumR d) (h3 : nA d ≤ 65536 ∧ nB d ≤ 65536) (h4 : ¬ 32 + nA d + nB d ≤ d.size - 4) : refuse d = 62 := by
  unfold refuse
  rw [if_neg (by unfold okMagic; rw [h]; decide), if_neg h1, if_neg (by simp [h2]), if_neg (fun h => h h3), if_pos h4]
theorem refuse_62d {d : ByteArray} (h : Lib.hasPrefix d.data.toList magic.data.toList = true) (h1 : ¬ d.size < 36) (h2 : sumL d = sumR d) (h3 : nA d ≤ 65536 ∧ nB d ≤ 65536) (h4 : 32 + nA d + nB d ≤ d.size - 4)
    (h5 : ¬ (nS d = d.size - 4 - (32 + nA d + nB d) ∧ nN d ≤ nS d)) : refuse d = 62 := by
  unfold refuse
  rw [if_neg (by unfold okMagic; rw [h]; decide), if_neg h1, if_neg (by simp [h2]), if_neg (fun h => h h3), if_neg (fun h => h h4), if_pos h5]
theorem refuse_0 {d : ByteArray} (h : Lib.hasPrefix d.data.toList magic.data.toList = true) (h1 : ¬ d.size < 36) (h2 : sumL d = sumR d) (h3 : nA d ≤ 65536 ∧ nB d ≤ 65536) (h4 : 32 + nA d + nB d ≤ d.size - 4)
    (h5 : nS d = d.size - 4 - (32 + nA d + nB d) ∧ nN d ≤ nS d) : refuse d = 0 := by
  unfold refuse
  rw [if_neg (by unfold okMagic; rw [h]; decide), if_neg h1, if_neg (by simp [h2]), if_neg (fun h => h h3), if_neg (fun h => h h4), if_neg (fun h => h h5)]

set_option maxRecDepth 100000 in
set_option maxHeartbeats 2000000 in
theorem parts_any (d : ByteArray) (w : World) (hsz : d.size ≤ 140737488351232) (hT : Tabbed w) (h0 : 0 < w.heap.size) :
    Calls Tryz.prog 10 #[.string d] w fun e w' => PartsOut d e ∧ Below w.heap.size w w' := by
  go_enter Tryz.func10, Tryz.ntmps10
  go_upto_region 1 with fail
  cases hp : Lib.hasPrefix d.data.toList magic.data.toList with
  | false =>
    go_wp2_with (first
      | (go_at_call 18
         (with_reducible refine (hasPrefix_any _ _ _).mono ?_)
         rintro e w' ⟨rfl, hw⟩
         rw [hw, hp])
      | (go_at_call 17
         (with_reducible refine (must_false _ _).mono ?_)
         rintro e w' ⟨rfl, hw⟩
         rw [hw]))
    refine ⟨rfl, PartsOut.bad 60 (refuse_60 hp) (by decide) rfl, Below.refl _ _⟩
  | true =>
    go_upto_region 2 with (first
      | (go_at_call 18
         (with_reducible refine (hasPrefix_any _ _ _).mono ?_)
         rintro e w' ⟨rfl, hw⟩
         rw [hw, hp])
      | (go_at_call 17
         (with_reducible refine (must_true _ _).mono ?_)
         rintro e w' ⟨rfl, hw⟩
         rw [hw]))
    have HP := Lib.hid hp
    clear hp
    by_cases h36 : d.size < 36
    · have h36a : ¬ (36 : Int) ≤ (d.size : Int) := by omega
      have h36b : ¬ 36 ≤ d.size := by omega
      go_wp2_with (go_at_call 17; (with_reducible refine (must_false _ _).mono ?_); rintro e w' ⟨rfl, hw⟩; rw [hw])
      refine ⟨rfl, PartsOut.bad 62 (refuse_62a HP.out h36) (by decide) rfl, Below.refl _ _⟩
    obtain ⟨E, hE⟩ : ∃ E, d.size = E + 4 := ⟨d.size - 4, by omega⟩
    have HE := Lib.hid hE
    clear hE
    have h36' : 36 ≤ d.size := by omega
    have h36a : (36 : Int) ≤ (d.size : Int) := by omega
    go_upto_region 3 with (go_at_call 17; (with_reducible refine (must_true _ _).mono ?_); rintro e w' ⟨rfl, hw⟩; rw [hw])
    clear h36a
    go_cut [6] (fun v wx => v = .int .i64 E ∧ w = wx)
    case first =>
      go_wp2_with fail
      all_goals (go_meet; exact ⟨by have := HE.out; simp; omega, rfl⟩)
    case rest =>
    obtain ⟨rfl, rfl⟩ := hcut
    go_upto_region 4 with fail
    go_cut [7] (fun v wx => v = .pointer (some ⟨w.heap.size, 0, none⟩) ∧ RD wx w.heap.size E d ∧ Below w.heap.size w wx)
    case first =>
      go_wp2_with fail
      all_goals go_meet
      exact ⟨rfl, RD.new w d E, (Below.refl _ _).alloc (Nat.le_refl _) _⟩
    case rest =>
    obtain ⟨rfl, R, bel⟩ := hcut
    go_upto_region 5 with fail
    obtain ⟨NS, hNS⟩ : ∃ n, Crc.sum [(d.extract 0 E).data.toList] = n := ⟨_, rfl⟩
    obtain ⟨LT, hLT⟩ : ∃ n, le ((d.data.toList.drop E).take 4) = n := ⟨_, rfl⟩
    have hNS32 : NS < 4294967296 := by rw [← hNS]; exact Crc.sum_lt _
    have iNS : IntKind.u64.wrap (NS : Int) = (NS : Int) := by rw [IntKind.wrap_u64]; omega
    have hEsz : (d.extract 0 E).size ≤ 9223372036854775807 := by
      rw [ByteArray.size_extract]; omega
    have belS := bel.size
    have hE4 : E + 4 ≤ d.size := by have := HE.out; omega
    have hL : sumL d = NS := by unfold sumL; rw [← hNS, show d.size - 4 = E by have := HE.out; omega]
    have hR : sumR d = LT := by unfold sumR; rw [← hLT, show d.size - 4 = E by have := HE.out; omega]
    by_cases hs : NS = LT
    · have hbeq : ((NS : Int) == (LT : Int)) = true := by simp [hs]
      go_upto_region 6 with (first
        | (go_at_call 19; (with_reducible refine (dumpSum1 _ (d.extract 0 E) _ hEsz ?_ ?_).mono ?_); (simp [go_sem]); (exact hT.keep h0 (bel.alloc belS _)); rintro e w' ⟨rfl, hw⟩; rw [hw, hNS])
        | (go_at_call 20; (with_reducible refine (number4 (N := w.heap.size) (R.alloc _) (Nat.le_refl _) (by simp; omega) hE4 hsz).mono ?_); rintro e wn ⟨rfl, R', bel'⟩; rw [hLT])
        | (go_at_call 17; (try rw [hbeq]); (with_reducible refine (must_true _ _).mono ?_); rintro e w' ⟨rfl, hw⟩; rw [hw]))
      have bel1 : Below w.heap.size w wn := (bel.alloc belS _).trans bel'
      have hbn := bel1.size
      clear R R' bel bel' hbeq
      go_cut [8] (fun v wx => v = .pointer (some ⟨wn.heap.size, 0, none⟩) ∧ RD wx wn.heap.size 8 d ∧ Below w.heap.size w wx)
      case first =>
        go_wp2_with fail
        all_goals go_meet
        exact ⟨rfl, RD.new wn d 8, bel1.alloc hbn _⟩
      case rest =>
      obtain ⟨rfl, R1, bel2⟩ := hcut
      obtain ⟨A, hA⟩ : ∃ n, le ((d.data.toList.drop 8).take 4) = n := ⟨_, rfl⟩
      obtain ⟨B, hB⟩ : ∃ n, le ((d.data.toList.drop (8 + 4)).take 4) = n := ⟨_, rfl⟩
      obtain ⟨M, hM⟩ : ∃ n, le ((d.data.toList.drop (8 + 4 + 4)).take 8) = n := ⟨_, rfl⟩
      obtain ⟨S, hS⟩ : ∃ n, le ((d.data.toList.drop (8 + 4 + 4 + 8)).take 8) = n := ⟨_, rfl⟩
      go_upto_region 10 with (first
        | (go_at_call 20; (with_reducible refine (num4 (w0 := w) (by assumption) (by assumption) hbn (by omega) hsz).mono ?_); rintro e wm ⟨rfl, R2, bel3⟩; first | rw [hA] | rw [hB])
        | (go_at_call 20; (with_reducible refine (num8 (w0 := w) (by assumption) (by assumption) hbn (by omega) hsz).mono ?_); rintro e wm ⟨rfl, R2, bel3⟩; first | rw [hM] | rw [hS]))
      have eA : nA d = A := hA
      have eB : nB d = B := hB
      have eM : nN d = M := hM
      have eS : nS d = S := hS
      have hM64 : M < 18446744073709551616 := by rw [← hM]; exact le_64 (by simp; omega)
      have hS64 : S < 18446744073709551616 := by rw [← hS]; exact le_64 (by simp; omega)
      have hsum : sumL d = sumR d := by rw [hL, hR]; exact hs
      clear hA hB hM hS R1 bel2 bel1 hL hR hNS hLT hs hNS32 iNS hEsz belS hbn
      by_cases ha : A ≤ 65536
      · by_cases hb : B ≤ 65536
        · have hdb : decide ((B : Int) ≤ 65536) = true := decide_eq_true (by omega)
          go_upto_region 11 with (go_at_call 17; (try rw [hdb]); (with_reducible refine (must_true _ _).mono ?_); rintro e w' ⟨rfl, hw⟩; rw [hw])
          by_cases hc : 32 + A + B ≤ E
          · have hdc : decide ((32 : Int) + (A : Int) + (B : Int) ≤ (E : Int)) = true := decide_eq_true (by omega)
            go_upto_region 12 with (go_at_call 17; (try rw [hdc]); (with_reducible refine (must_true _ _).mono ?_); rintro e w' ⟨rfl, hw⟩; rw [hw])
            obtain ⟨Z, hZ⟩ : ∃ Z, 32 + A + B = Z := ⟨_, rfl⟩
            have hE4 : E + 4 ≤ d.size := by have := HE.out; omega
            go_cut [5] (fun v wx => v = .string (d.extract Z E) ∧ wm = wx)
            case first =>
              have i1 : IntKind.u64.wrap ((32 : Int) + (A : Int)) = ((32 + A : Nat) : Int) := by rw [IntKind.wrap_u64]; omega
              have i2 : IntKind.u64.wrap (((32 + A : Nat) : Int) + (B : Int)) = (Z : Int) := by rw [IntKind.wrap_u64]; omega
              go_wp2_with fail
              all_goals go_meet
              exact ⟨by rw [hZ], rfl⟩
            case rest =>
            obtain ⟨rfl, rfl⟩ := hcut
            obtain ⟨L, hL⟩ : ∃ L, E - Z = L := ⟨_, rfl⟩
            have hsl : (d.extract Z E).size = L := by rw [ByteArray.size_extract]; omega
            go_upto_region 13 with fail
            by_cases hq1 : S = L
            · by_cases hq2 : M ≤ S
              · have hd3 : decide (M ≤ L) = true := decide_eq_true (by omega)
                go_upto_region 14 with (go_at_call 17; (try rw [hd3]); (with_reducible refine (must_true _ _).mono ?_); rintro e w' ⟨rfl, hw⟩; rw [hw])
                have i1 : IntKind.u64.wrap ((32 : Int) + (A : Int)) = (32 : Int) + (A : Int) := by rw [IntKind.wrap_u64]; omega
                have i2 : IntKind.u64.wrap ((32 : Int) + (A : Int) + (B : Int)) = (32 : Int) + (A : Int) + (B : Int) := by rw [IntKind.wrap_u64]; omega
                have y2 : 32 + A + B ≤ d.size := by omega
                have y1 : (32 : Int) + (A : Int) + (B : Int) ≤ (d.size : Int) := by omega
                have y3 : (0 : Int) ≤ (32 : Int) + (A : Int) + (B : Int) := by omega
                have y4 : (32 : Int) + (A : Int) ≤ (32 : Int) + (A : Int) + (B : Int) := by omega
                have y6 : (0 : Int) ≤ (32 : Int) + (A : Int) := by omega
                have y8 : (32 : Int) ≤ (32 : Int) + (A : Int) := by omega
                have y7 : (32 : Int) + (A : Int) ≤ (d.size : Int) := by omega
                have HZ := Lib.hid hZ
                clear hZ
                go_region_held3 (fun _ => True) (exact trivial) (fail)
                go_wp2_with fail
                refine bodyPost_ret (v := .tuple #[.string (d.extract 32 (32 + A)), .string (d.extract (32 + A) (32 + A + B)), .int .u64 (M : Nat), .string (d.extract Z E)]) (by simp [results, Tryz.results10, go_sem, show ((32 : Int) + (A : Int)).toNat = 32 + A by omega, show ((32 : Int) + (A : Int) + (B : Int)).toNat = 32 + A + B by omega]) rfl ?_
                refine ⟨.inl ⟨refuse_0 HP.out h36 hsum (by rw [eA, eB]; omega) (by rw [eA, eB]; have := HE.out; omega) (by rw [eA, eB, eS, eM]; have := HE.out; have := HZ.out; omega), ?_⟩, bel3.drew⟩
                rw [eA, eB, eM, HZ.out, show d.size - 4 = E by have := HE.out; omega]
              · have hd3 : decide (M ≤ L) = false := decide_eq_false (by omega)
                go_wp2_with (go_at_call 17; (try rw [hd3]); (with_reducible refine (must_false _ _).mono ?_); rintro e w' ⟨rfl, hw⟩; rw [hw])
                refine ⟨rfl, PartsOut.bad 62 (refuse_62d HP.out h36 hsum (by rw [eA, eB]; omega) (by rw [eA, eB]; have := HE.out; omega) (by rw [eA, eB, eS, eM]; omega)) (by decide) rfl, bel3⟩
            · go_wp2_with (go_at_call 17; (with_reducible refine (must_false _ _).mono ?_); rintro e w' ⟨rfl, hw⟩; rw [hw])
              refine ⟨rfl, PartsOut.bad 62 (refuse_62d HP.out h36 hsum (by rw [eA, eB]; omega) (by rw [eA, eB]; have := HE.out; omega) (by rw [eA, eB, eS, eM]; have := HE.out; omega)) (by decide) rfl, bel3⟩
          · have hdc : decide ((32 : Int) + (A : Int) + (B : Int) ≤ (E : Int)) = false := decide_eq_false (by omega)
            go_wp2_with (go_at_call 17; (try rw [hdc]); (with_reducible refine (must_false _ _).mono ?_); rintro e w' ⟨rfl, hw⟩; rw [hw])
            refine ⟨rfl, PartsOut.bad 62 (refuse_62c HP.out h36 hsum (by rw [eA, eB]; omega) (by rw [eA, eB]; have := HE.out; omega)) (by decide) rfl, bel3⟩
        · have hdb : decide ((B : Int) ≤ 65536) = false := decide_eq_false (by omega)
          go_wp2_with (go_at_call 17; (try rw [hdb]); (with_reducible refine (must_false _ _).mono ?_); rintro e w' ⟨rfl, hw⟩; rw [hw])
          refine ⟨rfl, PartsOut.bad 62 (refuse_62b HP.out h36 hsum (by rw [eA, eB]; omega)) (by decide) rfl, bel3⟩
      · have ha' : ¬ (A : Int) ≤ 65536 := by omega
        go_wp2_with (go_at_call 17; (with_reducible refine (must_false _ _).mono ?_); rintro e w' ⟨rfl, hw⟩; rw [hw])
        refine ⟨rfl, PartsOut.bad 62 (refuse_62b HP.out h36 hsum (by rw [eA, eB]; omega)) (by decide) rfl, bel3⟩
    · have hbeq : ((NS : Int) == (LT : Int)) = false := by simp; omega
      go_wp2_with (first
        | (go_at_call 19; (with_reducible refine (dumpSum1 _ (d.extract 0 E) _ hEsz ?_ ?_).mono ?_); (simp [go_sem]); (exact hT.keep h0 (bel.alloc belS _)); rintro e w' ⟨rfl, hw⟩; rw [hw, hNS])
        | (go_at_call 20; (with_reducible refine (number4 (N := w.heap.size) (R.alloc _) (Nat.le_refl _) (by simp; omega) hE4 hsz).mono ?_); rintro e wn ⟨rfl, R', bel'⟩; rw [hLT])
        | (go_at_call 17; (try rw [hbeq]); (with_reducible refine (must_false _ _).mono ?_); rintro e w' ⟨rfl, hw⟩; rw [hw]))
      refine ⟨rfl, PartsOut.bad 61 (refuse_61 HP.out h36 (by rw [hL, hR]; exact hs)) (by decide) rfl, (bel.alloc belS _).trans bel'⟩

end Go.Proofs.YtdgpdmbfhehpfaaGreatDoor
