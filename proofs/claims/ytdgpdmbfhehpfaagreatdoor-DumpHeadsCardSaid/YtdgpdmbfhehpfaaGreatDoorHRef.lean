/-
  The document's answer: Frame and Head of any bytes.
-/
import Derived.Test.YtdgpdmbfhehpfaaGreatDoorHHead
namespace Go.Proofs.YtdgpdmbfhehpfaaGreatDoor
open Go.RowKit
set_option linter.all false

def FrameOut (d : ByteArray) (e : Ending) : Prop :=
  (refuse d = 0 ∧ e = .returned (.tuple #[.int .i64 (32 + nA d : Nat), .int .i64 (32 + nA d + nB d : Nat), .int .u64 (nN d : Nat), .int .i64 0])) ∨
  (refuse d ≠ 0 ∧ e = .returned (.tuple #[.int .i64 0, .int .i64 0, .int .u64 0, .int .i64 (refuse d : Nat)]))

theorem FrameOut.bad {d : ByteArray} (n : Nat) {z : Int} (h : refuse d = n) (h0 : n ≠ 0) (hz : z = (n : Int)) : FrameOut d (.returned (.tuple #[.int .i64 0, .int .i64 0, .int .u64 0, .int .i64 z])) := by
  subst hz
  exact .inr ⟨by omega, by rw [h]⟩

theorem magic_short {d : ByteArray} (h : d.size < 8) : Lib.hasPrefix d.data.toList magic.data.toList = false := by
  rw [← Lib.hasPrefix_raw]
  have : ¬ magic.size ≤ d.size := by show ¬ 8 ≤ d.size; omega
  simp [this]

theorem magic_cut {d : ByteArray} (h : ¬ d.size < 8) : Lib.hasPrefix d.data.toList magic.data.toList = ((d.extract 0 8).toList == [101, 100, 105, 99, 116, 1, 13, 10]) := by
  rw [← Lib.hasPrefix_raw]
  have h8 : magic.size ≤ d.size := by show 8 ≤ d.size; omega
  rw [decide_eq_true h8, Bool.true_and, Lib.toList_data magic]
  rfl

theorem refSum1 (b : Nat) (s : ByteArray) (w : World) (hs : s.size ≤ 9223372036854775807) (hc : w.cell? ⟨b, 0, none⟩ = some (.string s)) :
    Calls Tryz.prog 16 #[.slice (some ⟨b, 0, none⟩) 1 1] w fun e w' => e = .returned (.int .u32 (Crc.sum [s.data.toList] : Nat)) ∧ w' = w :=
  refSum_any b 0 [s] 1 w (by simp) (fun j h => by
    have : j = 0 := by simpa using h
    subst this
    exact hs) (fun j h => by
    have : j = 0 := by simpa using h
    subst this
    exact hc)

theorem value_cut (d : ByteArray) (i j : Nat) (w : World) (h : j - i ≤ 8) :
    Calls Tryz.prog 15 #[.string (d.extract i j)] w fun e w' => e = .returned (.int .u64 (le ((d.data.toList.drop i).take (j - i)) : Nat)) ∧ w' = w := by
  have := value_any (d.extract i j) w (by rw [ByteArray.size_extract]; omega)
  rwa [Lib.extract_data] at this

set_option maxRecDepth 100000 in
set_option maxHeartbeats 2000000 in
theorem frame_any (d : ByteArray) (w : World) (hsz : d.size ≤ 140737488351232) :
    Calls Tryz.prog 7 #[.string d] w fun e w' => FrameOut d e ∧ Below w.heap.size w w' := by
  go_enter Tryz.func7, Tryz.ntmps7
  go_upto_region 1 with fail
  by_cases h8 : d.size < 8
  · have h8a : (d.size : Int) < 8 := by omega
    go_wp2_with fail
    refine bodyPost_ret (v := .tuple #[.int .i64 0, .int .i64 0, .int .u64 0, .int .i64 60]) (by simp [results, Tryz.results7, go_sem]) rfl ?_
    exact ⟨FrameOut.bad 60 (refuse_60 (magic_short h8)) (by decide) rfl, Below.refl _ _⟩
  have h8a : ¬ (d.size : Int) < 8 := by omega
  have hM := magic_cut h8
  cases hm : ((d.extract 0 8).toList == [101, 100, 105, 99, 116, 1, 13, 10]) with
  | false =>
    rw [hm] at hM
    go_wp2_with fail
    refine bodyPost_ret (v := .tuple #[.int .i64 0, .int .i64 0, .int .u64 0, .int .i64 60]) (by simp [results, Tryz.results7, go_sem]) rfl ?_
    exact ⟨FrameOut.bad 60 (refuse_60 hM) (by decide) rfl, Below.refl _ _⟩
  | true =>
  rw [hm] at hM
  have HM := Lib.hid hM
  clear hM
  go_upto_region 3 with fail
  clear hm h8 h8a
  by_cases h36 : d.size < 36
  · have h36a : (d.size : Int) < 36 := by omega
    go_wp2_with fail
    refine bodyPost_ret (v := .tuple #[.int .i64 0, .int .i64 0, .int .u64 0, .int .i64 62]) (by simp [results, Tryz.results7, go_sem]) rfl ?_
    exact ⟨FrameOut.bad 62 (refuse_62a HM.out h36) (by decide) rfl, Below.refl _ _⟩
  have h36a : ¬ (d.size : Int) < 36 := by omega
  obtain ⟨E, hE⟩ : ∃ E, d.size = E + 4 := ⟨d.size - 4, by omega⟩
  have HE := Lib.hid hE
  clear hE
  have h36' : 36 ≤ d.size := by omega
  go_upto_region 5 with fail
  clear h36a
  go_cut [6] (fun v wx => v = .int .i64 E ∧ w = wx)
  case first =>
    go_wp2_with fail
    all_goals (go_meet; exact ⟨by have := HE.out; simp; omega, rfl⟩)
  case rest =>
  obtain ⟨rfl, rfl⟩ := hcut
  go_upto_region 6 with fail
  have hE0 : (E : Int) ≤ (d.size : Int) := by have := HE.out; omega
  have hE1 : (0 : Int) ≤ (E : Int) := by omega
  have hEsz : (d.extract 0 E).size ≤ 9223372036854775807 := by
    rw [ByteArray.size_extract]; omega
  obtain ⟨NS, hNS⟩ : ∃ n, Crc.sum [(d.extract 0 E).data.toList] = n := ⟨_, rfl⟩
  obtain ⟨LT, hLT⟩ : ∃ n, le ((d.data.toList.drop E).take (d.size - E)) = n := ⟨_, rfl⟩
  have hNS32 : NS < 4294967296 := by rw [← hNS]; exact Crc.sum_lt _
  have iNS : IntKind.u64.wrap (NS : Int) = (NS : Int) := by rw [IntKind.wrap_u64]; omega
  have h8 : d.size - E ≤ 8 := by have := HE.out; omega
  go_cut [35] (fun v wx => v = .bool ((LT : Int) != (NS : Int)) ∧ Below w.heap.size w wx)
  case first =>
    go_region_held3 (fun w' => Below w.heap.size w w') (first | assumption | exact (Below.refl _ _).drew | exact Below.alloc (by assumption) (Below.size (by assumption)) _ | go_keep) (first | (go_at_call 15; (with_reducible refine (value_cut d E d.size _ h8).mono ?_); rintro e w' ⟨rfl, hw⟩; rw [hw, hLT]) | (go_at_call 16; (with_reducible refine (refSum1 _ (d.extract 0 E) _ hEsz ?_).mono ?_); (simp [go_sem]); rintro e w' ⟨rfl, hw⟩; rw [hw, hNS]))
    all_goals (go_wp2_with fail; go_meet; exact ⟨rfl, ((Below.refl _ _).alloc (Nat.le_refl _) _).drew⟩)
  case rest =>
  obtain ⟨rfl, bel⟩ := hcut
  have hL : sumL d = NS := by unfold sumL; rw [← hNS, show d.size - 4 = E by have := HE.out; omega]
  have hR : sumR d = LT := by unfold sumR; rw [← hLT, show d.size - 4 = E by have := HE.out; omega, show d.size - E = 4 by have := HE.out; omega]
  clear hNS hLT iNS hEsz h8
  by_cases hs : LT = NS
  · have hb : ((LT : Int) != (NS : Int)) = false := by simp [hs]
    rw [hb]
    have hsum : sumL d = sumR d := by rw [hL, hR]; exact hs.symm
    clear hb hL hR hs hNS32
    obtain ⟨A, hA⟩ : ∃ n, le ((d.data.toList.drop 8).take (12 - 8)) = n := ⟨_, rfl⟩
    obtain ⟨B, hB⟩ : ∃ n, le ((d.data.toList.drop 12).take (16 - 12)) = n := ⟨_, rfl⟩
    obtain ⟨M, hM⟩ : ∃ n, le ((d.data.toList.drop 16).take (24 - 16)) = n := ⟨_, rfl⟩
    obtain ⟨S, hS⟩ : ∃ n, le ((d.data.toList.drop 24).take (32 - 24)) = n := ⟨_, rfl⟩
    have k12 : (12 : Int) ≤ (d.size : Int) := by omega
    have k16 : (16 : Int) ≤ (d.size : Int) := by omega
    have k24 : (24 : Int) ≤ (d.size : Int) := by omega
    have k32 : (32 : Int) ≤ (d.size : Int) := by omega
    go_upto_region 12 with (go_at_call 15; (with_reducible refine (value_cut d _ _ _ (by decide)).mono ?_); rintro e w' ⟨rfl, hw⟩; rw [hw]; first | rw [hA] | rw [hB] | rw [hM] | rw [hS])
    have eA : nA d = A := hA
    have eB : nB d = B := hB
    have eM : nN d = M := hM
    have eS : nS d = S := hS
    have hM64 : M < 18446744073709551616 := by rw [← hM]; exact le_64 (by simp; omega)
    have hS64 : S < 18446744073709551616 := by rw [← hS]; exact le_64 (by simp; omega)
    clear hA hB hM hS k12 k16 k24 k32
    have iE : IntKind.u64.wrap (E : Int) = (E : Int) := by rw [IntKind.wrap_u64]; omega
    by_cases ha : A ≤ 65536
    · have ha' : ¬ (65536 : Int) < (A : Int) := by omega
      by_cases hb : B ≤ 65536
      · have hb' : ¬ (65536 : Int) < (B : Int) := by omega
        have i1 : IntKind.u64.wrap ((32 : Int) + (A : Int)) = (32 : Int) + (A : Int) := by rw [IntKind.wrap_u64]; omega
        have i2 : IntKind.u64.wrap ((32 : Int) + (A : Int) + (B : Int)) = (32 : Int) + (A : Int) + (B : Int) := by rw [IntKind.wrap_u64]; omega
        by_cases hc : 32 + A + B ≤ E
        · have hc' : ¬ (E : Int) < (32 : Int) + (A : Int) + (B : Int) := by omega
          go_upto_region 14 with fail
          clear ha' hb' hc' i1 i2
          have j1 : IntKind.u64.wrap ((E : Int) - 32) = (E : Int) - 32 := by rw [IntKind.wrap_u64]; omega
          have j2 : IntKind.u64.wrap ((E : Int) - 32 - (A : Int)) = (E : Int) - 32 - (A : Int) := by rw [IntKind.wrap_u64]; omega
          have j3 : IntKind.u64.wrap ((E : Int) - 32 - (A : Int) - (B : Int)) = (E : Int) - 32 - (A : Int) - (B : Int) := by rw [IntKind.wrap_u64]; omega
          by_cases hq1 : (S : Int) = (E : Int) - 32 - (A : Int) - (B : Int)
          · by_cases hq2 : M ≤ S
            · have hq2' : ¬ (S : Int) < (M : Int) := by omega
              go_upto_region 16 with fail
              clear j1 j2 j3 hq2'
              have l1 : IntKind.i64.wrap (A : Int) = (A : Int) := by rw [IntKind.wrap_i64]; omega
              have l2 : IntKind.i64.wrap (B : Int) = (B : Int) := by rw [IntKind.wrap_i64]; omega
              have l3 : IntKind.i64.wrap ((32 : Int) + (A : Int)) = (32 : Int) + (A : Int) := by rw [IntKind.wrap_i64]; omega
              have l4 : IntKind.i64.wrap ((32 : Int) + (A : Int) + (B : Int)) = (32 : Int) + (A : Int) + (B : Int) := by rw [IntKind.wrap_i64]; omega
              go_wp2_with fail
              refine bodyPost_ret (v := .tuple #[.int .i64 ((32 : Int) + (A : Int)), .int .i64 ((32 : Int) + (A : Int) + (B : Int)), .int .u64 (M : Nat), .int .i64 0]) (by simp [results, Tryz.results7, go_sem]) rfl ?_
              refine ⟨.inl ⟨refuse_0 HM.out h36 hsum (by rw [eA, eB]; omega) (by rw [eA, eB]; have := HE.out; omega) (by rw [eA, eB, eS, eM]; have := HE.out; omega), ?_⟩, bel⟩
              rw [eA, eB, eM]
              norm_cast
            · have hq2' : (S : Int) < (M : Int) := by omega
              go_wp2_with fail
              refine bodyPost_ret (v := .tuple #[.int .i64 0, .int .i64 0, .int .u64 0, .int .i64 62]) (by simp [results, Tryz.results7, go_sem]) rfl ?_
              exact ⟨FrameOut.bad 62 (refuse_62d HM.out h36 hsum (by rw [eA, eB]; omega) (by rw [eA, eB]; have := HE.out; omega) (by rw [eA, eB, eS, eM]; omega)) (by decide) rfl, bel⟩
          · go_wp2_with fail
            refine bodyPost_ret (v := .tuple #[.int .i64 0, .int .i64 0, .int .u64 0, .int .i64 62]) (by simp [results, Tryz.results7, go_sem]) rfl ?_
            exact ⟨FrameOut.bad 62 (refuse_62d HM.out h36 hsum (by rw [eA, eB]; omega) (by rw [eA, eB]; have := HE.out; omega) (by rw [eA, eB, eS, eM]; have := HE.out; omega)) (by decide) rfl, bel⟩
        · have hc' : (E : Int) < (32 : Int) + (A : Int) + (B : Int) := by omega
          go_wp2_with fail
          refine bodyPost_ret (v := .tuple #[.int .i64 0, .int .i64 0, .int .u64 0, .int .i64 62]) (by simp [results, Tryz.results7, go_sem]) rfl ?_
          exact ⟨FrameOut.bad 62 (refuse_62c HM.out h36 hsum (by rw [eA, eB]; omega) (by rw [eA, eB]; have := HE.out; omega)) (by decide) rfl, bel⟩
      · have hb' : (65536 : Int) < (B : Int) := by omega
        go_wp2_with fail
        refine bodyPost_ret (v := .tuple #[.int .i64 0, .int .i64 0, .int .u64 0, .int .i64 62]) (by simp [results, Tryz.results7, go_sem]) rfl ?_
        exact ⟨FrameOut.bad 62 (refuse_62b HM.out h36 hsum (by rw [eA, eB]; omega)) (by decide) rfl, bel⟩
    · have ha' : (65536 : Int) < (A : Int) := by omega
      go_wp2_with fail
      refine bodyPost_ret (v := .tuple #[.int .i64 0, .int .i64 0, .int .u64 0, .int .i64 62]) (by simp [results, Tryz.results7, go_sem]) rfl ?_
      exact ⟨FrameOut.bad 62 (refuse_62b HM.out h36 hsum (by rw [eA, eB]; omega)) (by decide) rfl, bel⟩
  · have hb : ((LT : Int) != (NS : Int)) = true := by simp; omega
    rw [hb]
    go_wp2_with fail
    refine bodyPost_ret (v := .tuple #[.int .i64 0, .int .i64 0, .int .u64 0, .int .i64 61]) (by simp [results, Tryz.results7, go_sem]) rfl ?_
    exact ⟨FrameOut.bad 61 (refuse_61 HM.out h36 (by rw [hL, hR]; omega)) (by decide) rfl, bel⟩

theorem frame_ok (d : ByteArray) (w : World) (hsz : d.size ≤ 140737488351232) (h : refuse d = 0) :
    Calls Tryz.prog 7 #[.string d] w fun e w' => e = .returned (.tuple #[.int .i64 (32 + nA d : Nat), .int .i64 (32 + nA d + nB d : Nat), .int .u64 (nN d : Nat), .int .i64 0]) ∧ Below w.heap.size w w' :=
  (frame_any d w hsz).mono fun _ _ ⟨hp, hb⟩ => ⟨(hp.resolve_right fun x => x.1 h).2, hb⟩

theorem frame_bad (d : ByteArray) (w : World) (hsz : d.size ≤ 140737488351232) (h : refuse d ≠ 0) :
    Calls Tryz.prog 7 #[.string d] w fun e w' => e = .returned (.tuple #[.int .i64 0, .int .i64 0, .int .u64 0, .int .i64 (refuse d : Nat)]) ∧ Below w.heap.size w w' :=
  (frame_any d w hsz).mono fun _ _ ⟨hp, hb⟩ => ⟨(hp.resolve_left fun x => h x.1).2, hb⟩

theorem texts_in {d : ByteArray} (h : refuse d = 0) : 32 + nA d + nB d ≤ d.size := by
  unfold refuse at h
  split at h
  · cases h
  · split at h
    · cases h
    · split at h
      · cases h
      · split at h
        · cases h
        · split at h
          · cases h
          · rename_i h5
            simp only [Classical.not_not] at h5
            omega

set_option maxHeartbeats 2000000 in
theorem refHead_any (d : ByteArray) (w : World) (hsz : d.size ≤ 140737488351232) :
    Calls Tryz.prog 4 #[.string d] w fun e w' => HeadOut d e ∧ Below w.heap.size w w' := by
  go_enter Tryz.func4, Tryz.ntmps4
  by_cases h : refuse d = 0
  · have ht := texts_in h
    have hMs := nN_small h
    obtain ⟨M, hM⟩ : ∃ M, nN d = M := ⟨_, rfl⟩
    obtain ⟨Y, hY⟩ : ∃ Y, 32 + nA d + nB d = Y := ⟨_, rfl⟩
    obtain ⟨X, hX⟩ : ∃ X, 32 + nA d = X := ⟨_, rfl⟩
    have hXY : X ≤ Y := by omega
    have hX32 : 32 ≤ X := by omega
    rw [hY] at ht
    rw [hM] at hMs
    have iM : IntKind.i64.wrap (M : Int) = (M : Int) := by rw [IntKind.wrap_i64]; omega
    have x1 : (X : Int) ≤ (d.size : Int) := by omega
    have x2 : (32 : Int) ≤ (X : Int) := by omega
    have x3 : (Y : Int) ≤ (d.size : Int) := by omega
    have x4 : (X : Int) ≤ (Y : Int) := by omega
    have x5 : (0 : Int) ≤ (X : Int) := by omega
    go_upto_region 4 with (go_at_call 7; (with_reducible refine (frame_ok d _ hsz h).mono ?_); rintro e wf ⟨rfl, bel⟩; rw [hY, hX, hM])
    go_region_held3 (fun _ => True) (exact trivial) (fail)
    go_wp2_with fail
    refine bodyPost_ret (v := .tuple #[.string (d.extract 32 X), .string (d.extract X Y), .int .i64 (M : Nat), .int .i64 0]) (by simp [results, Tryz.results4, go_sem]) rfl ?_
    exact ⟨.inl ⟨h, by rw [hY, hX, hM]⟩, bel.drew⟩
  · obtain ⟨r, hr⟩ : ∃ r, refuse d = r := ⟨_, rfl⟩
    have hr0 : ¬ (r : Int) = 0 := by omega
    go_wp2_with (go_at_call 7; (with_reducible refine (frame_bad d _ hsz h).mono ?_); rintro e wf ⟨rfl, bel⟩; rw [hr])
    refine bodyPost_ret (v := .tuple #[.string ⟨#[]⟩, .string ⟨#[]⟩, .int .i64 0, .int .i64 (r : Nat)]) (by simp [results, Tryz.results4, go_sem]) rfl ?_
    exact ⟨.inr ⟨h, by rw [hr]⟩, bel⟩

end Go.Proofs.YtdgpdmbfhehpfaaGreatDoor
