/-
  What the reference's calls on constants do.
-/
import Derived.Test.YtglnbcjffhfaaaaSymValid
import Derived.Test.YtglnbcjffhfaaaaSymCmp
namespace Go.Proofs.Ytglnbcjffhfaaaa
open Go.RowKit
namespace Sym
theorem refLower_any (b : UInt8) (w : World) : Calls Try.prog 41 #[.int .u8 b.toNat] w fun e w' => e = .returned (.bool (lowB b)) ∧ w = w' := by
  by_cases h1 : 97 ≤ b.toNat
  · by_cases h2 : b.toNat ≤ 122
    · have hr : lowB b = true := by simp [lowB, h1, h2]
      have d2 : decide ((b.toNat : Int) ≤ 122) = true := by simp; omega
      rw [hr]; clear hr
      go_enter Try.func41, Try.ntmps41
      go_wp2
      go_ret
      exact ⟨rfl, rfl⟩
    · have hr : lowB b = false := by simp [lowB, h2]
      have d2 : decide ((b.toNat : Int) ≤ 122) = false := by simp; omega
      rw [hr]; clear hr
      go_enter Try.func41, Try.ntmps41
      go_wp2
      go_ret
      exact ⟨rfl, rfl⟩
  · have hr : lowB b = false := by simp [lowB, h1]
    rw [hr]; clear hr
    go_enter Try.func41, Try.ntmps41
    go_wp2
    go_ret
    exact ⟨rfl, rfl⟩

theorem refUpper_any (b : UInt8) (w : World) : Calls Try.prog 44 #[.int .u8 b.toNat] w fun e w' => e = .returned (.bool (upB b)) ∧ w = w' := by
  by_cases h1 : 65 ≤ b.toNat
  · by_cases h2 : b.toNat ≤ 90
    · have hr : upB b = true := by simp [upB, h1, h2]
      have d2 : decide ((b.toNat : Int) ≤ 90) = true := by simp; omega
      rw [hr]; clear hr
      go_enter Try.func44, Try.ntmps44
      go_wp2
      go_ret
      exact ⟨rfl, rfl⟩
    · have hr : upB b = false := by simp [upB, h2]
      have d2 : decide ((b.toNat : Int) ≤ 90) = false := by simp; omega
      rw [hr]; clear hr
      go_enter Try.func44, Try.ntmps44
      go_wp2
      go_ret
      exact ⟨rfl, rfl⟩
  · have hr : upB b = false := by simp [upB, h1]
    rw [hr]; clear hr
    go_enter Try.func44, Try.ntmps44
    go_wp2
    go_ret
    exact ⟨rfl, rfl⟩

theorem refDigit_any (b : UInt8) (w : World) : Calls Try.prog 45 #[.int .u8 b.toNat] w fun e w' => e = .returned (.bool (digB b)) ∧ w = w' := by
  by_cases h1 : 48 ≤ b.toNat
  · by_cases h2 : b.toNat ≤ 57
    · have hr : digB b = true := by simp [digB, h1, h2]
      have d2 : decide ((b.toNat : Int) ≤ 57) = true := by simp; omega
      rw [hr]; clear hr
      go_enter Try.func45, Try.ntmps45
      go_wp2
      go_ret
      exact ⟨rfl, rfl⟩
    · have hr : digB b = false := by simp [digB, h2]
      have d2 : decide ((b.toNat : Int) ≤ 57) = false := by simp; omega
      rw [hr]; clear hr
      go_enter Try.func45, Try.ntmps45
      go_wp2
      go_ret
      exact ⟨rfl, rfl⟩
  · have hr : digB b = false := by simp [digB, h1]
    rw [hr]; clear hr
    go_enter Try.func45, Try.ntmps45
    go_wp2
    go_ret
    exact ⟨rfl, rfl⟩

theorem ref_cases (c : UInt8) : (lowB c = true ∧ tailB c = true) ∨ (lowB c = false ∧ upB c = true ∧ tailB c = true) ∨
    (lowB c = false ∧ upB c = false ∧ digB c = true ∧ tailB c = true) ∨ (lowB c = false ∧ upB c = false ∧ digB c = false ∧ c = 95 ∧ tailB c = true) ∨
    (lowB c = false ∧ upB c = false ∧ digB c = false ∧ ((c.toNat : Int) != 95) = true ∧ tailB c = false) := by
  cases h1 : lowB c with
  | true => exact .inl ⟨rfl, by simp [tailB, h1]⟩
  | false =>
    cases h2 : upB c with
    | true => exact .inr (.inl ⟨rfl, rfl, by simp [tailB, h2]⟩)
    | false =>
      cases h3 : digB c with
      | true => exact .inr (.inr (.inl ⟨rfl, rfl, rfl, by simp [tailB, h3]⟩))
      | false =>
        by_cases h4 : c = 95
        · exact .inr (.inr (.inr (.inl ⟨rfl, rfl, rfl, h4, by simp [tailB, h4]⟩)))
        · refine .inr (.inr (.inr (.inr ⟨rfl, rfl, rfl, ?_, by simp [tailB, h1, h2, h3, h4]⟩)))
          have : c.toNat ≠ 95 := fun e => h4 (UInt8.toNat_inj.1 e)
          simp only [bne_iff_ne]
          omega

set_option maxHeartbeats 1000000 in
theorem refTail_any (s : ByteArray) (w : World) (hp : 0 < s.size) (hs : s.size ≤ 9223372036854775807) :
    Calls Try.prog 42 #[.string s] w fun e w' => e = .returned (.bool ((s.data.toList.drop 1).all tailB)) ∧ w = w' := by
  obtain ⟨X, hX⟩ : ∃ X, (s.data.toList.drop 1).all tailB = X := ⟨_, rfl⟩
  rw [hX]
  have HX := Lib.hid hX
  clear hX
  go_enter Try.func42, Try.ntmps42
  go_wp2
  go_loop [3] (fun i => ∃ k : Nat, 1 ≤ k ∧ k ≤ s.size ∧ i = .int .i64 k ∧ Hid (X = (s.data.toList.drop k).all tailB)) (fun i => s.size - (intOf i).toNat)
  case atStart => exact ⟨1, Nat.le_refl _, hp, rfl, Lib.hid HX.out.symm⟩
  case round =>
    obtain ⟨k, hk1, hk, rfl, HK⟩ := hrel
    by_cases hlt : k < s.size
    · obtain ⟨c, hc⟩ : ∃ c, c = s[k] := ⟨_, rfl⟩
      have hc' : s.data.toList[k]? = some c := by rw [hc]; exact List.getElem?_eq_getElem (by simpa using hlt)
      have HD := Lib.hid (all_drop hc')
      clear hc'
      have cL := fun W => Lib.hid (refLower_any c W)
      have cU := fun W => Lib.hid (refUpper_any c W)
      have cD := fun W => Lib.hid (refDigit_any c W)
      have hcI : (c.toNat : Int) = (s[k].toNat : Int) := by rw [hc]
      rcases ref_cases c with ⟨h1, ht⟩ | ⟨h1, h2, ht⟩ | ⟨h1, h2, h3, ht⟩ | ⟨h1, h2, h3, h4, ht⟩ | ⟨h1, h2, h3, h4, ht⟩
      · rw [h1, hcI] at cL
        have HT := Lib.hid ht
        clear h1 ht cU cD hcI hc
        go_wp2_with (first | (go_at_call 41; with_reducible refine (cL _).out.mono ?_; rintro e w' ⟨rfl, rfl⟩) | (go_at_call 44; with_reducible refine (cU _).out.mono ?_; rintro e w' ⟨rfl, rfl⟩) | (go_at_call 45; with_reducible refine (cD _).out.mono ?_; rintro e w' ⟨rfl, rfl⟩))
        go_round
        case rel => exact ⟨k + 1, by omega, by omega, by go_num, Lib.hid (by rw [HK.out, HD.out, HT.out, Bool.true_and])⟩
        case measure => simp [intOf]; omega
      · rw [h1, hcI] at cL
        rw [h2, hcI] at cU
        have HT := Lib.hid ht
        clear h1 h2 ht cD hcI hc
        go_wp2_with (first | (go_at_call 41; with_reducible refine (cL _).out.mono ?_; rintro e w' ⟨rfl, rfl⟩) | (go_at_call 44; with_reducible refine (cU _).out.mono ?_; rintro e w' ⟨rfl, rfl⟩) | (go_at_call 45; with_reducible refine (cD _).out.mono ?_; rintro e w' ⟨rfl, rfl⟩))
        go_round
        case rel => exact ⟨k + 1, by omega, by omega, by go_num, Lib.hid (by rw [HK.out, HD.out, HT.out, Bool.true_and])⟩
        case measure => simp [intOf]; omega
      · rw [h1, hcI] at cL
        rw [h2, hcI] at cU
        rw [h3, hcI] at cD
        have HT := Lib.hid ht
        clear h1 h2 h3 ht hcI hc
        go_wp2_with (first | (go_at_call 41; with_reducible refine (cL _).out.mono ?_; rintro e w' ⟨rfl, rfl⟩) | (go_at_call 44; with_reducible refine (cU _).out.mono ?_; rintro e w' ⟨rfl, rfl⟩) | (go_at_call 45; with_reducible refine (cD _).out.mono ?_; rintro e w' ⟨rfl, rfl⟩))
        go_round
        case rel => exact ⟨k + 1, by omega, by omega, by go_num, Lib.hid (by rw [HK.out, HD.out, HT.out, Bool.true_and])⟩
        case measure => simp [intOf]; omega
      · rw [h1, hcI] at cL
        rw [h2, hcI] at cU
        rw [h3, hcI] at cD
        have h5 : ((s[k].toNat : Int) != 95) = false := by rw [← hcI, h4]; rfl
        have HT := Lib.hid ht
        clear h1 h2 h3 ht hcI hc
        clear h4
        go_wp2_with (first | (go_at_call 41; with_reducible refine (cL _).out.mono ?_; rintro e w' ⟨rfl, rfl⟩) | (go_at_call 44; with_reducible refine (cU _).out.mono ?_; rintro e w' ⟨rfl, rfl⟩) | (go_at_call 45; with_reducible refine (cD _).out.mono ?_; rintro e w' ⟨rfl, rfl⟩))
        go_round
        case rel => exact ⟨k + 1, by omega, by omega, by go_num, Lib.hid (by rw [HK.out, HD.out, HT.out, Bool.true_and])⟩
        case measure => simp [intOf]; omega
      · rw [h1, hcI] at cL
        rw [h2, hcI] at cU
        rw [h3, hcI] at cD
        rw [hcI] at h4
        have HT := Lib.hid ht
        clear h1 h2 h3 ht hcI hc
        go_wp2_with (first | (go_at_call 41; with_reducible refine (cL _).out.mono ?_; rintro e w' ⟨rfl, rfl⟩) | (go_at_call 44; with_reducible refine (cU _).out.mono ?_; rintro e w' ⟨rfl, rfl⟩) | (go_at_call 45; with_reducible refine (cD _).out.mono ?_; rintro e w' ⟨rfl, rfl⟩))
        go_ret
        refine ⟨(show Ending.returned (.bool false) = _ from ?_), rfl⟩
        rw [HK.out, HD.out, HT.out, Bool.false_and]
    · go_wp2
      go_ret
      refine ⟨(show Ending.returned (.bool true) = _ from ?_), rfl⟩
      rw [HK.out, List.drop_of_length_le (by simpa using Nat.le_of_not_lt hlt)]; rfl

theorem refIsName_any (s : ByteArray) (w : World) (hs : s.size ≤ 9223372036854775807) :
    Calls Try.prog 34 #[.string s] w fun e w' => e = .returned (.bool (nameL s.data.toList)) ∧ w = w' := by
  by_cases h0 : s.size < 1
  · have hn : nameL s.data.toList = false := by
      have e1 : s.data.toList = [] := List.eq_nil_of_length_eq_zero (show s.size = 0 by omega)
      rw [e1]; rfl
    rw [hn]
    clear hn
    go_enter Try.func34, Try.ntmps34
    go_wp2
    go_ret
    exact ⟨rfl, rfl⟩
  · have hp : 0 < s.size := by omega
    have hW := wordL_of s hp
    by_cases h1 : s.size ≤ 64
    · have d1 : decide ((64 : Int) < (s.size : Int)) = false := by simp; omega
      cases h2 : (s.toList == notL) with
      | true =>
        have hn : nameL s.data.toList = false := by rw [ByteArray.toList_eq] at h2; simp [nameL, h2]
        rw [hn]
        have h' : (s.toList == [110, 111, 116]) = true := h2
        clear hn hW h2
        go_enter Try.func34, Try.ntmps34
        go_wp2
        go_ret
        exact ⟨rfl, rfl⟩
      | false =>
        have hn : nameL s.data.toList = (lowB s[0] && (s.data.toList.drop 1).all tailB) := by rw [ByteArray.toList_eq] at h2; simp [nameL, h2, hW, h1]
        rw [hn]
        have h' : (s.toList == [110, 111, 116]) = false := h2
        clear hn hW h2
        have cL := fun W => Lib.hid (refLower_any s[0] W)
        have cT := fun W => Lib.hid (refTail_any s W hp hs)
        generalize (s.data.toList.drop 1).all tailB = x at *
        cases h3 : lowB s[0] with
        | true =>
          rw [h3] at cL
          clear h3
          go_enter Try.func34, Try.ntmps34
          go_wp2_with (first | (go_at_call 41; with_reducible refine (cL _).out.mono ?_; rintro e w' ⟨rfl, rfl⟩) | (go_at_call 42; with_reducible refine (cT _).out.mono ?_; rintro e w' ⟨rfl, rfl⟩))
          go_ret
          exact ⟨rfl, rfl⟩
        | false =>
          rw [h3] at cL
          clear h3
          go_enter Try.func34, Try.ntmps34
          go_wp2_with (first | (go_at_call 41; with_reducible refine (cL _).out.mono ?_; rintro e w' ⟨rfl, rfl⟩))
          go_ret
          exact ⟨rfl, rfl⟩
    · have d1 : decide ((64 : Int) < (s.size : Int)) = true := by simp; omega
      have hn : nameL s.data.toList = false := by simp [nameL, hW, h1]
      rw [hn]
      clear hn hW
      go_enter Try.func34, Try.ntmps34
      go_wp2
      go_ret
      exact ⟨rfl, rfl⟩

set_option maxHeartbeats 1000000 in
theorem refValid_any (k i : Int) (s : ByteArray) (w : World) (hs : s.size ≤ 9223372036854775807) :
    Calls Try.prog 27 #[.agg #[.int .i64 k, .int .i64 i, .string s]] w fun e w' => e = .returned (.bool (validC k i s.data.toList)) ∧ Below w.heap.size w w' := by
  have cN := fun W => Lib.hid (refIsName_any s W hs)
  by_cases h1 : k = 1
  · subst h1
    have hv : validC 1 i s.data.toList = s.toList.isEmpty := by rw [ByteArray.toList_eq]; simp [validC]
    rw [hv]
    clear hv cN
    go_enter Try.func27, Try.ntmps27
    go_wp2
    go_ret
    exact ⟨rfl, (Below.refl _ _).alloc (Nat.le_refl _) _⟩
  · have d1 : (k == 1) = false := by simpa using h1
    by_cases h2 : k = 2
    · subst h2
      by_cases hi : i = 0
      · subst hi
        have hv : validC 2 0 s.data.toList = nameL s.data.toList := by simp [validC]
        rw [hv]
        clear hv
        generalize nameL s.data.toList = x at *
        go_enter Try.func27, Try.ntmps27
        go_wp2_with (go_at_call 34; with_reducible refine (cN _).out.mono ?_; rintro e w' ⟨rfl, rfl⟩)
        go_ret
        exact ⟨rfl, (Below.refl _ _).alloc (Nat.le_refl _) _⟩
      · have hv : validC 2 i s.data.toList = false := by simp [validC, hi]
        rw [hv]
        have di : (i == 0) = false := by simpa using hi
        clear hv cN
        go_enter Try.func27, Try.ntmps27
        go_wp2
        go_ret
        exact ⟨rfl, (Below.refl _ _).alloc (Nat.le_refl _) _⟩
    · have d2 : (k == 2) = false := by simpa using h2
      clear cN
      by_cases h3 : k = 3
      · subst h3
        by_cases hi : i = 0
        · subst hi
          have hv : validC 3 0 s.data.toList = decide ((s.size : Int) ≤ 255) := by
            simp only [validC]
            simp
            show (s.size ≤ 255) ↔ _
            omega
          rw [hv]
          clear hv
          go_enter Try.func27, Try.ntmps27
          go_wp2
          go_ret
          exact ⟨rfl, (Below.refl _ _).alloc (Nat.le_refl _) _⟩
        · have hv : validC 3 i s.data.toList = false := by simp [validC, hi]
          rw [hv]
          have di : (i == 0) = false := by simpa using hi
          clear hv
          go_enter Try.func27, Try.ntmps27
          go_wp2
          go_ret
          exact ⟨rfl, (Below.refl _ _).alloc (Nat.le_refl _) _⟩
      · have d3 : (k == 3) = false := by simpa using h3
        have hv : validC k i s.data.toList = false := by simp [validC, h1, h2, h3]
        rw [hv]
        clear hv h1 h2 h3
        go_enter Try.func27, Try.ntmps27
        go_wp2
        go_ret
        exact ⟨rfl, (Below.refl _ _).alloc (Nat.le_refl _) _⟩

theorem cmpL_drop {a b : List UInt8} {k : Nat} {x y : UInt8} (hx : a[k]? = some x) (hy : b[k]? = some y) :
    cmpL (a.drop k) (b.drop k) = if x.toNat < y.toNat then -1 else if y.toNat < x.toNat then 1 else cmpL (a.drop (k + 1)) (b.drop (k + 1)) := by
  obtain ⟨hk, rfl⟩ := List.getElem?_eq_some_iff.1 hx
  obtain ⟨hk', rfl⟩ := List.getElem?_eq_some_iff.1 hy
  rw [List.drop_eq_getElem_cons hk, List.drop_eq_getElem_cons hk', cmpL]

set_option maxHeartbeats 1000000 in
theorem refBytes_any (s r : ByteArray) (w : World) (hs : s.size ≤ 9223372036854775807) (_hr : r.size ≤ 9223372036854775807) :
    Calls Try.prog 35 #[.string s, .string r] w fun e w' => e = .returned (.int .i64 (cmpL s.toList r.toList)) ∧ ∃ n, w.drewN n = w' := by
  rw [ByteArray.toList_eq, ByteArray.toList_eq]
  go_enter Try.func35, Try.ntmps35
  go_wp2
  go_loopw [5] (fun i wr => ∃ k n : Nat, k ≤ s.size ∧ k ≤ r.size ∧ i = .int .i64 k ∧ wr = w.drewN n ∧ Hid (cmpL s.data.toList r.data.toList = cmpL (s.data.toList.drop k) (r.data.toList.drop k))) (fun i _ => s.size - (intOf i).toNat)
  case atStart => exact ⟨0, 0, Nat.zero_le _, Nat.zero_le _, rfl, rfl, Lib.hid rfl⟩
  case round =>
    obtain ⟨k, n, hk, hk', rfl, rfl, HK⟩ := hrel
    by_cases hlt : k < s.size
    · by_cases hlt' : k < r.size
      · have hx : s.data.toList[k]? = some s[k] := List.getElem?_eq_getElem (by simpa using hlt)
        have hy : r.data.toList[k]? = some r[k] := List.getElem?_eq_getElem (by simpa using hlt')
        have HD := Lib.hid (cmpL_drop hx hy)
        clear hx hy
        rcases Nat.lt_trichotomy s[k].toNat r[k].toNat with h | h | h
        · go_wp2
          go_quiet (fail)
          go_wp2
          go_ret
          refine ⟨(show Ending.returned (.int .i64 (-1)) = _ from ?_), n + nq, by rw [World.drewN_drewN]⟩
          rw [HK.out, HD.out, if_pos h]
        · have h1 : ¬ (s[k].toNat : Int) < (r[k].toNat : Int) := by omega
          have h2 : ¬ (r[k].toNat : Int) < (s[k].toNat : Int) := by omega
          have H := Lib.hid h
          clear h
          go_wp2
          go_quiet (fail)
          go_wp2
          go_quiet (fail)
          go_wp2
          go_roundw
          case rel => exact ⟨k + 1, _, by omega, by omega, by go_num, rfl, Lib.hid (by rw [HK.out, HD.out, if_neg (by have := H.out; omega), if_neg (by have := H.out; omega)])⟩
          case measure => simp [intOf]; omega
        · have h1 : ¬ (s[k].toNat : Int) < (r[k].toNat : Int) := by omega
          go_wp2
          go_quiet (fail)
          go_wp2
          go_quiet (fail)
          go_wp2
          go_ret
          refine ⟨(show Ending.returned (.int .i64 1) = _ from ?_), ?_⟩
          · rw [HK.out, HD.out, if_neg (by omega), if_pos h]
          · simp only [World.drewN_drewN]
            exact ⟨_, rfl⟩
      · have d1 : decide ((k : Int) < (r.size : Int)) = false := by simp; omega
        go_wp2
        go_ret
        refine ⟨(show Ending.returned (.int .i64 1) = _ from ?_), n, rfl⟩
        rw [HK.out, List.drop_of_length_le (l := r.data.toList) (by simpa using Nat.le_of_not_lt hlt'), List.drop_eq_getElem_cons (l := s.data.toList) (by simpa using hlt)]; rfl
    · by_cases hlt' : s.size < r.size
      · go_wp2
        go_ret
        refine ⟨(show Ending.returned (.int .i64 (-1)) = _ from ?_), n, rfl⟩
        rw [HK.out, List.drop_of_length_le (l := s.data.toList) (by simpa using Nat.le_of_not_lt hlt), List.drop_eq_getElem_cons (l := r.data.toList) (by show k < r.size; omega)]; rfl
      · have h3 : ¬ (r.size : Int) < (s.size : Int) := by omega
        go_wp2
        go_ret
        refine ⟨(show Ending.returned (.int .i64 0) = _ from ?_), n, rfl⟩
        rw [HK.out, List.drop_of_length_le (l := s.data.toList) (by simpa using Nat.le_of_not_lt hlt), List.drop_of_length_le (l := r.data.toList) (by show r.size ≤ k; omega)]; rfl

theorem below_of_drewN {w w' : World} {B : Nat} (h : ∃ n, w.drewN n = w') : Below B w w' := by
  obtain ⟨n, rfl⟩ := h
  exact below_drewN (Below.refl _ _) n

set_option maxHeartbeats 1000000 in
theorem refCompare_any (k i : Int) (s : ByteArray) (k' i' : Int) (s' : ByteArray) (w : World) (hs : s.size ≤ 9223372036854775807) (hs' : s'.size ≤ 9223372036854775807) :
    Calls Try.prog 28 #[.agg #[.int .i64 k, .int .i64 i, .string s], .agg #[.int .i64 k', .int .i64 i', .string s']] w
      fun e w' => e = .returned (.int .i64 (cmpC k i s.toList k' i' s'.toList)) ∧ Below w.heap.size w w' := by
  by_cases h1 : k = k'
  · subst h1
    have n1 : (k != k) = false := by simp
    by_cases h2 : i = i'
    · subst h2
      have hr : cmpC k i s.toList k i s'.toList = cmpL s.toList s'.toList := by simp [cmpC, cmpI]
      rw [hr]
      have n2 : (i != i) = false := by simp
      have cB := fun W => Lib.hid (refBytes_any s s' W hs hs')
      generalize cmpL s.toList s'.toList = x at *
      clear hr
      go_enter Try.func28, Try.ntmps28
      go_wp2_with (go_at_call 35; with_reducible refine (cB _).out.mono ?_; rintro e w' ⟨rfl, hb⟩)
      go_ret
      exact ⟨rfl, (((Below.refl _ _).alloc (Nat.le_refl _) _).alloc (by simp) _).trans (below_of_drewN (by assumption))⟩
    · have n2 : (i != i') = true := by simpa using h2
      rcases Int.lt_or_gt_of_ne h2 with h | h
      · have hr : cmpC k i s.toList k i' s'.toList = -1 := by simp [cmpC, cmpI, h]
        rw [hr]
        clear hr h2
        go_enter Try.func28, Try.ntmps28
        go_wp2
        go_ret
        exact ⟨rfl, ((Below.refl _ _).alloc (Nat.le_refl _) _).alloc (by simp) _⟩
      · have hr : cmpC k i s.toList k i' s'.toList = 1 := by have : ¬ i < i' := by omega
                                                             simp [cmpC, cmpI, h, this]
        rw [hr]
        have h' : ¬ i < i' := by omega
        clear hr h2
        go_enter Try.func28, Try.ntmps28
        go_wp2
        go_ret
        exact ⟨rfl, ((Below.refl _ _).alloc (Nat.le_refl _) _).alloc (by simp) _⟩
  · have n1 : (k != k') = true := by simpa using h1
    rcases Int.lt_or_gt_of_ne h1 with h | h
    · have hr : cmpC k i s.toList k' i' s'.toList = -1 := by simp [cmpC, cmpI, h]
      rw [hr]
      clear hr h1
      go_enter Try.func28, Try.ntmps28
      go_wp2
      go_ret
      exact ⟨rfl, ((Below.refl _ _).alloc (Nat.le_refl _) _).alloc (by simp) _⟩
    · have hr : cmpC k i s.toList k' i' s'.toList = 1 := by have : ¬ k < k' := by omega
                                                            simp [cmpC, cmpI, h, this]
      rw [hr]
      have h' : ¬ k < k' := by omega
      clear hr h1
      go_enter Try.func28, Try.ntmps28
      go_wp2
      go_ret
      exact ⟨rfl, ((Below.refl _ _).alloc (Nat.le_refl _) _).alloc (by simp) _⟩
end Sym
end Go.Proofs.Ytglnbcjffhfaaaa
