/-
  What sym.Valid, sym.IsName and sym.word do.
-/
import Derived.Test.YtkejjiohkhlnnaaSymLeaf
import Derived.Lib.ConvBytes
namespace Go.Proofs.Ytkejjiohkhlnnaa
open Go.RowKit
namespace Sym

theorem below_bytes (w : World) (e : TypeId) (s : ByteArray) : Below w.heap.size w (Lib.bytesWorld w e s) :=
  ⟨rfl, rfl, rfl, by rw [Lib.bytesWorld_size]; omega, fun k hk => Lib.bytesWorld_at_old w e s k hk⟩

theorem all_drop {l : List UInt8} {k : Nat} {c : UInt8} (h : l[k]? = some c) : (l.drop k).all tailB = (tailB c && (l.drop (k + 1)).all tailB) := by
  obtain ⟨hk, rfl⟩ := List.getElem?_eq_some_iff.1 h
  rw [List.drop_eq_getElem_cons hk, List.all_cons]

theorem isEmpty_iff (s : ByteArray) : s.toList.isEmpty = decide (s.size = 0) := by
  rw [ByteArray.toList_eq]
  obtain ⟨⟨l⟩⟩ := s
  cases l with
  | nil => rfl
  | cons c r => exact (decide_eq_false (show ¬ r.length + 1 = 0 by omega)).symm
theorem wordL_of (s : ByteArray) (h : 0 < s.size) : wordL s.data.toList = (decide (s.size ≤ 64) && lowB s[0] && (s.data.toList.drop 1).all tailB) := by
  obtain ⟨⟨l⟩⟩ := s
  cases l with
  | nil => exact absurd h (by show ¬ 0 < 0; omega)
  | cons c r =>
    show (decide (r.length < 64) && lowB c && r.all tailB) = (decide (r.length + 1 ≤ 64) && lowB c && r.all tailB)
    rw [decide_eq_decide.2 (show r.length < 64 ↔ r.length + 1 ≤ 64 by omega)]

theorem conv_tail (s : ByteArray) (w : World) (n : Nat) (hn : n + 1 = s.size) : ∃ W1 cap,
    (convert 9 156 (.string (s.extract 1 s.size))).run Try.prog w = .ok (.slice (some ⟨w.heap.size, 0, none⟩) n cap) W1 ∧
    (∀ (j : Nat) (c : UInt8), (s.data.toList.drop 1)[j]? = some c → W1.cell? ⟨w.heap.size, j, none⟩ = some (.int .u8 c.toNat)) ∧ Below w.heap.size w W1 := by
  have hl : (s.extract 1 s.size).data.toList = s.data.toList.drop 1 := by
    obtain ⟨⟨l⟩⟩ := s
    simp [ByteArray.data_extract, List.extract_eq_take_drop, ByteArray.size]
    exact List.take_of_length_le (by simp)
  have hz : (s.extract 1 s.size).size = n := by rw [ByteArray.size_extract]; omega
  refine ⟨_, grownCap w n 0 5, ?_, ?_, below_bytes w 5 (s.extract 1 s.size)⟩
  · have := Lib.run_convert_string_bytes (P := Try.prog) w 9 156 5 (s.extract 1 s.size) (u := .string) Try.underlying9 Try.underlying156 Try.underlying5
    rw [this, hz]
  · intro j c hj
    rw [← hl] at hj
    have hlt : j < (s.extract 1 s.size).size := (List.getElem?_eq_some_iff.1 hj).1
    rw [Lib.bytesWorld_cell w _ _ j hlt, List.getD_eq_getElem?_getD, hj]
    rfl

theorem tail_cases (c : UInt8) : (lowB c = true ∧ tailB c = true) ∨ (lowB c = false ∧ (upB c || c == 95) = true ∧ tailB c = true) ∨
    (lowB c = false ∧ (upB c || c == 95) = false ∧ c.toNat < 48 ∧ tailB c = false) ∨ (lowB c = false ∧ (upB c || c == 95) = false ∧ 57 < c.toNat ∧ tailB c = false) ∨
    (lowB c = false ∧ (upB c || c == 95) = false ∧ 48 ≤ c.toNat ∧ c.toNat ≤ 57 ∧ tailB c = true) := by
  cases h1 : lowB c with
  | true => exact .inl ⟨rfl, by simp [tailB, h1]⟩
  | false =>
    cases h2 : (upB c || c == 95) with
    | true =>
      refine .inr (.inl ⟨rfl, rfl, ?_⟩)
      rcases Bool.or_eq_true_iff.1 h2 with h | h <;> simp [tailB, h]
    | false =>
      rw [Bool.or_eq_false_iff] at h2
      by_cases h3 : c.toNat < 48
      · exact .inr (.inr (.inl ⟨rfl, rfl, h3, by simp [tailB, h1, h2.1, h2.2, digB]; omega⟩))
      · by_cases h4 : 57 < c.toNat
        · exact .inr (.inr (.inr (.inl ⟨rfl, rfl, h4, by simp [tailB, h1, h2.1, h2.2, digB]; omega⟩)))
        · exact .inr (.inr (.inr (.inr ⟨rfl, rfl, by omega, by omega, by simp [tailB, digB]; omega⟩)))

set_option maxHeartbeats 1000000 in
theorem word_any (s : ByteArray) (w : World) (hs : s.size ≤ 9223372036854775807) :
    Calls Try.prog 78 #[.string s, .func (.func 79) #[] #[]] w fun e w' => e = .returned (.bool (wordL s.data.toList)) ∧ Below w.heap.size w w' := by
  by_cases h0 : s.size = 0
  · have e1 : s.data.toList = [] := List.eq_nil_of_length_eq_zero h0
    have e2 : s.toList.isEmpty = true := by rw [isEmpty_iff]; simpa using h0
    have e3 : wordL s.data.toList = false := by rw [e1]; rfl
    rw [e3]
    clear e1 e3 h0
    go_enter Try.func78, Try.ntmps78
    go_wp2
    go_ret
    exact ⟨rfl, Below.refl _ _⟩
  · have e2 : s.toList.isEmpty = false := by rw [isEmpty_iff]; simpa using h0
    have hp : 0 < s.size := by omega
    have hW := wordL_of s hp
    by_cases h1 : s.size ≤ 64
    · have d1 : decide ((64 : Int) < (s.size : Int)) = false := by simp; omega
      obtain ⟨c, hc⟩ : ∃ c, c = s[0] := ⟨_, rfl⟩
      rw [← hc] at hW
      cases h2 : lowB c with
      | false =>
        have e3 : wordL s.data.toList = false := by rw [hW, h2]; simp
        rw [e3]
        have c1 := fun W => Lib.hid (small_any c W)
        rw [h2, hc] at c1
        clear hW h2 hc e3
        go_enter Try.func78, Try.ntmps78
        go_wp2_with (go_at_call 79; with_reducible refine (c1 _).out.mono ?_; rintro e w' ⟨rfl, rfl⟩)
        go_ret
        exact ⟨rfl, Below.refl _ _⟩
      | true =>
        have c1 := fun W => Lib.hid (small_any c W)
        rw [h2, hc] at c1
        have HW : Hid (wordL s.data.toList = (s.data.toList.drop 1).all tailB) := Lib.hid (by rw [hW, h2]; simp [h1])
        clear hW h2 hc
        obtain ⟨n, hn⟩ : ∃ n, n + 1 = s.size := ⟨s.size - 1, by omega⟩
        obtain ⟨W1, cap, hcv, hcell, hbel⟩ := conv_tail s w n hn
        have hl : (s.data.toList.drop 1).length = n := by rw [List.length_drop]; show s.size - 1 = n; omega
        generalize s.data.toList.drop 1 = l at *
        have HL := Lib.hid hl
        have HC := Lib.hid hcell
        have hn1 : n ≤ 64 := by omega
        clear hl hcell hn
        go_enter Try.func78, Try.ntmps78
        go_wp2_with (go_at_call 79; with_reducible refine (c1 _).out.mono ?_; rintro e w' ⟨rfl, rfl⟩)
        go_loop [25] (fun i => ∃ k : Nat, k ≤ n ∧ i = .int .i64 k ∧ Hid (l.all tailB = (l.drop k).all tailB)) (fun i => n - (intOf i).toNat)
        case atStart => exact ⟨0, Nat.zero_le _, rfl, Lib.hid rfl⟩
        case round =>
          obtain ⟨k, hk, rfl, HK⟩ := hrel
          clear hcv c1
          by_cases hlt : k < n
          · obtain ⟨c, hc⟩ : ∃ c, l[k]? = some c := ⟨_, List.getElem?_eq_getElem (by rw [HL.out]; exact hlt)⟩
            have hcell := HC.out k c hc
            have HD := Lib.hid (all_drop hc)
            clear hc
            have cS := fun W => Lib.hid (small_any c W)
            have cB := fun W => Lib.hid (big_any c W)
            rcases tail_cases c with ⟨h1, ht⟩ | ⟨h1, h2, ht⟩ | ⟨h1, h2, h3, ht⟩ | ⟨h1, h2, h3, ht⟩ | ⟨h1, h2, h3, h4, ht⟩
            · rw [h1] at cS
              have HT := Lib.hid ht
              clear h1 ht cB
              go_wp2_with (go_at_call 79; with_reducible refine (cS _).out.mono ?_; rintro e w' ⟨rfl, rfl⟩)
              go_round
              case rel => exact ⟨k + 1, by omega, by go_num, Lib.hid (by rw [HK.out, HD.out, HT.out, Bool.true_and])⟩
              case measure => simp [intOf]; omega
            · rw [h1] at cS
              rw [h2] at cB
              have HT := Lib.hid ht
              clear h1 h2 ht
              go_wp2_with (first | (go_at_call 79; with_reducible refine (cS _).out.mono ?_; rintro e w' ⟨rfl, rfl⟩) | (go_at_call 91; with_reducible refine (cB _).out.mono ?_; rintro e w' ⟨rfl, rfl⟩))
              go_round
              case rel => exact ⟨k + 1, by omega, by go_num, Lib.hid (by rw [HK.out, HD.out, HT.out, Bool.true_and])⟩
              case measure => simp [intOf]; omega
            · rw [h1] at cS
              rw [h2] at cB
              have HT := Lib.hid ht
              clear h1 h2 ht
              go_wp2_with (first | (go_at_call 79; with_reducible refine (cS _).out.mono ?_; rintro e w' ⟨rfl, rfl⟩) | (go_at_call 91; with_reducible refine (cB _).out.mono ?_; rintro e w' ⟨rfl, rfl⟩))
              go_ret
              refine ⟨(show Ending.returned (.bool false) = _ from ?_), hbel⟩
              rw [HW.out, HK.out, HD.out, HT.out, Bool.false_and]
            · rw [h1] at cS
              rw [h2] at cB
              have d4 : decide ((57 : Int) < (c.toNat : Int)) = true := by simp; omega
              have HT := Lib.hid ht
              clear h1 h2 ht
              go_wp2_with (first | (go_at_call 79; with_reducible refine (cS _).out.mono ?_; rintro e w' ⟨rfl, rfl⟩) | (go_at_call 91; with_reducible refine (cB _).out.mono ?_; rintro e w' ⟨rfl, rfl⟩))
              go_ret
              refine ⟨(show Ending.returned (.bool false) = _ from ?_), hbel⟩
              rw [HW.out, HK.out, HD.out, HT.out, Bool.false_and]
            · rw [h1] at cS
              rw [h2] at cB
              have d4 : decide ((57 : Int) < (c.toNat : Int)) = false := by simp; omega
              have HT := Lib.hid ht
              clear h1 h2 ht
              go_wp2_with (first | (go_at_call 79; with_reducible refine (cS _).out.mono ?_; rintro e w' ⟨rfl, rfl⟩) | (go_at_call 91; with_reducible refine (cB _).out.mono ?_; rintro e w' ⟨rfl, rfl⟩))
              go_round
              case rel => exact ⟨k + 1, by omega, by go_num, Lib.hid (by rw [HK.out, HD.out, HT.out, Bool.true_and])⟩
              case measure => simp [intOf]; omega
          · go_wp2
            go_ret
            refine ⟨(show Ending.returned (.bool true) = _ from ?_), hbel⟩
            rw [HW.out, HK.out, List.drop_of_length_le (by rw [HL.out]; omega)]; rfl
    · have d1 : decide ((64 : Int) < (s.size : Int)) = true := by simp; omega
      have e3 : wordL s.data.toList = false := by rw [hW]; simp [h1]
      rw [e3]
      clear hW e3
      go_enter Try.func78, Try.ntmps78
      go_wp2
      go_ret
      exact ⟨rfl, Below.refl _ _⟩

theorem isName_any (s : ByteArray) (w : World) (hs : s.size ≤ 9223372036854775807) :
    Calls Try.prog 57 #[.string s] w fun e w' => e = .returned (.bool (nameL s.data.toList)) ∧ Below w.heap.size w w' := by
  have cW := fun W => Lib.hid (word_any s W hs)
  cases h : (s.toList == notL) with
  | true =>
    have hn : nameL s.data.toList = false := by rw [ByteArray.toList_eq] at h; simp [nameL, h]
    rw [hn]
    clear hn cW
    have h' : (s.toList == [110, 111, 116]) = true := h
    clear h
    go_enter Try.func57, Try.ntmps57
    go_wp2
    go_ret
    exact ⟨rfl, Below.refl _ _⟩
  | false =>
    have hn : nameL s.data.toList = wordL s.data.toList := by rw [ByteArray.toList_eq] at h; simp [nameL, h]
    rw [hn]
    generalize wordL s.data.toList = x at *
    clear hn
    have h' : (s.toList == [110, 111, 116]) = false := h
    clear h
    go_enter Try.func57, Try.ntmps57
    go_wp2_with (go_at_call 78; with_reducible refine (cW _).out.mono ?_; rintro e w' ⟨rfl, hb⟩)
    go_ret
    exact ⟨rfl, by assumption⟩

set_option maxHeartbeats 1000000 in
theorem valid_any (k i : Int) (s : ByteArray) (w : World) (hs : s.size ≤ 9223372036854775807) :
    Calls Try.prog 27 #[.agg #[.int .i64 k, .int .i64 i, .string s]] w fun e w' => e = .returned (.bool (validC k i s.data.toList)) ∧ Below w.heap.size w w' := by
  have cN := fun W => Lib.hid (isName_any s W hs)
  by_cases h1 : k = 1
  · subst h1
    have hv : validC 1 i s.data.toList = s.toList.isEmpty := by rw [ByteArray.toList_eq]; simp [validC]
    rw [hv]
    clear hv cN
    go_enter Try.func27, Try.ntmps27
    go_wp2
    go_ret
    exact ⟨rfl, (Below.refl _ _).alloc (Nat.le_refl _) _⟩
  · have d1 : (k == 1) = false := by simpa using h1
    by_cases h2 : k = 2
    · subst h2
      by_cases hi : i = 0
      · subst hi
        have hv : validC 2 0 s.data.toList = nameL s.data.toList := by simp [validC]
        rw [hv]
        clear hv
        generalize nameL s.data.toList = x at *
        go_enter Try.func27, Try.ntmps27
        go_wp2_with (go_at_call 57; with_reducible refine (cN _).out.mono ?_; rintro e w' ⟨rfl, hb⟩)
        go_ret
        exact ⟨rfl, ((Below.refl _ _).alloc (Nat.le_refl _) _).trans (Below.mono (by assumption) (by simp))⟩
      · have hv : validC 2 i s.data.toList = false := by simp [validC, hi]
        rw [hv]
        have di : (i == 0) = false := by simpa using hi
        clear hv cN
        go_enter Try.func27, Try.ntmps27
        go_wp2
        go_ret
        exact ⟨rfl, (Below.refl _ _).alloc (Nat.le_refl _) _⟩
    · have d2 : (k == 2) = false := by simpa using h2
      clear cN
      by_cases h3 : k = 3
      · subst h3
        by_cases hi : i = 0
        · subst hi
          have hv : validC 3 0 s.data.toList = decide ((s.size : Int) ≤ 255) := by
            simp only [validC]
            simp
            show (s.size ≤ 255) ↔ _
            omega
          rw [hv]
          clear hv
          go_enter Try.func27, Try.ntmps27
          go_wp2
          go_ret
          exact ⟨rfl, (Below.refl _ _).alloc (Nat.le_refl _) _⟩
        · have hv : validC 3 i s.data.toList = false := by simp [validC, hi]
          rw [hv]
          have di : (i == 0) = false := by simpa using hi
          clear hv
          go_enter Try.func27, Try.ntmps27
          go_wp2
          go_ret
          exact ⟨rfl, (Below.refl _ _).alloc (Nat.le_refl _) _⟩
      · have d3 : (k == 3) = false := by simpa using h3
        have hv : validC k i s.data.toList = false := by simp [validC, h1, h2, h3]
        rw [hv]
        clear hv h1 h2 h3
        go_enter Try.func27, Try.ntmps27
        go_wp2
        go_ret
        exact ⟨rfl, (Below.refl _ _).alloc (Nat.le_refl _) _⟩
end Sym
end Go.Proofs.Ytkejjiohkhlnnaa
