/-
  The evaluator's pure operations are sound (2).
-/
import Derived.Test.YtdgpdmbfhehpfaaGreatDoorEvE
import Derived.Laws.Slices
set_option linter.all false
namespace Go.Proofs.YtdgpdmbfhehpfaaGreatDoor.Ev
open Go.RowKit

variable {gs : Prm} {P : Program} {ρ : Env}

theorem un_ok {op : UnOp} {x v : AVal} {X : Value} (hX : VRel ρ x X) (h : unA op x = some v) : ∃ V, VRel ρ v V ∧ ∀ w, (Op.unary op X).run P w = .ok V w := by
  unfold unA at h
  split at h
  · rename_i n
    cases hX
    split at h
    · rename_i hn
      cases h
      refine ⟨_, .int _ _, fun w => ?_⟩
      have hf : bitsOf .xor .u32 (.ofNat 4294967295) (.ofNat n) = some (.int .u32 (.ofNat (Nat.xor 4294967295 n))) := by
        have : fits .u32 (.ofNat 4294967295) = true := by decide
        simp only [bitsOf, this]
        rw [show fits .u32 (.ofNat n) = true by simpa [fits] using hn]
      obtain ⟨V, hV, hr⟩ := bits_ok (ρ := ρ) (P := P) hf
      cases hV
      have : Op.unary .xor (.int .u32 (Int.ofNat n)) = Op.intBits .xor .u32 (.ofNat 4294967295) (Int.ofNat n) := rfl
      rw [this, hr]
    · cases h
  · cases hX; cases h; exact ⟨_, .bool _, fun w => rfl⟩
  · cases h

theorem nilCheck_ok {x v : AVal} {X : Value} (hX : VRel ρ x X) (h : nilCheckA x = some v) (a : Act) (o : Oper) (y : Operand) (ho : o.op = .nilCheck y) (hy : a.eval y = X) :
    ∃ V, VRel ρ v V ∧ ∀ w, (execOp a.eval o).run P w = .ok (.value V) w := by
  unfold nilCheckA at h
  split at h <;> first
    | (cases h; done)
    | (cases h
       refine ⟨X, hX, fun w => ?_⟩
       simp only [execOp, ho, hy]
       cases hX <;> rfl)

theorem iface_ok {t : Nat} {x v : AVal} {X : Value} (hX : VRel ρ x X) (h : makeIfaceA P t x = some v) : ∃ V, VRel ρ v V ∧ ∀ w, (Instr.makeInterface t X).run P w = .ok V w := by
  unfold makeIfaceA at h
  split at h
  · cases h
  · rename_i d hno hd
    cases h
    refine ⟨_, .iface t hX, fun w => ?_⟩
    simp only [Instr.makeInterface, Sem.run_bind, run_underlying hd, Result.andThen_ok]
    rfl
  · cases h

theorem addr_add (B o n : Nat) : (⟨B, o, none⟩ : Addr).add n = ⟨B, o + n, none⟩ := by
  unfold Addr.add; split <;> simp_all

theorem size_run {t n : Nat} (h : tsize P t = some n) (w : World) : (sizeOf t).run P w = .ok n w := size_ok h

theorem fieldAddr_ok {s f : Nat} {x v : AVal} {X : Value} (hX : VRel ρ x X) (h : fieldAddrA P s x f = some v) : ∃ V, VRel ρ v V ∧ ∀ w, (Instr.fieldAt s X f).run P w = .ok V w := by
  unfold fieldAddrA at h
  split at h
  · rename_i fs b o hu
    cases hX with
    | @ptr _ _ B c hB =>
    simp only [Option.bind_eq_some_iff] at h
    obtain ⟨fd, hfd, n, hn, h⟩ := h
    split at h
    · cases h
    · rename_i hz
      cases h
      have hn0 : n ≠ 0 := fun e => by subst e; simp at hz
      refine ⟨_, .ptr (o := o + fd.offset) hB, fun w => ?_⟩
      simp [Instr.fieldAt, run_underlying hu, hfd, Instr.sureAddr, fieldPlace, size_run hn, hn0, addr_add, Nat.add_assoc]
  · cases h

theorem part_ok {t off : Nat} {cs : List AVal} {us : List Value} {v : AVal} (hc : VRels ρ cs us) (h : partA P t cs off = some v) : ∃ V, VRel ρ v V ∧ ∀ w, (Go.part t ⟨us⟩ off).run P w = .ok V w := by
  simp only [partA, Option.bind_eq_some_iff] at h
  obtain ⟨g, hg, h⟩ := h
  cases g with
  | true =>
    simp only [Option.bind_eq_some_iff] at h
    obtain ⟨n, hn, h⟩ := h
    cases h
    refine ⟨.agg ⟨(us.drop off).take n⟩, .agg ((hc.drop off).take n), fun w => ?_⟩
    have : (⟨us⟩ : Array Value).extract off (off + n) = ⟨(us.drop off).take n⟩ := by
      apply Array.ext'
      simp [List.extract_eq_take_drop]
    simp [Go.part, isAgg_ok hg, size_run hn, this]
  | false =>
    obtain ⟨u, hu, hr⟩ := hc.get h
    refine ⟨u, hr, fun w => ?_⟩
    have hu' : (⟨us⟩ : Array Value)[off]? = some u := by simpa using hu
    simp [Go.part, isAgg_ok hg, hu']

theorem field_ok {t f : Nat} {x v : AVal} {X : Value} (hX : VRel ρ x X) (h : fieldA P t x f = some v) : ∃ V, VRel ρ v V ∧ ∀ w, (Instr.field t X f).run P w = .ok V w := by
  unfold fieldA at h
  split at h
  · rename_i fs cs hu
    cases hX with
    | agg hc =>
    simp only [Option.bind_eq_some_iff] at h
    obtain ⟨fd, hfd, h⟩ := h
    obtain ⟨V, hV, hr⟩ := part_ok hc h
    exact ⟨V, hV, fun w => by simp [Instr.field, run_underlying hu, hfd, asAgg, hr]⟩
  · cases h

theorem asNat_ok {x : AVal} {n : Nat} {X : Value} (hX : VRel ρ x X) (h : asNat x = some n) : ∃ k, X = .int k (n : Int) := by
  unfold asNat at h
  split at h
  · cases h; cases hX; exact ⟨_, rfl⟩
  · cases h

theorem indexAddr_ok {t : Nat} {x i v : AVal} {X I : Value} (hX : VRel ρ x X) (hI : VRel ρ i I) (h : indexAddrA P t x i = some v) : ∃ V, VRel ρ v V ∧ ∀ w, (Instr.indexAt t X I).run P w = .ok V w := by
  simp only [indexAddrA, Option.bind_eq_some_iff] at h
  obtain ⟨n, hn, h⟩ := h
  obtain ⟨k, rfl⟩ := asNat_ok hI hn
  split at h
  · rename_i m e b o hu
    cases hX with
    | @ptr _ _ B c hB =>
    simp only [Option.bind_eq_some_iff] at h
    obtain ⟨s, hs, h⟩ := h
    split at h
    · rename_i hlt
      simp only [Nat.blt_eq] at hlt
      cases h
      refine ⟨_, .ptr (o := o + n * s) hB, fun w => ?_⟩
      simp [Instr.indexAt, asIntOf, run_underlying hu, Instr.sureAddr, size_run hs, addr_add, Nat.add_assoc]
      intro hh; omega
    · cases h
  · rename_i e b o len cap hu
    simp only [Option.bind_eq_some_iff] at h
    obtain ⟨s, hs, h⟩ := h
    split at h
    · rename_i hlt
      simp only [Nat.blt_eq] at hlt
      cases h
      cases hX with
      | @sliceE _ _ _ _ B c hB =>
        refine ⟨_, .ptr (o := o + n * s) hB, fun w => ?_⟩
        simp [Instr.indexAt, asIntOf, run_underlying hu, size_run hs, addr_add, Nat.add_assoc]
        intro hh; omega
      | @sliceR _ _ _ _ B c hB hle =>
        refine ⟨_, .ptr (o := o + n * s) hB, fun w => ?_⟩
        simp [Instr.indexAt, asIntOf, run_underlying hu, size_run hs, addr_add, Nat.add_assoc]
        intro hh; omega
    · cases h
  · cases h

theorem index_ok {t : Nat} {x i v : AVal} {X I : Value} (hX : VRel ρ x X) (hI : VRel ρ i I) (h : indexA P t x i = some v) : ∃ V, VRel ρ v V ∧ ∀ w, (Instr.index t X I).run P w = .ok V w := by
  simp only [indexA, Option.bind_eq_some_iff] at h
  obtain ⟨n, hn, h⟩ := h
  obtain ⟨k, rfl⟩ := asNat_ok hI hn
  split at h
  · rename_i s hu
    cases hX
    simp only [Option.map_eq_some_iff] at h
    obtain ⟨b, hb, rfl⟩ := h
    refine ⟨_, .int _ _, fun w => ?_⟩
    have hlt : n < s.size := by
      have := (List.getElem?_eq_some_iff.1 hb).1
      obtain ⟨⟨s⟩⟩ := s
      simpa [ByteArray.size] using this
    have hb' : s[n]? = some b := by
      rw [ByteArray.getElem?_lt' s n hlt]
      obtain ⟨⟨s⟩⟩ := s
      have := (List.getElem?_eq_some_iff.1 hb).2
      exact congrArg some this
    simp [Instr.index, asIntOf, run_underlying hu, hb']
  · cases h

theorem extract_ok {i : Nat} {x v : AVal} {X : Value} (hX : VRel ρ x X) (h : extractA i x = some v) : ∃ V, VRel ρ v V ∧ ∀ w, (Instr.extract X i).run P w = .ok V w := by
  unfold extractA at h
  split at h
  · cases hX with
    | tup hc =>
    obtain ⟨u, hu, hr⟩ := hc.get h
    refine ⟨u, hr, fun w => ?_⟩
    have hu' := hu
    simp [Instr.extract, hu']
  · cases h

theorem conv_ok {s d : Nat} {x v : AVal} {X : Value} (hX : VRel ρ x X) (h : convP P s d x = some v) : ∃ V, VRel ρ v V ∧ ∀ w, (convert s d X).run P w = .ok V w := by
  unfold convP at h
  split at h
  · rename_i k j k' n hs hd
    cases hX; cases h
    refine ⟨_, .int _ _, fun w => ?_⟩
    simp [convert, run_underlying hs, run_underlying hd, Conv.intToInt, awrap_eq]
  · rename_i u hs hd
    cases hX; cases h
    exact ⟨_, .str _, fun w => by simp [convert, run_underlying hs, run_underlying hd]⟩
  · cases h

theorem len_ok {t : Nat} {x v : AVal} {X : Value} {ts : Array TypeId} (ht : ts[0]? = some t) (hX : VRel ρ x X) (h : lenP P t x = some v) (ty : TypeId) : ∃ V, VRel ρ v V ∧ ∀ w, (Builtin.len_ ts ty #[X]).run P w = .ok V w := by
  unfold lenP at h
  split at h
  · rename_i s hu
    cases hX; cases h
    exact ⟨_, .int _ _, fun w => by simp [Builtin.len_, ht, run_underlying hu, goInt]⟩
  · rename_i e b o n c hu
    cases h
    cases hX <;> exact ⟨_, .int _ _, fun w => by simp [Builtin.len_, ht, run_underlying hu, goInt]⟩
  · rename_i e hu
    cases hX; cases h
    exact ⟨_, .int _ _, fun w => by simp [Builtin.len_, ht, run_underlying hu, goInt]⟩
  · cases h

theorem max_ok {x y v : AVal} {X Y : Value} {ts : Array TypeId} (hX : VRel ρ x X) (hY : VRel ρ y Y) (h : maxA x y = some v) (ty : TypeId) : ∃ V, VRel ρ v V ∧ ∀ w, (Builtin.max_ ts ty #[X, Y]).run P w = .ok V w := by
  unfold maxA at h
  split at h
  · split at h
    · rename_i hk
      obtain rfl := ikEq_ok hk
      cases hX; cases hY; cases h
      refine ⟨_, .int _ _, fun w => ?_⟩
      rw [ilt_eq]
      rename_i n m _
      by_cases hlt : n < m <;> simp [Builtin.max_, Builtin.max2, hlt]
    · cases h
  · cases h

/-! ### slicing -/
theorem bound_ok {x : Option AVal} {X : Option Value} {y d n : Nat} (hX : ∀ a, x = some a → ∃ A, X = some A ∧ VRel ρ a A) (hN : x = none → X = none) (h : boundA x y d = some n) (code : BoundsCode) :
    (X = none ∧ x = none ∧ n = d) ∨ (∃ A, X = some A ∧ n ≤ y ∧ ∀ w, (Instr.sliceBound A y code).run P w = .ok n w) := by
  unfold boundA at h
  split at h
  · rename_i v
    obtain ⟨A, hA, hr⟩ := hX v rfl
    simp only [Option.bind_eq_some_iff] at h
    obtain ⟨i, hi, h⟩ := h
    split at h
    · rename_i hle
      cases h
      have hle := Nat.le_of_ble_eq_true hle
      obtain ⟨k, rfl⟩ := asNat_ok hr hi
      refine .inr ⟨_, hA, hle, fun w => ?_⟩
      simp [Instr.sliceBound, asIntOf]
      intro hh; omega
    · cases h
  · cases h; exact .inl ⟨hN rfl, rfl, rfl⟩

theorem bounds_ok {isSlice : Bool} {len cap : Nat} {lo hi : Option AVal} {LO HI : Option Value} {p : Nat × Nat} (hlo : ∀ a, lo = some a → ∃ A, LO = some A ∧ VRel ρ a A) (hlo' : lo = none → LO = none)
    (hhi : ∀ a, hi = some a → ∃ A, HI = some A ∧ VRel ρ a A) (hhi' : hi = none → HI = none) (h : boundsA len cap lo hi = some p) :
    ∀ w, (Instr.sliceBounds isSlice len cap LO HI none).run P w = .ok (p.1, p.2, cap) w := by
  simp only [boundsA, Option.bind_eq_some_iff, Option.map_eq_some_iff] at h
  obtain ⟨hh, h1, l, h2, rfl⟩ := h
  intro w
  rcases bound_ok (P := P) hhi hhi' h1 (if isSlice then .sliceAcap else .sliceAlen) with ⟨rfl, _, rfl⟩ | ⟨A, rfl, hle, hr⟩
  · rcases bound_ok (P := P) hlo hlo' h2 .sliceB with ⟨rfl, _, rfl⟩ | ⟨B, rfl, hle2, hr2⟩
    · simp [Instr.sliceBounds]
    · simp [Instr.sliceBounds, hr2]
  · rcases bound_ok (P := P) hlo hlo' h2 .sliceB with ⟨rfl, _, rfl⟩ | ⟨B, rfl, hle2, hr2⟩
    · simp [Instr.sliceBounds, hr]
    · simp [Instr.sliceBounds, hr, hr2]

theorem slice_ok {t : Nat} {x v : AVal} {X : Value} {lo hi : Option AVal} {LO HI : Option Value} (hX : VRel ρ x X) (hlo : ∀ a, lo = some a → ∃ A, LO = some A ∧ VRel ρ a A) (hlo' : lo = none → LO = none)
    (hhi : ∀ a, hi = some a → ∃ A, HI = some A ∧ VRel ρ a A) (hhi' : hi = none → HI = none) (h : sliceA P t x lo hi = some v) : ∃ V, VRel ρ v V ∧ ∀ w, (Instr.sliceAt t X LO HI none).run P w = .ok V w := by
  unfold sliceA at h
  split at h
  · rename_i s hu
    cases hX
    simp only [Option.map_eq_some_iff] at h
    obtain ⟨p, hp, rfl⟩ := h
    refine ⟨_, .str _, fun w => ?_⟩
    have hb := bounds_ok (P := P) (isSlice := false) hlo hlo' hhi hhi' hp w
    have he : s.extract p.1 p.2 = ⟨⟨(s.data.toList.drop p.1).take (p.2 - p.1)⟩⟩ := by
      apply ByteArray.ext
      apply Array.ext'
      simp [ByteArray.data_extract, List.extract_eq_take_drop]
    simp [Instr.sliceAt, Instr.slice, run_underlying hu, hb, he]
  · rename_i e b o len c hu
    simp only [Option.bind_eq_some_iff] at h
    obtain ⟨n, hn, p, hp, h⟩ := h
    split at h
    · cases h
    · rename_i hne
      cases h
      have hne : p.1 ≠ c := fun e => by rw [e] at hne; simp at hne
      cases hX with
      | @sliceE _ _ _ _ B c' hB =>
      refine ⟨_, .sliceE hB, fun w => ?_⟩
      have hb := bounds_ok (P := P) (isSlice := true) hlo hlo' hhi hhi' hp w
      simp [Instr.sliceAt, Instr.slice, run_underlying hu, hb, size_run hn, Ne.symm hne, addr_add, Nat.add_assoc]
  · rename_i e b o len k hu
    simp only [Option.bind_eq_some_iff] at h
    obtain ⟨n, hn, p, hp, h⟩ := h
    split at h
    · cases h
    · rename_i hne
      cases h
      have hne : p.1 ≠ len := fun e => by rw [e] at hne; simp at hne
      cases hX with
      | @sliceR _ _ _ _ B c' hB hle =>
      have hp' := hp
      simp only [boundsA, Option.bind_eq_some_iff, Option.map_eq_some_iff] at hp'
      obtain ⟨hh, h1, l, h2, rfl⟩ := hp'
      have hh1 : hh ≤ len := by
        rcases bound_ok (P := P) hhi hhi' h1 .sliceAcap with ⟨_, _, rfl⟩ | ⟨A, _, hle, _⟩
        · exact Nat.le_refl _
        · exact hle
      have hl1 : l ≤ hh := by
        rcases bound_ok (P := P) hlo hlo' h2 .sliceB with ⟨_, _, rfl⟩ | ⟨A, _, hle, _⟩
        · exact Nat.zero_le _
        · exact hle
      have h1' : boundA hi (c' - k) len = some hh := by
        unfold boundA at h1 ⊢
        split at h1
        · simp only [Option.bind_eq_some_iff] at h1 ⊢
          obtain ⟨i, hi2, h1⟩ := h1
          refine ⟨i, hi2, ?_⟩
          split at h1
          · rename_i hb
            cases h1
            have hb2 : Nat.ble hh (c' - k) = true := Nat.ble_eq_true_of_le (by have := Nat.le_of_ble_eq_true hb; omega)
            rw [hb2]
          · cases h1
        · exact h1
      have hp2 : boundsA len (c' - k) lo hi = some (l, hh) := by
        simp only [boundsA, Option.bind_eq_some_iff, Option.map_eq_some_iff]
        exact ⟨hh, h1', l, h2, rfl⟩
      simp only at hne
      refine ⟨_, .sliceR hB (by omega), fun w => ?_⟩
      have hb := bounds_ok (P := P) (isSlice := true) hlo hlo' hhi hhi' hp2 w
      have hne2 : ¬ (c' - k = l) := by omega
      have hsub : c' - k - l = c' - (k + l) := by omega
      simp [Instr.sliceAt, Instr.slice, run_underlying hu, hb, size_run hn, hne2, addr_add, Nat.add_assoc, hsub]
  · rename_i m e b o hu
    simp only [Option.bind_eq_some_iff] at h
    obtain ⟨n, hn, p, hp, h⟩ := h
    split at h
    · cases h
    · rename_i hne
      cases h
      have hne : p.1 ≠ m := fun e => by rw [e] at hne; simp at hne
      cases hX with
      | @ptr _ _ B c' hB =>
      refine ⟨_, .sliceE hB, fun w => ?_⟩
      have hb := bounds_ok (P := P) (isSlice := false) hlo hlo' hhi hhi' hp w
      simp [Instr.sliceAt, run_underlying hu, Instr.sureAddr, hb, size_run hn, Ne.symm hne, addr_add, Nat.add_assoc]
  · cases h

end Go.Proofs.YtdgpdmbfhehpfaaGreatDoor.Ev
