/-
  The evaluator's pure operations are sound.
-/
import Derived.Test.YtdgpdmbfhehpfaaGreatDoorEvD
import Derived.Laws.Concat
import Derived.Laws.StructEq
import Derived.DeepKeys2
import Derived.Laws.Shifts
set_option linter.all false
namespace Go.Proofs.YtdgpdmbfhehpfaaGreatDoor.Ev
open Go.RowKit

variable {gs : Prm} {P : Program} {ρ : Env}

theorem ikEq_ok {k k' : IntKind} (h : ikEq k k' = true) : k = k' := by cases k <;> cases k' <;> first | rfl | simp [ikEq] at h

theorem ilt_eq (x y : Int) : ilt x y = decide (x < y) := by
  rw [Bool.eq_iff_iff, decide_eq_true_eq]
  cases x <;> cases y <;> simp only [ilt, Nat.blt_eq, Bool.false_eq_true, false_iff, true_iff, Int.ofNat_eq_natCast, Int.negSucc_eq] <;> omega

theorem ieq_eq (x y : Int) : ieq x y = (x == y) := by
  rw [Bool.eq_iff_iff, beq_iff_eq]
  cases x <;> cases y <;> simp only [ieq, Nat.beq_eq, Bool.false_eq_true, false_iff, true_iff, Int.ofNat_eq_natCast, Int.negSucc_eq] <;> omega

theorem wrap_fits {k : IntKind} {n : Int} (h : fits k n = true) : k.wrap n = n := by
  cases k <;> cases n <;> first
    | (simp [fits] at h; done)
    | (simp only [fits, Nat.blt_eq] at h
       first
         | rw [IntKind.wrap_u8]
         | rw [IntKind.wrap_u32]
         | rw [IntKind.wrap_i64]
         | skip
       first
         | (simp only [Int.ofNat_eq_natCast, Int.negSucc_eq]; omega)
         | (simp [IntKind.wrap, IntKind.bits, IntKind.signed]; omega))

theorem awrap_eq (k : IntKind) (n : Int) : awrap k n = k.wrap n := by
  unfold awrap
  split
  · rename_i h; exact (wrap_fits h).symm
  · rfl

theorem bytesEq_eq (x y : List UInt8) : bytesEq x y = (x == y) := by
  induction x generalizing y with
  | nil => cases y <;> rfl
  | cons a x ih =>
    cases y with
    | nil => rfl
    | cons b y =>
      simp only [bytesEq, ih]
      split
      · rename_i h
        have : a = b := UInt8.toNat_inj.1 (Nat.eq_of_beq_eq_true h)
        subst this
        simp
      · rename_i h
        have : a ≠ b := fun e => by subst e; simp at h
        simp [this]

theorem strEq_eq (x y : ByteArray) : strEq x y = (x.data.toList == y.data.toList) := bytesEq_eq _ _

theorem strEq_ok {x y : ByteArray} (h : strEq x y = true) : x = y := by
  rw [strEq_eq] at h
  have : x.data.toList = y.data.toList := by simpa using h
  obtain ⟨⟨x⟩⟩ := x
  obtain ⟨⟨y⟩⟩ := y
  simp at this
  rw [this]

theorem fits_lim {k : IntKind} {a : Nat} (h : fits k (.ofNat a) = true) : ∃ j, j ≤ k.bits ∧ a < 2 ^ j ∧ ∀ b, b < 2 ^ j → fits k (.ofNat b) = true := by
  cases k <;> simp only [fits, Nat.blt_eq, Bool.false_eq_true] at h
  · exact ⟨63, by decide, h, fun b hb => by simp only [fits, Nat.blt_eq]; exact hb⟩
  · exact ⟨8, by decide, h, fun b hb => by simp only [fits, Nat.blt_eq]; exact hb⟩
  · exact ⟨32, by decide, h, fun b hb => by simp only [fits, Nat.blt_eq]; exact hb⟩
  · exact ⟨64, by decide, h, fun b hb => by simp only [fits, Nat.blt_eq]; exact hb⟩

theorem fits_lim2 {k : IntKind} {a b : Nat} (h : fits k (.ofNat a) = true) (h' : fits k (.ofNat b) = true) :
    ∃ j, j ≤ k.bits ∧ a < 2 ^ j ∧ b < 2 ^ j ∧ ∀ c, c < 2 ^ j → fits k (.ofNat c) = true := by
  cases k <;> simp only [fits, Nat.blt_eq, Bool.false_eq_true] at h h'
  · exact ⟨63, by decide, h, h', fun b hb => by simp only [fits, Nat.blt_eq]; exact hb⟩
  · exact ⟨8, by decide, h, h', fun b hb => by simp only [fits, Nat.blt_eq]; exact hb⟩
  · exact ⟨32, by decide, h, h', fun b hb => by simp only [fits, Nat.blt_eq]; exact hb⟩
  · exact ⟨64, by decide, h, h', fun b hb => by simp only [fits, Nat.blt_eq]; exact hb⟩

theorem bits_ok {op : BinOp} {k : IntKind} {x y : Int} {v : AVal} (h : bitsOf op k x y = some v) : ∃ V, VRel ρ v V ∧ ∀ w, (Op.intBits op k x y).run P w = .ok V w := by
  unfold bitsOf at h
  split at h <;> try (cases h; done)
  all_goals
    rename_i a b fx fy
    cases h
    refine ⟨_, .int _ _, fun w => ?_⟩
    obtain ⟨j, hj, ha, hb, hc⟩ := fits_lim2 fx fy
    have hp : 2 ^ j ≤ 2 ^ k.bits := Nat.pow_le_pow_right (by decide) hj
    have ha' : a % 2 ^ k.bits = a := Nat.mod_eq_of_lt (Nat.lt_of_lt_of_le ha hp)
    have hb' : b % 2 ^ k.bits = b := Nat.mod_eq_of_lt (Nat.lt_of_lt_of_le hb hp)
    simp only [Op.intBits, Int.ofNat_eq_natCast, BitVec.ofInt_natCast, BitVec.toNat_and, BitVec.toNat_or, BitVec.toNat_xor, BitVec.toNat_ofNat, ha', hb', Sem.run_pure]
    have e1 : k.wrap ((a &&& b : Nat) : Int) = ((a &&& b : Nat) : Int) := wrap_fits (n := Int.ofNat (a &&& b)) (hc _ (Nat.and_lt_two_pow _ hb))
    have e2 : k.wrap ((a ||| b : Nat) : Int) = ((a ||| b : Nat) : Int) := wrap_fits (n := Int.ofNat (a ||| b)) (hc _ (Nat.or_lt_two_pow ha hb))
    have e3 : k.wrap ((a ^^^ b : Nat) : Int) = ((a ^^^ b : Nat) : Int) := wrap_fits (n := Int.ofNat (a ^^^ b)) (hc _ (Nat.xor_lt_two_pow ha hb))
    first
      | (rw [e1]; rfl)
      | (rw [e2]; rfl)
      | (rw [e3]; rfl)

theorem str_ok {op : BinOp} {x y : ByteArray} {v : AVal} (h : strOp op x y = some v) : ∃ V, VRel ρ v V ∧ ∀ w, (Op.stringOp op x y).run P w = .ok V w := by
  unfold strOp at h
  split at h
  · split at h
    · rename_i hx hy
      cases h
      refine ⟨_, .str _, fun w => ?_⟩
      simp only [Nat.blt_eq] at hx hy
      rw [run_string_add_sum w x y (by omega)]
      obtain ⟨⟨x⟩⟩ := x
      obtain ⟨⟨y⟩⟩ := y
      rw [← ByteArray.mk_append_mk]
    · cases h
  all_goals first
    | (cases h; done)
    | (cases h; exact ⟨_, .bool _, fun w => by simp [Op.stringOp, strEq_eq, ByteArray.toList_eq]⟩)

theorem int_ok {op : BinOp} {k : IntKind} {x y : Int} {t : TypeId} {v : AVal} (h : intOp op k x y = some v) : ∃ V, VRel ρ v V ∧ ∀ w, (binOp op t (.int k x) (.int k y)).run P w = .ok V w := by
  unfold intOp at h
  split at h
  all_goals first
    | (cases h; done)
    | (cases h; exact ⟨_, .int _ _, fun w => by simp [binOp, Op.intArith, awrap_eq]⟩)
    | (obtain ⟨V, hV, hr⟩ := bits_ok h; exact ⟨V, hV, fun w => by simpa [binOp] using hr w⟩)
    | (cases h
       refine ⟨_, .bool _, fun w => ?_⟩
       simp only [binOp, Op.intCmp, ieq_eq, ilt_eq, ne_eq, not_true_eq_false, if_false, Sem.run_pure]
       try first
         | rfl
         | (congr 2; rw [Bool.eq_iff_iff]; simp; done)
         | (congr 2; rw [Bool.eq_iff_iff]; simp; omega))
    | skip
  all_goals
    split at h
    · cases h
    · rename_i hz
      cases h
      have hz' : y ≠ 0 := by simpa [ieq_eq] using hz
      exact ⟨_, .int _ _, fun w => by simp [binOp, Op.intDiv, hz', awrap_eq]⟩

theorem shl_ok {k k' : IntKind} {x y : Int} {t : TypeId} {v : AVal} (h : shlOp k x y = some v) : ∃ V, VRel ρ v V ∧ ∀ w, (binOp .shl t (.int k x) (.int k' y)).run P w = .ok V w := by
  unfold shlOp at h
  split at h
  · rename_i a b
    split at h
    · rename_i hb
      simp only [Nat.blt_eq] at hb
      cases h
      refine ⟨_, .int _ _, fun w => ?_⟩
      have h1 : ¬ ((b : Int) < 0) := by omega
      have h2 : min b k.bits = b := by omega
      simp [binOp, Op.shift, h1, h2, awrap_eq]
    · cases h
  · cases h

theorem shr_ok {k k' : IntKind} {x y : Int} {t : TypeId} {v : AVal} (h : shrOp k x y = some v) : ∃ V, VRel ρ v V ∧ ∀ w, (binOp .shr t (.int k x) (.int k' y)).run P w = .ok V w := by
  unfold shrOp at h
  split at h
  · rename_i a b
    split at h
    · rename_i hb
      simp only [Nat.blt_eq] at hb
      cases h
      refine ⟨_, .int _ _, fun w => ?_⟩
      have h1 : ¬ ((b : Int) < 0) := by omega
      have h2 : min b k.bits = b := by omega
      have h3 : (a : Int).fdiv (2 ^ b) = ((a / 2 ^ b : Nat) : Int) := by
        rw [Int.fdiv_eq_ediv_of_nonneg _ (Int.pow_nonneg (by decide))]
        simp
      simp only [binOp, Op.shift, Int.ofNat_eq_natCast, h1, if_false, Int.toNat_natCast, h2, h3, Sem.run_pure]
      rfl
    · cases h
  · cases h

/-! ### equality -/
theorem atom_ok {t : Nat} {q : Bool} (h : atomTy P t = some q) : (q = true ∧ ∃ k, P.underlying t = some (.int k)) ∨ (q = false ∧ P.underlying t = some .string) := by
  unfold atomTy at h
  split at h
  · rename_i k hk; cases h; exact .inl ⟨rfl, k, hk⟩
  · rename_i hk; cases h; exact .inr ⟨rfl, hk⟩
  · cases h

theorem isAgg_atom {t : Nat} {q : Bool} (h : atomTy P t = some q) (w : World) : (Go.isAgg t).run P w = .ok false w := by
  rcases atom_ok h with ⟨_, k, hk⟩ | ⟨_, hk⟩ <;> simp [Go.isAgg, run_underlying hk]

/-- two cells that aeqs goes by -/
theorem aeqs_cons {a b : AVal} {as bs : List AVal} {r : Bool} (h : aeqs (a :: as) (b :: bs) = some r) :
    ∃ q, (r = true → q = true ∧ aeqs as bs = some true) ∧ (r = false → q = false ∨ (q = true ∧ aeqs as bs = some false)) ∧
      ((∃ k x y, a = .int k x ∧ b = .int k y ∧ q = (x == y)) ∨ (∃ x y, a = .str x ∧ b = .str y ∧ q = (x.data.toList == y.data.toList))) := by
  unfold aeqs at h
  split at h
  · rename_i h1 h2; cases h1
  · rename_i k x as' k' y bs' h1 h2
    cases h1; cases h2
    split at h
    · rename_i e1 e2
      obtain rfl := ikEq_ok e1
      rw [ieq_eq] at e2
      exact ⟨true, fun hr => ⟨rfl, hr ▸ h⟩, fun hr => .inr ⟨rfl, hr ▸ h⟩, .inl ⟨_, _, _, rfl, rfl, e2.symm⟩⟩
    · rename_i e1 e2
      obtain rfl := ikEq_ok e1
      rw [ieq_eq] at e2
      simp only [Option.map_eq_some_iff] at h
      obtain ⟨_, _, rfl⟩ := h
      refine ⟨false, ?_, ?_, ?_⟩
      · intro hr; cases hr
      · intro _; exact .inl rfl
      · exact .inl ⟨_, _, _, rfl, rfl, e2.symm⟩
    · cases h
  · rename_i x as' y bs' h1 h2
    cases h1; cases h2
    split at h
    · rename_i e
      rw [strEq_eq] at e
      exact ⟨true, fun hr => ⟨rfl, hr ▸ h⟩, fun hr => .inr ⟨rfl, hr ▸ h⟩, .inr ⟨_, _, rfl, rfl, e.symm⟩⟩
    · rename_i e
      rw [strEq_eq] at e
      simp only [Option.map_eq_some_iff] at h
      obtain ⟨_, _, rfl⟩ := h
      refine ⟨false, ?_, ?_, ?_⟩
      · intro hr; cases hr
      · intro _; exact .inl rfl
      · exact .inr ⟨_, _, rfl, rfl, e.symm⟩
  · cases h

theorem aeqs_len {as bs : List AVal} {r : Bool} (h : aeqs as bs = some r) : as.length = bs.length := by
  induction as generalizing bs r with
  | nil => cases bs <;> simp [aeqs] at h ⊢
  | cons a as ih =>
    cases bs with
    | nil => cases a <;> simp [aeqs] at h
    | cons b bs =>
      have : ∃ r', aeqs as bs = some r' := by
        unfold aeqs at h
        split at h
        · rename_i h1 h2; cases h1
        · rename_i h1 h2
          cases h1; cases h2
          split at h
          · exact ⟨_, h⟩
          · simp only [Option.map_eq_some_iff] at h; obtain ⟨q, hq, _⟩ := h; exact ⟨q, hq⟩
          · cases h
        · rename_i h1 h2
          cases h1; cases h2
          split at h
          · exact ⟨_, h⟩
          · simp only [Option.map_eq_some_iff] at h; obtain ⟨q, hq, _⟩ := h; exact ⟨q, hq⟩
        · cases h
      obtain ⟨r', hr'⟩ := this
      simp [ih hr']

theorem eq_cell {a b : AVal} {A B : Value} {q p : Bool} {t : Nat} (ht : atomTy P t = some p) (hA : VRel ρ a A) (hB : VRel ρ b B) (d : Nat)
    (h : (∃ k x y, a = .int k x ∧ b = .int k y ∧ q = (x == y)) ∨ (∃ x y, a = .str x ∧ b = .str y ∧ q = (x.data.toList == y.data.toList)))
    (hk : kindsOk [p] [a] = true) (w : World) : (Op.equalIn (d + 1) t A B).run P w = .ok q w := by
  rcases h with ⟨k, x, y, rfl, rfl, rfl⟩ | ⟨x, y, rfl, rfl, rfl⟩
  · cases hA; cases hB
    rcases atom_ok ht with ⟨_, k', hk'⟩ | ⟨rfl, _⟩
    · simp [Op.equalIn, run_underlying hk']
    · simp [kindsOk] at hk
  · cases hA; cases hB
    rcases atom_ok ht with ⟨rfl, _⟩ | ⟨_, hs'⟩
    · simp [kindsOk] at hk
    · simp only [Op.equalIn, Sem.run_bind, run_underlying hs', Result.andThen_ok, Sem.run_pure]
      rw [beq_toListBytes, ByteArray.toList_eq, ByteArray.toList_eq]

theorem kindsOk_cons {q : Bool} {ks : List Bool} {as : List AVal} (h : kindsOk (q :: ks) as = true) : ∃ a bs, as = a :: bs ∧ kindsOk [q] [a] = true ∧ kindsOk ks bs = true := by
  cases as with
  | nil => cases q <;> simp [kindsOk] at h
  | cons a as => cases q <;> cases a <;> simp [kindsOk] at h <;> exact ⟨_, _, rfl, by simp [kindsOk], h⟩

theorem drop_cons {α : Type} {l : List α} {i : Nat} {a : α} {r : List α} (h : l.drop i = a :: r) : l[i]? = some a ∧ l.drop (i + 1) = r := by
  induction l generalizing i with
  | nil => simp at h
  | cons b l ih =>
    cases i with
    | zero => simp at h; obtain ⟨rfl, rfl⟩ := h; simp
    | succ i => simp at h; simpa using ih h

theorem part_atom {t : Nat} {q : Bool} (ht : atomTy P t = some q) {xs : List Value} {i : Nat} {A : Value} (h : xs[i]? = some A) (w : World) : (Go.part t ⟨xs⟩ i).run P w = .ok A w := by
  have h' : (⟨xs⟩ : Array Value)[i]? = some A := by simpa using h
  simp [Go.part, isAgg_atom ht, h']

theorem fields_ok (d : Nat) {as bs : List AVal} {xs ys : List Value} (hx : VRels ρ as xs) (hy : VRels ρ bs ys) (w : World) :
    ∀ (fs : List Field) (i : Nat) (ks : List Bool) (r : Bool), flatF P fs i = some ks → kindsOk ks (as.drop i) = true → aeqs (as.drop i) (bs.drop i) = some r →
      (Op.eqFields (d + 1) ⟨xs⟩ ⟨ys⟩ fs).run P w = .ok r w
  | [], i, ks, r, hf, hk, ha => by
    simp [flatF] at hf; subst hf
    cases hd : as.drop i with
    | nil =>
      rw [hd] at ha
      cases hb : bs.drop i with
      | nil => rw [hb] at ha; simp [aeqs] at ha; subst ha; simp [Op.eqFields]
      | cons b l => rw [hb] at ha; simp [aeqs] at ha
    | cons a l => rw [hd] at hk; simp [kindsOk] at hk
  | f :: fs, i, ks, r, hf, hk, ha => by
    simp only [flatF, Option.bind_eq_some_iff] at hf
    obtain ⟨q, hq, hf⟩ := hf
    split at hf
    · rename_i hn
      simp only [Option.map_eq_some_iff] at hf
      obtain ⟨ks', hks, rfl⟩ := hf
      simp only [Bool.and_eq_true, bne_iff_ne] at hn
      obtain ⟨hn, ho⟩ := hn
      have ho : f.offset = i := Nat.eq_of_beq_eq_true ho
      obtain ⟨a, as', hd, hka, hkr⟩ := kindsOk_cons hk
      rw [hd] at ha
      have hl := aeqs_len ha
      cases hb : bs.drop i with
      | nil => rw [hb] at hl; simp at hl
      | cons b bs' =>
        rw [hb] at ha
        obtain ⟨p, h1, h2, h3⟩ := aeqs_cons ha
        obtain ⟨ga, da⟩ := drop_cons hd
        obtain ⟨gb, db⟩ := drop_cons hb
        obtain ⟨A, hA, rA⟩ := hx.get ga
        obtain ⟨B, hB, rB⟩ := hy.get gb
        have hc := eq_cell (P := P) hq rA rB d h3 hka w
        simp only [Op.eqFields, ne_eq, hn, not_false_eq_true, if_true, Sem.run_bind, ho, part_atom hq hA, part_atom hq hB, Result.andThen_ok, hc]
        cases r with
        | true =>
          obtain ⟨rfl, hr⟩ := h1 rfl
          simp only [Bool.not_true, Bool.false_eq_true, if_false]
          exact fields_ok d hx hy w fs (i + 1) ks' true hks (by rw [da]; exact hkr) (by rw [da, db]; exact hr)
        | false =>
          rcases h2 rfl with rfl | ⟨rfl, hr⟩
          · simp
          · simp only [Bool.not_true, Bool.false_eq_true, if_false]
            exact fields_ok d hx hy w fs (i + 1) ks' false hks (by rw [da]; exact hkr) (by rw [da, db]; exact hr)
    · cases hf

theorem items_ok (d : Nat) {e : Nat} {q : Bool} (hq : atomTy P e = some q) {as bs : List AVal} {xs ys : List Value} (hx : VRels ρ as xs) (hy : VRels ρ bs ys) (w : World) :
    ∀ (n i : Nat) (r : Bool), kindsOk (List.replicate n q) (as.drop i) = true → aeqs (as.drop i) (bs.drop i) = some r →
      (Op.eqItems (d + 1) e 1 ⟨xs⟩ ⟨ys⟩ (List.range' i n)).run P w = .ok r w
  | 0, i, r, hk, ha => by
    cases hd : as.drop i with
    | nil =>
      rw [hd] at ha
      cases hb : bs.drop i with
      | nil => rw [hb] at ha; simp [aeqs] at ha; subst ha; simp [Op.eqItems]
      | cons b l => rw [hb] at ha; simp [aeqs] at ha
    | cons a l => rw [hd] at hk; simp [kindsOk] at hk
  | n+1, i, r, hk, ha => by
    rw [List.replicate_succ] at hk
    obtain ⟨a, as', hd, hka, hkr⟩ := kindsOk_cons hk
    rw [hd] at ha
    have hl := aeqs_len ha
    cases hb : bs.drop i with
    | nil => rw [hb] at hl; simp at hl
    | cons b bs' =>
      rw [hb] at ha
      obtain ⟨p, h1, h2, h3⟩ := aeqs_cons ha
      obtain ⟨ga, da⟩ := drop_cons hd
      obtain ⟨gb, db⟩ := drop_cons hb
      obtain ⟨A, hA, rA⟩ := hx.get ga
      obtain ⟨B, hB, rB⟩ := hy.get gb
      have hc := eq_cell (P := P) hq rA rB d h3 hka w
      simp only [List.range'_succ, Op.eqItems, Sem.run_bind, Nat.mul_one, part_atom hq hA, part_atom hq hB, Result.andThen_ok, hc]
      cases r with
      | true =>
        obtain ⟨rfl, hr⟩ := h1 rfl
        simp only [Bool.not_true, Bool.false_eq_true, if_false]
        exact items_ok d hq hx hy w n (i + 1) true (by rw [da]; exact hkr) (by rw [da, db]; exact hr)
      | false =>
        rcases h2 rfl with rfl | ⟨rfl, hr⟩
        · simp
        · simp only [Bool.not_true, Bool.false_eq_true, if_false]
          exact items_ok d hq hx hy w n (i + 1) false (by rw [da]; exact hkr) (by rw [da, db]; exact hr)

theorem eqAgg_ok {t : Nat} {as bs : List AVal} {xs ys : List Value} {r : Bool} (hx : VRels ρ as xs) (hy : VRels ρ bs ys) (h : eqAgg P t as bs = some r) (d : Nat) (w : World) :
    (Op.equalIn (d + 2) t (.agg ⟨xs⟩) (.agg ⟨ys⟩)).run P w = .ok r w := by
  simp only [eqAgg, Option.bind_eq_some_iff] at h
  obtain ⟨ks, hks, h⟩ := h
  split at h
  · rename_i hk
    unfold keyKinds at hks
    split at hks
    · rename_i fs hu
      split at hks
      · rename_i hst
        have hfs : P.fieldsOf t = fs := by simp [Program.fieldsOf, hu]
        rw [run_equalIn_struct w (d + 1) t _ _ (by rw [hfs]; exact hu) hst, hfs]
        exact fields_ok d hx hy w fs.toList 0 ks r hks (by simpa using hk) (by simpa using h)
      · cases hks
    · rename_i n e hu
      split at hks
      · rename_i q hq hs
        cases hks
        simp only [tsize, Option.map_eq_some_iff] at hs
        obtain ⟨i, hi, hsz⟩ := hs
        have hc : P.cellsOf e = 1 := by simp [Program.cellsOf, hi, hsz]
        rw [run_equalIn_array w (d + 1) _ _ hu hi, hc, List.range_eq_range']
        exact items_ok d hq hx hy w n 0 r (by simpa using hk) (by simpa using h)
      · cases hks
    · cases hks
  · cases h

theorem eqNil_ok {t : Nat} {a b : AVal} {A B : Value} {r : Bool} (hA : VRel ρ a A) (hB : VRel ρ b B) (h : eqNil P t a b = some r) (d : Nat) (w : World) :
    (Op.equalIn (d + 1) t A B).run P w = .ok r w := by
  unfold eqNil at h
  split at h <;> first
    | (cases h; done)
    | (rename_i hu
       cases h; cases hA <;> cases hB <;> simp [Op.equalIn, run_underlying hu])

theorem eqGuard_other {op : BinOp} {t : Nat} {x y : Operand} {A B : Value} (h1 : ¬ (A = .nilIface ∧ B = .nilIface)) (h2 : ∀ xs ys, ¬ (A = .agg xs ∧ B = .agg ys)) (w : World) : (eqGuard op t x y A B).run P w = .ok () w := by
  cases op <;> first
    | rfl
    | (unfold eqGuard
       simp only [Bool.not_true, Bool.false_eq_true, if_false]
       split
       · exact absurd ⟨rfl, rfl⟩ h1
       · exact absurd ⟨rfl, rfl⟩ (h2 _ _)
       · rfl)

theorem maxDepth_eq : Op.maxDepth = 9998 + 2 := rfl

theorem eqOp_ok {op : BinOp} {neg : Bool} (hop : op = if neg then .neq else .eql) {t : Nat} {x y : Operand} {a b v : AVal} {A B : Value} (hA : VRel ρ a A) (hB : VRel ρ b B) (h : eqOp P neg t a b = some v)
    (hi : ∀ k n k' m, ¬ (a = .int k n ∧ b = .int k' m)) (hs : ∀ s u, ¬ (a = .str s ∧ b = .str u)) :
    ∃ V, VRel ρ v V ∧ ∀ w, ((do eqGuard op t x y A B; binOp op t A B) : Sem Value).run P w = .ok V w := by
  unfold eqOp at h
  split at h
  · rename_i as bs
    split at h
    · rename_i hg
      simp only [Option.map_eq_some_iff] at h
      obtain ⟨r, hr, rfl⟩ := h
      cases hA with | agg hx => cases hB with | agg hy =>
      refine ⟨_, .bool _, fun w => ?_⟩
      have he := eqAgg_ok hx hy hr 9998 w
      rw [← maxDepth_eq] at he
      cases neg <;> subst hop <;> simp only [Sem.run_bind, run_eqGuard_agg w _ _ _ _ _ _ hg, Result.andThen_ok, binOp, Op.equal, he, if_true, Bool.false_eq_true, if_false, Sem.run_pure] <;> simp
    · cases h
  · simp only [Option.map_eq_some_iff] at h
    obtain ⟨r, hr, rfl⟩ := h
    refine ⟨_, .bool _, fun w => ?_⟩
    have he := eqNil_ok hA hB hr 9999 w
    rw [show (9999 + 1 : Nat) = Op.maxDepth from rfl] at he
    have hgd := eqGuard_other (P := P) (op := op) (t := t) (x := x) (y := y) (A := A) (B := B)
      (by rintro ⟨rfl, rfl⟩; cases hA; cases hB; simp [eqNil] at hr)
      (by
        rename_i hno
        rintro xs ys ⟨rfl, rfl⟩
        cases hA; cases hB
        exact hno _ _ rfl rfl) w
    have hb : (binOp op t A B).run P w = .ok (.bool (Bool.xor neg r)) w := by
      unfold eqNil at hr
      split at hr <;> first
        | (cases hr; done)
        | (cases hA <;> cases hB <;> cases neg <;> subst hop <;> simp only [if_true, Bool.false_eq_true, if_false, binOp, Op.equal, Sem.run_bind, he, Result.andThen_ok, Sem.run_pure] <;> simp)
    simp only [Sem.run_bind, hgd, Result.andThen_ok, hb]

theorem eq_nili {t : Nat} {ms : Array (String × TypeId)} (hu : P.underlying t = some (.interface ms)) (d : Nat) (w : World) : (Op.equalIn (d + 1) t .nilIface .nilIface).run P w = .ok true w := by
  simp [Op.equalIn, run_underlying hu]

theorem guard_nili {op : BinOp} (hop : op = .eql ∨ op = .neq) {t : Nat} {x y : Operand} (hc : (Region.isConst x || Region.isConst y) = true) (w : World) : (eqGuard op t x y .nilIface .nilIface).run P w = .ok () w := by
  rcases hop with rfl | rfl <;> cases x <;> cases y <;> first | rfl | exact Bool.noConfusion (show false = true from hc)

theorem bin_ok {op : BinOp} {t : Nat} {x y : Operand} {a b v : AVal} {A B : Value} (hA : VRel ρ a A) (hB : VRel ρ b B) (h : binA P op t x y a b = some v) :
    ∃ V, VRel ρ v V ∧ ∀ w, ((do eqGuard op t x y A B; binOp op t A B) : Sem Value).run P w = .ok V w := by
  unfold binA at h
  split at h
  · rename_i k n k' m
    cases hA; cases hB
    have hg : ∀ w, (eqGuard op t x y (.int k n) (.int k' m)).run P w = .ok () w := fun w => eqGuard_other (by simp) (by simp) w
    simp only [Sem.run_bind, hg, Result.andThen_ok]
    split at h
    · exact shl_ok h
    · exact shr_ok h
    · split at h
      · rename_i hk
        obtain rfl := ikEq_ok hk
        exact int_ok h
      · cases h
  · rename_i s u
    cases hA; cases hB
    have hg : ∀ w, (eqGuard op t x y (.string s) (.string u)).run P w = .ok () w := fun w => eqGuard_other (by simp) (by simp) w
    obtain ⟨V, hV, hr⟩ := str_ok (ρ := ρ) (P := P) h
    refine ⟨V, hV, fun w => ?_⟩
    have hb : binOp op t (.string s) (.string u) = Op.stringOp op s u := by cases op <;> rfl
    simp only [Sem.run_bind, hg, Result.andThen_ok, hb, hr]
  · cases hA; cases hB
    split at h
    all_goals first
      | (cases h; done)
      | (unfold nilOp at h
         split at h
         · rename_i ms hu hc
           cases h
           refine ⟨_, .bool _, fun w => ?_⟩
           have he := eq_nili (P := P) hu 9999 w
           rw [show (9999 + 1 : Nat) = Op.maxDepth from rfl] at he
           have g1 := guard_nili (P := P) (t := t) (.inl rfl) hc w
           have g2 := guard_nili (P := P) (t := t) (.inr rfl) hc w
           simp only [Sem.run_bind, g1, g2, Result.andThen_ok, binOp, Op.equal, he, Sem.run_pure]
           try rfl
         · cases h)
  · rename_i hi hs _
    split at h
    · exact eqOp_ok (neg := false) rfl hA hB h (fun k n k' m e => hi k n k' m e.1 e.2) (fun s u e => hs s u e.1 e.2)
    · exact eqOp_ok (neg := true) rfl hA hB h (fun k n k' m e => hi k n k' m e.1 e.2) (fun s u e => hs s u e.1 e.2)
    · cases h

end Go.Proofs.YtdgpdmbfhehpfaaGreatDoor.Ev
