/-
  The evaluator's operations on maps are sound.
-/
import Derived.Test.YtdgpdmbfhehpfaaGreatDoorEvI
import Derived.WideKeyRuns
set_option linter.all false
namespace Go.Proofs.YtdgpdmbfhehpfaaGreatDoor.Ev
open Go.RowKit Go.MapKept

variable {gs : Prm} {P : Program} {N0 : Nat} {ρ : Env} {h h' : Heap} {w : World} {nb : Nat}

def FRel (ρ : Env) : Option (Nat × AVal) → Option (Nat × Value) → Prop
  | none, R => R = none
  | some (i, v), R => ∃ V, R = some (i, V) ∧ VRel ρ v V

theorem findStr_ok {k : ByteArray} : ∀ {es : List AEntry} {ES : List MapEntry} {i : Nat} {r : Option (Nat × AVal)}, ERels ρ es ES → findStr k es i = some r → ∃ R, Instr.findNow .string (.string k) ES i = some R ∧ FRel ρ r R
  | [], ES, i, r, he, h => by
    cases he; simp [findStr] at h; subst h
    exact ⟨none, rfl, rfl⟩
  | e :: es, ES, i, r, he, h => by
    cases he with
    | @cons _ E _ ES h1 h2 h3 h4 =>
    simp only [findStr] at h
    split at h
    · rename_i s hkey
      rw [hkey] at h1
      generalize hK : E.key = KK at h1
      cases h1
      split at h
      · rename_i hb
        cases h
        have := strEq_ok hb
        subst this
        refine ⟨some (i, E.val), ?_, _, rfl, h2⟩
        have hkk : (k == k) = true := by rw [beq_toListBytes]; simp
        simp [Instr.findNow, hK, Instr.sameNow, hkk]
      · rename_i hb
        obtain ⟨R, hR, hF⟩ := findStr_ok h4 h
        refine ⟨R, ?_, hF⟩
        have hne : (k == s) = false := by
          rw [beq_toListBytes, ByteArray.toList_eq, ByteArray.toList_eq, ← strEq_eq]; exact hb
        simp [Instr.findNow, hK, Instr.sameNow, hne, hR]
    · cases h

theorem findInt_ok {k : IntKind} {n : Int} {q : IntKind} : ∀ {es : List AEntry} {ES : List MapEntry} {i : Nat} {r : Option (Nat × AVal)}, ERels ρ es ES → findInt k n es i = some r → ∃ R, Instr.findNow (.int q) (.int k n) ES i = some R ∧ FRel ρ r R
  | [], ES, i, r, he, h => by
    cases he; simp [findInt] at h; subst h
    exact ⟨none, rfl, rfl⟩
  | e :: es, ES, i, r, he, h => by
    cases he with
    | @cons _ E _ ES h1 h2 h3 h4 =>
    simp only [findInt] at h
    split at h
    · rename_i k' m hkey
      rw [hkey] at h1
      generalize hK : E.key = KK at h1
      cases h1
      split at h
      · rename_i hk
        obtain rfl := ikEq_ok hk
        split at h
        · rename_i hb
          cases h
          rw [ieq_eq] at hb
          refine ⟨some (i, E.val), ?_, _, rfl, h2⟩
          simp only [Instr.findNow, hK, Instr.sameNow, if_true, hb]
        · rename_i hb
          obtain ⟨R, hR, hF⟩ := findInt_ok (q := q) h4 h
          refine ⟨R, ?_, hF⟩
          rw [ieq_eq] at hb
          simp only [Instr.findNow, hK, Instr.sameNow, if_true, hb, hR]
      · cases h
    · cases h

theorem findAgg_ok {t : Nat} {cs : List AVal} {us : List Value} (hc : VRels ρ cs us) (w : World) : ∀ {es : List AEntry} {ES : List MapEntry} {i : Nat} {r : Option (Nat × AVal)}, ERels ρ es ES → findAgg P t cs es i = some r →
    ∃ R, (Instr.findAsking t (.agg ⟨us⟩) ES i).run P w = .ok R w ∧ FRel ρ r R
  | [], ES, i, r, he, h => by
    cases he; simp [findAgg] at h; subst h
    exact ⟨none, by simp [Instr.findAsking], rfl⟩
  | e :: es, ES, i, r, he, h => by
    cases he with
    | @cons _ E _ ES h1 h2 h3 h4 =>
    simp only [findAgg] at h
    split at h
    · rename_i ds hkey
      rw [hkey] at h1
      generalize hK : E.key = KK at h1
      cases h1 with
      | agg hd =>
      simp only [Option.bind_eq_some_iff] at h
      obtain ⟨q, hq, h⟩ := h
      have he := eqAgg_ok (P := P) hc hd hq 9998 w
      rw [← maxDepth_eq] at he
      cases q with
      | true =>
        cases h
        refine ⟨some (i, E.val), ?_, _, rfl, h2⟩
        simp only [Instr.findAsking, hK, Op.equal, Sem.run_bind, he, Result.andThen_ok, if_true, Sem.run_pure]
      | false =>
        obtain ⟨R, hR, hF⟩ := findAgg_ok hc w h4 h
        refine ⟨R, ?_, hF⟩
        simp only [Instr.findAsking, hK, Op.equal, Sem.run_bind, he, Result.andThen_ok, Bool.false_eq_true, if_false, hR]
    · cases h

/-! ### keys are keys -/
theorem check_atom {t : Nat} {q : Bool} (ht : atomTy P t = some q) (em : Bool) (n : Nat) {a : AVal} {A : Value} (hA : VRel ρ a A) (hk : kindsOk [q] [a] = true) (w : World) : (Instr.checkKey em (n + 1) t A).run P w = .ok () w := by
  rcases atom_ok ht with ⟨rfl, k, hu⟩ | ⟨rfl, hu⟩ <;> cases hA <;> simp [kindsOk] at hk <;> simp [Instr.checkKey, run_underlying hu]

theorem checkAgg_ok {t : Nat} {as : List AVal} {xs : List Value} (hx : VRels ρ as xs) {ks : List Bool} (hks : keyKinds P t = some ks) (hk : kindsOk ks as = true) (em : Bool) (n : Nat) (w : World) :
    (Instr.checkKey em (n + 2) t (.agg ⟨xs⟩)).run P w = .ok () w := by
  unfold keyKinds at hks
  split at hks
  · rename_i fs hu
    split at hks
    · rw [show n + 2 = (n + 1) + 1 from rfl, Instr.checkKey]
      simp only [Sem.run_bind, run_underlying hu, Result.andThen_ok]
      rw [← Array.forIn_toList]
      have key : ∀ (L : List Field) (i : Nat) (ks : List Bool), flatF P L i = some ks → kindsOk ks (as.drop i) = true →
          ((forIn L PUnit.unit fun f _ => do
            if f.name ≠ "_" then Instr.checkKey em (n + 1) f.type (← Go.part f.type ⟨xs⟩ f.offset)
            pure (ForInStep.yield PUnit.unit) : Sem PUnit)).run P w = .ok PUnit.unit w := by
        intro L
        induction L with
        | nil => intro i ks _ _; simp
        | cons f L ih =>
          intro i ks hf hk
          simp only [flatF, Option.bind_eq_some_iff] at hf
          obtain ⟨q, hq, hf⟩ := hf
          split at hf
          · rename_i hn
            simp only [Option.map_eq_some_iff] at hf
            obtain ⟨ks', hks', rfl⟩ := hf
            simp only [Bool.and_eq_true, bne_iff_ne] at hn
            obtain ⟨hn, ho⟩ := hn
            have ho : f.offset = i := Nat.eq_of_beq_eq_true ho
            obtain ⟨a, as', hd, hka, hkr⟩ := kindsOk_cons hk
            obtain ⟨ga, da⟩ := drop_cons hd
            obtain ⟨A, hA, rA⟩ := hx.get ga
            have hc := check_atom (P := P) hq em n rA hka w
            simp only [List.forIn_cons, Sem.run_bind, ne_eq, hn, not_false_eq_true, if_true, ho, part_atom hq hA, Result.andThen_ok, hc, Sem.run_pure]
            exact ih (i + 1) ks' hks' (by rw [da]; exact hkr)
          · cases hf
      have := key fs.toList 0 ks hks (by simpa using hk)
      simp at this ⊢
      simp [this]
    · cases hks
  · rename_i m e hu
    split at hks
    · rename_i q hq hs
      cases hks
      rw [show n + 2 = (n + 1) + 1 from rfl, Instr.checkKey]
      simp only [Sem.run_bind, run_underlying hu, Result.andThen_ok]
      simp only [Std.Legacy.Range.forIn_eq_forIn_range', Std.Legacy.Range.size, Nat.sub_zero, Nat.add_one_sub_one, Nat.div_one]
      have key : ∀ (m i : Nat), kindsOk (List.replicate m q) (as.drop i) = true →
          ((forIn (List.range' i m) PUnit.unit fun j _ => do
            Instr.checkKey em (n + 1) e (← Go.part e ⟨xs⟩ (j * (← sizeOf e)))
            pure (ForInStep.yield PUnit.unit) : Sem PUnit)).run P w = .ok PUnit.unit w := by
        intro m
        induction m with
        | zero => intro i _; simp
        | succ m ih =>
          intro i hk
          rw [List.replicate_succ] at hk
          obtain ⟨a, as', hd, hka, hkr⟩ := kindsOk_cons hk
          obtain ⟨ga, da⟩ := drop_cons hd
          obtain ⟨A, hA, rA⟩ := hx.get ga
          have hc := check_atom (P := P) hq em n rA hka w
          simp only [List.range'_succ, List.forIn_cons, Sem.run_bind, size_run hs, Nat.mul_one, part_atom hq hA, Result.andThen_ok, hc, Sem.run_pure]
          exact ih (i + 1) (by rw [da]; exact hkr)
      have := key m 0 (by simpa using hk)
      simp at this ⊢
      simp [this]
    · cases hks
  · cases hks

theorem check_str {t : Nat} (hu : P.underlying t = some .string) (em : Bool) (n : Nat) (s : ByteArray) (w : World) : (Instr.checkKey em (n + 1) t (.string s)).run P w = .ok () w := by
  simp [Instr.checkKey, run_underlying hu]

theorem check_int {t : Nat} {k : IntKind} (hu : P.underlying t = some (.int k)) (em : Bool) (n : Nat) (q : IntKind) (m : Int) (w : World) : (Instr.checkKey em (n + 1) t (.int q m)).run P w = .ok () w := by
  simp [Instr.checkKey, run_underlying hu]

/-- a key is looked for -/
theorem find_ok {kt : Nat} {k : AVal} {K : Value} (hK : VRel ρ k K) {es : List AEntry} {ES : List MapEntry} (he : ERels ρ es ES) {r : Option (Nat × AVal)} (h : findA P kt k es = some r) (w : World) :
    (∃ R, (Instr.findKey kt K ES).run P w = .ok R w ∧ FRel ρ r R) ∧ ∀ em, (Instr.checkKey em 10000 kt K).run P w = .ok () w := by
  unfold findA at h
  split at h
  · rename_i s hu
    cases hK
    obtain ⟨R, hR, hF⟩ := findStr_ok he h
    exact ⟨⟨R, run_findKey hu hR, hF⟩, fun em => check_str hu em 9999 _ w⟩
  · rename_i q i n hu
    cases hK
    obtain ⟨R, hR, hF⟩ := findInt_ok (q := q) he h
    exact ⟨⟨R, run_findKey hu hR, hF⟩, fun em => check_int hu em 9999 _ _ w⟩
  · rename_i fs cs hu
    split at h
    · rename_i ks hks
      split at h
      · rename_i hk
        cases hK with
        | agg hc =>
        obtain ⟨R, hR, hF⟩ := findAgg_ok (P := P) hc w he h
        exact ⟨⟨R, by rw [run_findKey_eq w (by rw [hu])]; exact hR, hF⟩, fun em => checkAgg_ok hc hks hk em 9998 w⟩
      · cases h
    · cases h
  · rename_i m e cs hu
    split at h
    · rename_i ks hks
      split at h
      · rename_i hk
        cases hK with
        | agg hc =>
        obtain ⟨R, hR, hF⟩ := findAgg_ok (P := P) hc w he h
        exact ⟨⟨R, by rw [run_findKey_eq w (by rw [hu])]; exact hR, hF⟩, fun em => checkAgg_ok hc hks hk em 9998 w⟩
      · cases h
    · cases h
  · cases h

theorem entries_ok (H : Holds P N0 ρ h w) {m : AVal} {M : Value} (hM : VRel ρ m M) {es : List AEntry} (he : entriesA h m = some es) :
    (M = .map none ∧ es = []) ∨ ∃ B ES clock, M = .map (some B) ∧ w.heap[B]? = some (.map ES clock) ∧ ERels ρ es ES.toList := by
  unfold entriesA at he
  split at he
  · cases he; cases hM; exact .inl ⟨rfl, rfl⟩
  · rename_i r
    cases hM with
    | @map _ B c hB =>
    split at he
    · rename_i es' clock hg
      cases he
      obtain ⟨B', c', O, h1, h2, ES, rfl, h3⟩ := H.obj _ _ hg
      rw [hB] at h1; cases h1
      exact .inr ⟨B, ES, clock, rfl, h2, h3⟩
    · cases he
  · cases he

theorem lookup_ok {a : Act} {o : Oper} {t : Nat} {x y : Operand} {ok : Bool} (ho : o.op = .lookup t x y ok) (H : Holds P N0 ρ h w) {m k v : AVal} (hm : VRel ρ m (a.eval x)) (hk : VRel ρ k (a.eval y)) (hr : lookupA P h t m k ok = some v) :
    Good P N0 (· ≠ nb) ρ w h (.value v) ((execOp a.eval o).run P w) := by
  unfold lookupA at hr
  split at hr
  · rename_i kt e hu
    simp only [Option.bind_eq_some_iff] at hr
    obtain ⟨es, hes, r, hrr, hr⟩ := hr
    have main : ∃ V, VRel ρ v V ∧ (Instr.lookup t (a.eval x) (a.eval y) ok).run P w = .ok V w := by
      have rest : ∀ ES : Array MapEntry, ERels ρ es ES.toList → ∃ V, VRel ρ v V ∧ ((do
          Instr.checkKey ES.isEmpty 10000 kt (a.eval y)
          let __x ← match ← Instr.findKey kt (a.eval y) ES.toList with
            | some (_, v) => pure (v, true)
            | none => do pure (← zeroValue e, false)
          match __x with
          | (v, ok') => pure (if ok then .tuple #[v, .bool ok'] else v) : Sem Value)).run P w = .ok V w := fun ES hE => by
        obtain ⟨⟨R, hR, hF⟩, hck⟩ := find_ok (P := P) hk hE hrr w
        cases r with
        | none =>
          cases hF
          simp only [Option.map_eq_some_iff] at hr
          obtain ⟨z, hz, rfl⟩ := hr
          obtain ⟨Z, hZ, hzr⟩ := zero_ok (w := w) (ρ := ρ) hz
          refine ⟨if ok then .tuple #[Z, .bool false] else Z, ?_, ?_⟩
          · cases ok
            · exact hzr
            · exact .tup (.cons hzr (.cons (.bool _) .nil))
          · simp only [Sem.run_bind, hck, hR, hZ, Result.andThen_ok, Sem.run_pure]
        | some p =>
          obtain ⟨i, pv⟩ := p
          obtain ⟨V, rfl, hV⟩ := hF
          cases hr
          refine ⟨if ok then .tuple #[V, .bool true] else V, ?_, ?_⟩
          · cases ok
            · exact hV
            · exact .tup (.cons hV (.cons (.bool _) .nil))
          · simp only [Sem.run_bind, hck, hR, Result.andThen_ok, Sem.run_pure]
      rcases entries_ok H hm hes with ⟨hX, rfl⟩ | ⟨B, ES, clock, hX, hB, hE⟩
      · obtain ⟨V, hV, hr⟩ := rest #[] .nil
        refine ⟨V, hV, ?_⟩
        rw [← hr]
        simp only [hX, Instr.lookup, Sem.run_bind, run_underlying hu, Result.andThen_ok, Sem.run_pure]
        rfl
      · obtain ⟨V, hV, hr⟩ := rest ES hE
        refine ⟨V, hV, ?_⟩
        rw [← hr]
        simp only [hX, Instr.lookup, Sem.run_bind, run_underlying hu, Result.andThen_ok, Go.MapKept.run_getObj_map hB, Sem.run_pure]
        rfl
    obtain ⟨V, hV, hr⟩ := main
    exact Good.val H (by simp only [execOp, ho, Sem.run_bind, hr, Result.andThen_ok, Sem.run_pure]) hV
  · cases hr

theorem ERels.snoc {es : List AEntry} {ES : List MapEntry} (h : ERels ρ es ES) {a : AEntry} {e : MapEntry} (h1 : VRel ρ a.key e.key) (h2 : VRel ρ a.val e.val) (h3 : a.born = e.born) : ERels ρ (es ++ [a]) (ES ++ [e]) := by
  induction h with
  | nil => exact .cons h1 h2 h3 .nil
  | cons k1 k2 k3 _ ih => exact .cons k1 k2 k3 ih

theorem update_ok {a : Act} {o : Oper} {t : Nat} {x y z : Operand} (ho : o.op = .mapUpdate t x y z) (H : Holds P N0 ρ h w) {m k v : AVal} (hm : VRel ρ m (a.eval x)) (hk : VRel ρ k (a.eval y)) (hv : VRel ρ v (a.eval z)) {n : ANext} (hr : updateA P h t m k v = some (n, h')) :
    Good P N0 (· ≠ nb) ρ w h' n ((execOp a.eval o).run P w) := by
  unfold updateA at hr
  split at hr
  · rename_i kt e r hu
    generalize hX : a.eval x = X at hm
    cases hm with
    | @map _ B c hB =>
    split at hr
    · rename_i es cl hg
      simp only [Option.bind_eq_some_iff] at hr
      obtain ⟨q, hq, hr⟩ := hr
      split at hr
      · cases hr
      · cases hr
        obtain ⟨B', c', O, h1, h2, ES, rfl, h3⟩ := H.obj _ _ hg
        rw [hB] at h1; cases h1
        obtain ⟨⟨R, hR, hF⟩, hck⟩ := find_ok (P := P) hk h3 hq w
        cases hF
        have hs := heap_set (o' := .map (ES.push { key := a.eval y, val := a.eval z, born := cl }) (cl + 1)) h2
        obtain ⟨H', M⟩ := H.put (K := (· ≠ nb)) hg rfl hB (o' := .map (es ++ [⟨k, v, cl⟩]) (cl + 1)) (O := .map (ES.push { key := a.eval y, val := a.eval z, born := cl }) (cl + 1))
          (w' := { w with heap := w.heap.setIfInBounds B (.map (ES.push { key := a.eval y, val := a.eval z, born := cl }) (cl + 1)) })
          ⟨_, rfl, by simpa using h3.snoc (a := ⟨k, v, cl⟩) (e := { key := a.eval y, val := a.eval z, born := cl }) hk hv rfl⟩ hs.1 hs.2 (by simp) rfl rfl rfl
        refine ⟨.skip, _, ρ, ?_, M, H', rfl⟩
        simp only [execOp, ho, hX, Sem.run_bind, Instr.mapUpdate, run_underlying hu, Result.andThen_ok, Go.MapKept.run_getObj_map h2, hck, hR, Go.MapKept.run_setObj_map _ h2, Sem.run_pure]
    · cases hr
  · cases hr

theorem ERels.length {es : List AEntry} {ES : List MapEntry} (h : ERels ρ es ES) : es.length = ES.length := by
  induction h with
  | nil => rfl
  | cons _ _ _ _ ih => simp [ih]

theorem lenB_ok {ts : Array TypeId} {ty : TypeId} {t : Nat} (ht : ts[0]? = some t) (H : Holds P N0 ρ h w) {x v : AVal} {X : Value} (hX : VRel ρ x X) (hr : lenB P t h x = some v) : ∃ V, VRel ρ v V ∧ (Builtin.len_ ts ty #[X]).run P w = .ok V w := by
  unfold lenB at hr
  split at hr
  · rename_i k e hu
    cases hr; cases hX
    exact ⟨_, .int _ _, by simp [Builtin.len_, ht, run_underlying hu, goInt]⟩
  · rename_i k e r hu
    split at hr
    · rename_i es cl hg
      cases hr
      cases hX with
      | @map _ B c hB =>
      obtain ⟨B', c', O, h1, h2, ES, rfl, h3⟩ := H.obj _ _ hg
      rw [hB] at h1; cases h1
      refine ⟨_, .int _ _, ?_⟩
      have hl : es.length = ES.size := by simpa using h3.length
      simp [Builtin.len_, ht, run_underlying hu, goInt, Go.MapKept.run_getObj_map h2, hl]
    · cases hr
  · cases hr

end Go.Proofs.YtdgpdmbfhehpfaaGreatDoor.Ev
