/-
  The evaluator is sound: calls, deferred calls, all levels.
-/
import Derived.Test.YtdgpdmbfhehpfaaGreatDoorEvS
import Derived.Recover
set_option linter.all false
namespace Go.Proofs.YtdgpdmbfhehpfaaGreatDoor.Ev
open Go.RowKit

variable {gs : Prm} {P : Program} {N0 : Nat} {ρ : Env} {h h' : Heap} {w : World} {nb : Nat}

def resF (tmps : Array Value) : ResultVar → Sem Value
  | .tmp t => pure (tmps.getD t undef)
  | .cell a t => do Go.loadVar t (← asAddr (tmps.getD a undef))

theorem results_ok (H : Holds P N0 ρ h w) {ts : List AVal} {tmps : Array Value} (ht : VRels ρ ts tmps.toList) : ∀ {rs : List ResultVar} {vs : List AVal}, resultsA P h ts rs = some vs →
    ∃ us, VRels ρ vs us ∧ (rs.mapM (resF tmps)).run P w = .ok us w
  | [], vs, h => by simp [resultsA] at h; subst h; exact ⟨[], .nil, by simp⟩
  | .tmp t :: rs, vs, h => by
    simp only [resultsA, Option.map_eq_some_iff] at h
    obtain ⟨vs', h1, rfl⟩ := h
    obtain ⟨us, hu, hr⟩ := results_ok H ht h1
    have hg := ht.getD t
    rw [lget_eq]
    refine ⟨tmps.getD t undef :: us, .cons (by simpa [Array.getD_eq_getD_getElem?, List.getD] using hg) hu, ?_⟩
    simp only [List.mapM_cons, resF, Sem.run_bind, Sem.run_pure, Result.andThen_ok, hr]
  | .cell a t :: rs, vs, h => by
    simp only [resultsA, Option.bind_eq_some_iff, Option.map_eq_some_iff] at h
    obtain ⟨v, hv, vs', h1, rfl⟩ := h
    obtain ⟨us, hu, hr⟩ := results_ok H ht h1
    have hg := ht.getD a
    rw [lget_eq] at hv
    have hg' : VRel ρ (ts.getD a .undef) (tmps.getD a undef) := by simpa [Array.getD_eq_getD_getElem?, List.getD] using hg
    have hp : ∃ b o, ts.getD a .undef = .ptr b o := by
      unfold loadA at hv
      split at hv
      · rename_i heq; exact ⟨_, _, heq⟩
      · cases hv
    obtain ⟨b, o, hp⟩ := hp
    rw [hp] at hg' hv
    obtain ⟨u, hrun, hvr⟩ := loadA_ok H hv hg'
    refine ⟨u :: us, .cons hvr hu, ?_⟩
    generalize hX : tmps.getD a undef = X at hg'
    rw [hX] at hrun
    cases hg' with
    | @ptr _ _ B c hB =>
    simp only [Instr.loadAt, Instr.sureAddr, Sem.run_bind, Sem.run_pure, Result.andThen_ok] at hrun
    simp only [List.mapM_cons, resF, Sem.run_bind, hX, asAddr, Sem.run_pure, Result.andThen_ok, hrun, hr]

theorem one_ok {vs : List AVal} {us : List Value} (h : VRels ρ vs us) : VRel ρ (oneOf vs) (if h : (⟨us⟩ : Array Value).size = 1 then (⟨us⟩ : Array Value)[0] else .tuple ⟨us⟩) := by
  cases h with
  | nil => exact .tup .nil
  | cons h1 h2 =>
    cases h2 with
    | nil => exact h1
    | cons h2 h3 =>
      simp only [oneOf, List.size_toArray, List.length_cons]
      rw [dif_neg (by omega)]
      exact .tup (.cons h1 (.cons h2 h3))

theorem results_eq (fn : Func) (tmps : Array Value) : results fn tmps = fn.results.toList.mapM (resF tmps) >>= fun l => pure (if h : (⟨l⟩ : Array Value).size = 1 then (⟨l⟩ : Array Value)[0] else .tuple ⟨l⟩) := by
  have hf : (fun (r : ResultVar) => (match r with | .tmp t => (pure (tmps.getD t undef) : Sem Value) | .cell a t => do Go.loadVar t (← asAddr (tmps.getD a undef)))) = resF tmps := by
    funext r; cases r <;> rfl
  unfold results
  rw [Array.mapM_eq_mapM_toList]
  simp only [map_eq_pure_bind, bind_assoc, pure_bind]
  congr 1

theorem resultsRun (H : Holds P N0 ρ h w) {ts : List AVal} {tmps : Array Value} (ht : VRels ρ ts tmps.toList) {fn : Func} {vs : List AVal} (hr : resultsA P h ts fn.results.toList = some vs) :
    ∃ V, (results fn tmps).run P w = .ok V w ∧ VRel ρ (oneOf vs) V := by
  obtain ⟨us, hu, hrun⟩ := results_ok H ht hr
  refine ⟨_, ?_, one_ok hu⟩
  rw [results_eq]
  simp only [Sem.run_bind, hrun, Result.andThen_ok, Sem.run_pure]

/-- what is asked of the program besides -/
structure PrmOk2 (P : Program) (gs : Prm) : Prop where
  plans : ∀ (f : Nat) (fn : Func) (c : Code), P.funcs[f]? = some fn → fn.body = some c → regionsOk P (gs.plans f) c = true
  mixed : P.follows .mixedOrders = true

theorem start_rel {fn : Func} {as : List AVal} {vs : List Value} (hv : VRels ρ as vs) : VRels ρ (start fn as h).ts ((⟨vs⟩ : Array Value) ++ Array.replicate (fn.ntmps - (⟨vs⟩ : Array Value).size) undef).toList := by
  have hl := hv.length
  have e : ((⟨vs⟩ : Array Value) ++ Array.replicate (fn.ntmps - (⟨vs⟩ : Array Value).size) undef).toList = vs ++ List.replicate (fn.ntmps - as.length) undef := by
    simp [hl]
  rw [e]
  exact hv.append (VRels.replicate (.tup .nil) _)

theorem fn_enter (hP : PrmOk P gs) {fn : Fn} {cs as : List AVal} {us vs : List Value} (hc : VRels ρ cs us) (hv : VRels ρ as vs) {f : Nat} {args : List AVal} {h1 : Heap} (hr : fnA P gs h fn cs as = some (.enter f args, h1)) (w : World) :
    h1 = h ∧ ∃ xs, VRels ρ args xs ∧ (invoke (.fn fn ⟨us⟩) ⟨vs⟩).run P w = .ok (.enter f ⟨xs⟩) w := by
  unfold fnA at hr
  split at hr
  · rename_i g
    unfold enterA at hr
    split at hr
    · rename_i fnn hfn
      split at hr
      · rename_i c hb
        cases hr
        have hn := hP.noNG _ fnn hfn (by rw [hb]; rfl)
        have hn' : fnn.name ≠ "runtime.NumGoroutine" := by simpa using hn
        refine ⟨rfl, vs ++ us, hv.append hc, ?_⟩
        have e : (⟨vs⟩ : Array Value) ++ ⟨us⟩ = ⟨vs ++ us⟩ := by apply Array.ext'; simp
        simp [invoke, callFunc, hfn, hn', hb, e]
      · split at hr <;> cases hr
    · cases hr
  · cases hr

theorem defers_ok (hP : PrmOk P gs) {r : Rec} (hm : Mono r) (hr : CallOk P gs N0 r) {fn : Func} {tmps : Array Value} {R : Ending → World → Prop} : ∀ {ds : List ADef} {Ds : List Deferred} {h h' : Heap} {ρ : Env} {w : World}, runDefers P gs r ds h = some h' → DRels ρ ds Ds → GOk gs ρ → Holds P N0 ρ h w →
    (∀ ρ' w', Mov N0 (· < h.next) ρ w ρ' w' → Holds P N0 ρ' h' w' → ∃ v, (results fn tmps).run P w' = .ok v w' ∧ R (.returned v) w') → Leaves P fn tmps R Ds .returning w
  | [], Ds, h, h', ρ, w, e, hd, hG, H, fin => by
    cases hd
    simp only [runDefers, Option.some.injEq] at e
    subst e
    exact fin ρ w (Mov.refl _ _ _ _) H
  | d :: ds, Ds, h, h', ρ, w, e, hd, hG, H, fin => by
    cases hd with
    | @cons _ D _ Ds h1 h2 =>
    obtain ⟨cap, vs, rfl, hc, hv⟩ := h1
    simp only [runDefers, Option.bind_eq_some_iff] at e
    obtain ⟨y, hy, e⟩ := e
    split at e
    · rename_i f args h1
      simp only [Option.bind_eq_some_iff] at e
      obtain ⟨h2', hcall, e⟩ := e
      obtain ⟨rfl, xs, hxs, hinv⟩ := fn_enter hP hc hv hy w
      refine leaves_cons (by simp) hinv (CallsD.mono (hr.calld f args _ h2' hcall ρ w xs hG H hxs) ?_)
      rintro e1 u w1 ⟨rfl, V, ρ1, rfl, M1, H1⟩
      have hmono := hm.calld _ _ _ _ hcall
      refine defers_ok hP hm hr e (h2.mono M1.ext) (hG.mono M1.ext) H1 (fun ρ' w' M' H' => fin ρ' w' (M1.trans (M'.weak fun b hb => ?_)) H')
      exact Nat.lt_of_lt_of_le hb hmono
    · cases e

theorem callF_ok (hP : PrmOk P gs) (hP2 : PrmOk2 P gs) {n : Nat} {r : Rec} (hm : Mono r) (hr : CallOk P gs N0 r) (hc : CodeOk P gs N0 n r) {f : Nat} {as : List AVal} {h h' : Heap} {v : AVal} (e : callF P gs r f as h = some (v, h')) {ρ : Env} {w : World} {vs : List Value} (hG : GOk gs ρ) (H : Holds P N0 ρ h w) (hv : VRels ρ as vs) :
    Calls P f ⟨vs⟩ w fun e w' => ∃ V ρ', e = .returned V ∧ Mov N0 (· < h.next) ρ w ρ' w' ∧ Holds P N0 ρ' h' w' ∧ VRel ρ' v V := by
  unfold callF at e
  split at e
  · rename_i fn hfn
    simp only [Option.bind_eq_some_iff] at e
    obtain ⟨c, hb, x, hcode, e⟩ := e
    split at e
    · rename_i hend
      simp only [Option.bind_eq_some_iff, Option.map_eq_some_iff] at e
      obtain ⟨h1, hd, us, hres, he⟩ := e
      cases he
      obtain ⟨x, st⟩ := x
      refine calls_of_wp_defers hfn hb ?_
      have S : Stt P gs N0 ρ (start fn as h) { tmps := (⟨vs⟩ : Array Value) ++ Array.replicate (fn.ntmps - (⟨vs⟩ : Array Value).size) undef, defers := [] } w := ⟨hG, H, start_rel hv, .nil⟩
      have hw := cwp_wp (hc (gs.plans f) c _ x st hcode (hP2.plans f fn c hfn hb) ρ _ w S h.next ρ w (PostC P gs N0 h.next ρ w x st) (Nat.le_refl _) (Mov.refl _ _ _ _) (fun a' w' hp => ⟨rfl, hp⟩) (fun c a w hq => hq.panic)
        (fun l a w hq => by have := hq.1; cases x <;> cases this))
      refine wp_mono hw ?_
      intro e a' w' hq
      obtain ⟨he, ρ1, M1, S1⟩ := hq
      have hmono := hm.code _ _ _ _ _ hcode
      have hfin : Leaves P fn a'.tmps (fun e w' => ∃ V ρ', e = .returned V ∧ Mov N0 (· < h.next) ρ w ρ' w' ∧ Holds P N0 ρ' h' w' ∧ VRel ρ' (oneOf us) V) a'.defers .returning w' := by
        refine defers_ok hP hm hr hd S1.defs S1.vars S1.mem (fun ρ' w'' M' H' => ?_)
        obtain ⟨V, hrun, hV⟩ := resultsRun H' (S1.tmps.mono M'.ext) hres
        refine ⟨V, hrun, V, ρ', rfl, M1.trans (M'.weak fun b hb => ?_), H', hV⟩
        exact Nat.lt_of_lt_of_le hb hmono
      subst he
      cases x with
      | normal => exact hfin
      | ret => exact hfin
      | exit id => simp [ended] at hend
    · cases e
  · cases e

/-! ### deferred functions -/
def OpsDOk (P : Program) (gs : Prm) (N0 : Nat) (r : Rec) : Prop :=
  ∀ ops is st st', r.ops true ops is st = some st' → ∀ ρ a w cs, recoverD cs = none → Stt P gs N0 ρ st a w →
    ∀ (n0 : Nat) (ρ0 : Env) (w0 : World) (Q : Exit → Act → List Frame → World → Prop), n0 ≤ st.h.next → Mov N0 (· < n0) ρ0 w0 ρ w → (∀ a' w', Post P gs N0 n0 ρ0 w0 st' a' w' → Q .normal a' cs w') → wpOpsS P ops Q is a cs w

theorem codeD_ok (hP : PrmOk P gs) (hP2 : PrmOk2 P gs) {n : Nat} {r : Rec} (hm : Mono r) (hod : OpsDOk P gs N0 r) (hp : Ph1Ok P gs N0 r) (hc : CodeOk P gs N0 n r) {pl : Nat → Plan} {cs : List Frame} (hcs : recoverD cs = none) :
    ∀ {c : Code} {st st' : St} {x : AExit}, codeD P gs r pl c st = some (x, st') → regionsOk P pl c = true → ∀ {ρ : Env} {a : Act} {w : World}, Stt P gs N0 ρ st a w →
      ∀ (n0 : Nat) (ρs : Env) (ws : World) (Q : Exit → Act → List Frame → World → Prop), n0 ≤ st.h.next → Mov N0 (· < n0) ρs ws ρ w → (∀ a' w', Post P gs N0 n0 ρs ws st' a' w' → Q x.exit' a' cs w') → (∀ c a cs w, ¬ Q (.panic c) a cs w) → (∀ l a cs w, ¬ Q (.goto l) a cs w) → c.wpS P Q a cs w := by
  intro c
  have other : ∀ {c : Code} {st st' : St} {x : AExit}, r.code pl c st = some (x, st') → regionsOk P pl c = true → ∀ {ρ : Env} {a : Act} {w : World}, Stt P gs N0 ρ st a w →
      ∀ (n0 : Nat) (ρs : Env) (ws : World) (Q : Exit → Act → List Frame → World → Prop), n0 ≤ st.h.next → Mov N0 (· < n0) ρs ws ρ w → (∀ a' w', Post P gs N0 n0 ρs ws st' a' w' → Q x.exit' a' cs w') → (∀ c a cs w, ¬ Q (.panic c) a cs w) → (∀ l a cs w, ¬ Q (.goto l) a cs w) → c.wpS P Q a cs w :=
    fun h hreg _ _ _ S n0 ρs ws Q hn M hQ hQp hQg => wpS_of_wp (cwp_wp (hc pl _ _ _ _ h hreg _ _ _ S n0 ρs ws _ hn M hQ (fun c a w => hQp c a cs w) (fun l a w => hQg l a cs w)))
  induction c with
  | seq ca cb iha ihb =>
    intro st st' x h hreg ρ a w S n0 ρs ws Q hn M hQ hQp hQg
    simp only [regionsOk, Bool.and_eq_true] at hreg
    simp only [codeD, Option.bind_eq_some_iff] at h
    obtain ⟨⟨y, s1⟩, h1, h⟩ := h
    refine wpS_seq (iha h1 hreg.1 S n0 ρs ws _ hn M ?_ (fun c a cs w hq => hQp c a cs w hq) (fun c a cs w hq => hQg c a cs w hq))
    intro a' w' hpost
    split at h
    · rename_i heq
      cases heq
      obtain ⟨ρ', M', S'⟩ := hpost
      have := codeD_mono hm h1
      exact ihb h hreg.2 S' n0 ρs ws Q (by omega) M' hQ hQp hQg
    · rename_i hno
      cases h
      have := hQ a' w' hpost
      cases x with
      | normal => exact absurd rfl (hno _)
      | exit id => exact this
      | ret => exact this
  | region id ops draw =>
    intro st st' x h hreg ρ a w S n0 ρs ws Q hn M hQ hQp hQg
    simp only [codeD] at h
    split at h
    · simp only [Option.map_eq_some_iff] at h
      obtain ⟨s, h, he⟩ := h
      cases he
      exact wpS_of_wp (drawn_ok hP hP2.mixed hp h hreg S id n0 ρs ws _ hn M hQ (fun c a w => hQp c a cs w))
    · simp only [Option.map_eq_some_iff] at h
      obtain ⟨s, h, he⟩ := h
      cases he
      exact wpS_region (hod ops _ st _ h ρ a w cs hcs S n0 ρs ws Q hn M hQ)
  | _ => intro st st' x h; exact other (by simpa [codeD] using h)

theorem callD_ok (hP : PrmOk P gs) (hP2 : PrmOk2 P gs) {n : Nat} {r : Rec} (hm : Mono r) (hod : OpsDOk P gs N0 r) (hp : Ph1Ok P gs N0 r) (hc : CodeOk P gs N0 n r) {f : Nat} {as : List AVal} {h h' : Heap} (e : callD P gs r f as h = some h') {ρ : Env} {w : World} {vs : List Value} (hG : GOk gs ρ) (H : Holds P N0 ρ h w) (hv : VRels ρ as vs) :
    CallsD P f ⟨vs⟩ .returning w fun e u w' => u = .returning ∧ ∃ V ρ', e = .returned V ∧ Mov N0 (· < h.next) ρ w ρ' w' ∧ Holds P N0 ρ' h' w' := by
  unfold callD at e
  split at e
  · rename_i fn hfn
    simp only [Option.bind_eq_some_iff] at e
    obtain ⟨c, hb, ⟨x, st⟩, hcode, e⟩ := e
    split at e
    · rename_i hend hds
      simp only [Option.map_eq_some_iff] at e
      obtain ⟨us, hres, rfl⟩ := e
      refine callsD_of_wpS hfn hb ?_
      intro c0 cs hmode
      have hcs : recoverD (c0 :: cs) = none := by simp [recoverD, hmode]
      have S : Stt P gs N0 ρ (start fn as h) { tmps := (⟨vs⟩ : Array Value) ++ Array.replicate (fn.ntmps - (⟨vs⟩ : Array Value).size) undef, defers := [] } w := ⟨hG, H, start_rel hv, .nil⟩
      refine codeD_ok hP hP2 hm hod hp hc hcs hcode (hP2.plans f fn c hfn hb) S h.next ρ w _ (Nat.le_refl _) (Mov.refl _ _ _ _) ?_ ?_ ?_
      · intro a' w' hpost
        obtain ⟨ρ1, M1, S1⟩ := hpost
        have hdef : a'.defers = [] := by
          have := S1.defs
          simp only at hds
          rw [hds] at this
          generalize a'.defers = D at this ⊢
          cases this
          rfl
        obtain ⟨V, hrun, hV⟩ := resultsRun S1.mem S1.tmps hres
        have hc0 : c0 = { c0 with mode := .returning } := by rw [← hmode]
        have : a'.defers = [] ∧ ∃ u', (c0 :: cs) = { c0 with mode := u' } :: cs ∧ ∃ v, (results fn a'.tmps).run P w' = .ok v w' ∧ (u' = .returning ∧ ∃ V ρ', Ending.returned v = .returned V ∧ Mov N0 (· < h.next) ρ w ρ' w' ∧ Holds P N0 ρ' st.h w') :=
          ⟨hdef, .returning, by rw [← hc0], V, hrun, rfl, V, ρ1, rfl, M1, S1.mem⟩
        cases x with
        | normal => exact this
        | ret => exact this
        | exit id => simp [ended] at hend
      · rintro ch a cs w ⟨_, u, _, _, V, ρ', h, _⟩
        cases h
      · intro l a cs w hq
        exact hq
    · cases e
  · cases e

/-- one operation of a deferred function's region -/
theorem doOpD_ok (hP : PrmOk P gs) {r : Rec} (hr : CallOk P gs N0 r) {ops : Array Oper} {i : Nat} {o : Oper} (hi : ops[i]? = some o) {st st1 : St} (hd : doOp P gs r true ops o nb st = some st1) {a : Act} (S : Stt P gs N0 ρ st a w) (hnb : nb < st.h.next) (hf : ρ nb = none)
    {cs : List Frame} (hcs : recoverD cs = none) (rest : List Nat) (Q : Exit → Act → List Frame → World → Prop) (hK : ∀ ρ' a' w', Mov N0 (fun b => b < st.h.next ∧ b ≠ nb) ρ w ρ' w' → Stt P gs N0 ρ' st1 a' w' → wpOpsS P ops Q rest a' cs w') :
    wpOpsS P ops Q (i :: rest) a cs w := by
  unfold doOp at hd
  have hy := yielded_eq (ops := ops) S.tmps
  rw [hy] at hd
  split at hd
  · rename_i hw
    simp only [Option.bind_eq_some_iff] at hd
    obtain ⟨⟨n, h1⟩, hop, hd⟩ := hd
    rw [opC_eq] at hop
    obtain ⟨N, w1, ρ1, hrun, M, H1, hN⟩ := op_ok hP S.vars S.tmps S.mem (fun _ => hnb) hf hop
    have hge : ∀ b, st.h.next ≤ b → ρ1 b = none := fun b hb => M.keep b (by omega) (S.mem.fresh b hb)
    have H1' := H1.same_next hge
    have M1 : Mov N0 (fun b => b < st.h.next ∧ b ≠ nb) ρ w ρ1 w1 := M.weak fun b hb => hb.2
    have V1 := S.vars.mono M.ext
    have T1 := S.tmps.mono M.ext
    have D1 := S.defs.mono M.ext
    cases n with
    | value v =>
      cases hd
      obtain ⟨V, rfl, hV⟩ := hN
      simp only [wpOpsS, hi, hw, if_true, hrun]
      rw [Oper.upon_value]
      exact hK ρ1 _ w1 M1 ⟨V1, H1', put_rel T1 _ hV, by rw [put_defers]; exact D1⟩
    | skip =>
      cases hd
      cases hN
      simp only [wpOpsS, hi, hw, if_true, hrun]
      rw [Oper.upon_skip]
      exact hK ρ1 _ w1 M1 ⟨V1, H1', put_rel T1 _ (.tup .nil), by rw [put_defers]; exact D1⟩
    | defer x =>
      cases hd
      obtain ⟨D, rfl, hD⟩ := hN
      simp only [wpOpsS, hi, hw, if_true, hrun]
      rw [Oper.upon_defer]
      exact hK ρ1 _ w1 M1 ⟨V1, H1', put_rel (a := { a with defers := D :: a.defers }) T1 _ (.tup .nil), by rw [put_defers]; exact .cons hD D1⟩
    | recover =>
      cases hd
      cases hN
      simp only [wpOpsS, hi, hw, if_true, hrun, hcs]
      exact hK ρ1 _ w1 M1 ⟨V1, H1', put_rel T1 _ .nili, by rw [put_defers]; exact D1⟩
    | enter f as =>
      obtain ⟨vs, rfl, hvs⟩ := hN
      simp only [afterOp, Option.map_eq_some_iff] at hd
      obtain ⟨⟨v, h2⟩, hcall, hd⟩ := hd
      cases hd
      have hc := hr.call f as _ v h2 hcall ρ1 w1 vs V1 H1' hvs
      simp only [wpOpsS, hi, hw, if_true, hrun]
      rw [Oper.upon_enter]
      refine Calls.mono hc ?_
      rintro e w2 ⟨V, ρ2, rfl, M2, H2, hV⟩
      exact hK ρ2 _ w2 (M1.trans (M2.weak fun b hb => hb.1)) ⟨V1.mono M2.ext, H2, put_rel (T1.mono M2.ext) _ hV, by rw [put_defers]; exact D1.mono M2.ext⟩
  · rename_i hw
    cases hd
    simp only [wpOpsS, hi, hw, Bool.false_eq_true, if_false]
    exact hK ρ _ w (Mov.refl _ _ _ _) ⟨S.vars, S.mem, put_rel S.tmps _ (.tup .nil), by rw [put_defers]; exact S.defs⟩

theorem opsD_ok (hP : PrmOk P gs) {r : Rec} (hm : Mono r) (hr : CallOk P gs N0 r) (ho : OpsDOk P gs N0 r) : OpsDOk P gs N0 (levelF P gs r) := by
  intro ops is st st' h ρ a w cs hcs S n0 ρ0 w0 Q hn M hQ
  change opsF P gs r true ops is st = some st' at h
  cases is with
  | nil =>
    simp only [opsF, Option.some.injEq] at h
    subst h
    exact hQ _ _ ⟨ρ, M, S⟩
  | cons i is =>
    simp only [opsF] at h
    split at h
    · rename_i hi
      simp only [wpOpsS, hi]
      exact ho ops is st st' h ρ a w cs hcs S n0 ρ0 w0 Q hn M hQ
    · rename_i o hi
      simp only [Option.bind_eq_some_iff] at h
      obtain ⟨st1, hd, h⟩ := h
      have hfree : ρ st.h.next = none := S.mem.fresh _ (Nat.le_refl _)
      have S' : Stt P gs N0 ρ (bump st) a w := ⟨S.vars, S.mem.more (Nat.le_succ _), S.tmps, S.defs⟩
      have hle := doOp_mono hm hd
      have hle' : st.h.next + 1 ≤ st1.h.next := hle
      refine doOpD_ok (nb := st.h.next) hP hr hi hd S' (Nat.lt_succ_self _) hfree hcs is Q ?_
      intro ρ' a' w' M1 S1
      refine ho ops is st1 st' h ρ' a' w' cs hcs S1 n0 ρ0 w0 Q (by omega) (M.trans (M1.weak fun b hb => ?_)) hQ
      have hb' : b < n0 := hb
      exact ⟨Nat.lt_of_lt_of_le hb' (Nat.le_trans hn (Nat.le_succ _)), by omega⟩

/-- all levels -/
theorem level_ok (hP : PrmOk P gs) (hP2 : PrmOk2 P gs) (n : Nat) : CodeOk P gs N0 n (level P gs n) ∧ OpsOk P gs N0 (level P gs n) ∧ OpsDOk P gs N0 (level P gs n) ∧ Ph1Ok P gs N0 (level P gs n) ∧ CallOk P gs N0 (level P gs n) := by
  induction n with
  | zero =>
    refine ⟨?_, ?_, ?_, ?_, ⟨?_, ?_⟩⟩
    · intro pl c st x st' h; cases h
    · intro ops is st st' h; cases h
    · intro ops is st st' h; cases h
    · intro ops base h0 K p st st' h; cases h
    · intro f as h v h' e; cases e
    · intro f as h h' e; cases e
  | succ n ih =>
    obtain ⟨hc, ho, hod, hp, hr⟩ := ih
    have hm := level_mono (P := P) (gs := gs) n
    refine ⟨codeF_ok hP hP2.mixed hm ho hp hc, ?_, opsD_ok hP hm hr hod, ph1F_ok hP hm hr hp, ⟨?_, ?_⟩⟩
    · intro ops is st st' h ρ a w S
      exact opsF_ok hP hm hr ho h S
    · intro f as h v h' e ρ w vs hG H hv
      exact callF_ok hP hP2 hm hr hc e hG H hv
    · intro f as h h' e ρ w vs hG H hv
      exact callD_ok hP hP2 hm hod hp hc e hG H hv

/-- THE EVALUATOR IS SOUND -/
theorem sound (hP : PrmOk P gs) (hP2 : PrmOk2 P gs) {n f : Nat} {as : List AVal} {h h' : Heap} {v : AVal} (e : (level P gs n).call f as h = some (v, h')) {ρ : Env} {w : World} {vs : List Value} (hG : GOk gs ρ) (H : Holds P N0 ρ h w) (hv : VRels ρ as vs) :
    Calls P f ⟨vs⟩ w fun e w' => ∃ V ρ', e = .returned V ∧ Mov N0 (· < h.next) ρ w ρ' w' ∧ Holds P N0 ρ' h' w' ∧ VRel ρ' v V :=
  (level_ok hP hP2 n).2.2.2.2.call f as h v h' e ρ w vs hG H hv

end Go.Proofs.YtdgpdmbfhehpfaaGreatDoor.Ev
