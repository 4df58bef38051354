/-
  The evaluator's operations are sound: calls, deferred calls; all of them.
-/
import Derived.Test.YtdgpdmbfhehpfaaGreatDoorEvK
set_option linter.all false
namespace Go.Proofs.YtdgpdmbfhehpfaaGreatDoor.Ev
open Go.RowKit

/-- what is asked of the program -/
structure PrmOk (P : Program) (gs : Prm) : Prop where
  noNG : ∀ (f : Nat) (fn : Func), P.funcs[f]? = some fn → fn.body.isSome = true → (fn.name == "runtime.NumGoroutine") = false
  ids : ∀ f : Nat, gs.ids.elem f = true → ∀ (x : Value) (w : World), (callFunc f #[x]).run P w = .ok (.value x) w

variable {gs : Prm} {P : Program} {N0 : Nat} {ρ : Env} {h h' : Heap} {w : World} {nb : Nat}

theorem enter_ok (hP : PrmOk P gs) (H : Holds P N0 ρ h w) {f : Nat} {as : List AVal} {vs : List Value} (hv : VRels ρ as vs) {n : ANext} (hr : enterA P gs h f as = some (n, h')) :
    Good P N0 (· ≠ nb) ρ w h' n ((callFunc f ⟨vs⟩).run P w) := by
  unfold enterA at hr
  split at hr
  · rename_i fn hfn
    split at hr
    · rename_i c hc
      cases hr
      refine ⟨.enter f ⟨vs⟩, w, ρ, ?_, Mov.refl _ _ _ _, H, _, rfl, hv⟩
      have hn := hP.noNG f fn hfn (by rw [hc]; rfl)
      have hn' : fn.name ≠ "runtime.NumGoroutine" := by simpa using hn
      simp [callFunc, hfn, hn', hc]
    · split at hr
      · rename_i x he
        cases hr
        cases hv with
        | cons h1 h2 =>
        cases h2
        exact ⟨_, w, ρ, hP.ids f he _ w, Mov.refl _ _ _ _, H, _, rfl, h1⟩
      · cases hr
  · cases hr

theorem fn_ok (hP : PrmOk P gs) (H : Holds P N0 ρ h w) {fn : Fn} {cs as : List AVal} {us vs : List Value} (hc : VRels ρ cs us) (hv : VRels ρ as vs) {n : ANext} (hr : fnA P gs h fn cs as = some (n, h')) :
    Good P N0 (· ≠ nb) ρ w h' n ((invoke (.fn fn ⟨us⟩) ⟨vs⟩).run P w) := by
  unfold fnA at hr
  split at hr
  · rename_i f
    have := enter_ok (nb := nb) hP H (hv.append hc) hr
    have e : (⟨vs⟩ : Array Value) ++ ⟨us⟩ = ⟨vs ++ us⟩ := by apply Array.ext'; simp
    simp only [invoke, e]
    exact this
  · cases hr

theorem invokeM_ok (hP : PrmOk P gs) (H : Holds P N0 ρ h w) {name : String} {r : AVal} {R : Value} (hR : VRel ρ r R) {as : List AVal} {vs : List Value} (hv : VRels ρ as vs) {n : ANext} (hr : invokeA P gs h name as r = some (n, h')) :
    Good P N0 (· ≠ nb) ρ w h' n ((callMethod R name ⟨vs⟩).run P w) := by
  unfold invokeA at hr
  split at hr
  · rename_i t v
    cases hR with
    | @iface _ _ V hV =>
    split at hr
    · rename_i i hi
      split at hr
      · rename_i m hm
        have hm' : i.methods.find? (fun m => m.name == name) = some m := by rw [← Array.find?_toList]; exact hm
        have hti : (typeInfo t).run P w = .ok i w := by simp [typeInfo, hi]
        have e1 : ∀ x, (#[x] : Array Value) ++ ⟨vs⟩ = ⟨x :: vs⟩ := fun x => by apply Array.ext'; simp
        split at hr
        · rename_i f te hmf hmp hu
          have hp : m.path.toList = [] := by
            have : m.path = #[] := Array.eq_empty_of_size_eq_zero hmp
            rw [this]
          have := enter_ok (nb := nb) hP H (.cons hV hv) hr
          have hmeth : ∀ k, (method (k + 1) t V name).run P w = .ok (f, V) w := fun k => by
            simp only [method, Sem.run_bind, hti, Result.andThen_ok, hm', hp, follow, Sem.run_pure, hmf]
            simp only [receiverAt, Sem.run_bind, run_underlying hu, Result.andThen_ok, Place.get, Sem.run_pure]
          simp only [callMethod, Sem.run_bind, run_program, Result.andThen_ok]
          rw [show P.types.size + Made.depth = (P.types.size + (Made.depth - 1)) + 1 from by simp [Made.depth]]
          rw [hmeth]
          simp only [Result.andThen_ok, e1]
          exact this
        · cases hr
        · rename_i f d hno hmf hmp hu
          have hrec : ∀ nm : Option String, (receiverAt t (.val V) false nm).run P w = .ok V w := fun nm => by
            simp only [receiverAt, Sem.run_bind, run_underlying hu, Result.andThen_ok]
            cases d <;> first
              | rfl
              | (exfalso; simp_all)
          have hp : m.path.toList = [] := by
            have : m.path = #[] := Array.eq_empty_of_size_eq_zero hmp
            rw [this]
          have := enter_ok (nb := nb) hP H (.cons hV hv) hr
          have hmeth : ∀ k, (method (k + 1) t V name).run P w = .ok (f, V) w := fun k => by
            simp only [method, Sem.run_bind, hti, Result.andThen_ok, hm', hp, follow, Sem.run_pure, hmf]
            simp only [hrec, Result.andThen_ok]
          simp only [callMethod, Sem.run_bind, run_program, Result.andThen_ok]
          rw [show P.types.size + Made.depth = (P.types.size + (Made.depth - 1)) + 1 from by simp [Made.depth]]
          rw [hmeth]
          simp only [Result.andThen_ok, e1]
          exact this
        · cases hr
      · cases hr
    · cases hr
  · cases hr

theorem Good.of_val {a : Act} {o : Oper} {K : Nat → Prop} {V : Value} {w' : World} {ρ' : Env} {n : ANext} (hrun : (execOp a.eval o).run P w = .ok (.value V) w') (M : Mov N0 K ρ w ρ' w') (H : Holds P N0 ρ' h' w') (hn : ∃ v, n = .value v ∧ VRel ρ' v V) :
    Good P N0 K ρ w h' n ((execOp a.eval o).run P w) := by
  obtain ⟨v, rfl, hv⟩ := hn
  exact ⟨_, _, _, hrun, M, H, V, rfl, hv⟩

theorem call_ok (hP : PrmOk P gs) {ts : List AVal} {a : Act} (hG : GOk gs ρ) (hts : VRels ρ ts a.tmps.toList) (H : Holds P N0 ρ h w) {o : Oper} {c : Call} (ho : o.op = .call c) (hnb : makes o.op = true → nb < h.next) (hf : ρ nb = none) {n : ANext}
    (hr : callA P gs ts h nb c = some (n, h')) : Good P N0 (· ≠ nb) ρ w h' n ((execOp a.eval o).run P w) := by
  simp only [callA, Option.bind_eq_some_iff] at hr
  obtain ⟨as, has, hr⟩ := hr
  have hv := evs_ok hG hts has
  split at hr
  · rename_i b hb
    have hex : ∃ cc : Array Bool, (execOp a.eval o).run P w = ((builtin b c.argTypes o.type cc ⟨c.args.toList.map a.eval⟩)).run P w := ⟨_, by
      simp only [execOp, ho, resolve, hb, Sem.run_bind, Sem.run_pure, Result.andThen_ok, invoke, arrMap]; rfl⟩
    obtain ⟨cc, hex⟩ := hex
    generalize c.args.toList.map a.eval = vs at hv hex
    unfold builtinA at hr
    split at hr
    · cases hv
      split at hr
      · cases hr
        exact ⟨.recover, w, ρ, by rw [hex]; rfl, Mov.refl _ _ _ _, H, rfl⟩
      · cases hr
    · cases hv with
      | cons h1 h2 =>
      cases h2
      split at hr
      · simp only [Option.bind_eq_some_iff] at hr
        obtain ⟨t, ht, hr⟩ := hr
        unfold out at hr
        split at hr
        · rename_i v hl
          cases hr
          obtain ⟨V, hV, hrun⟩ := lenB_ok (ty := o.type) ht H h1 hl
          exact Good.of_val (by rw [hex]; simp only [builtin, Sem.run_bind, hrun, Result.andThen_ok, Sem.run_pure]) (Mov.refl _ _ _ _) H ⟨_, rfl, hV⟩
        · cases hr
      · obtain ⟨V, hrun, rfl, hn⟩ := sliceData_ok (ts := c.argTypes) (ty := o.type) H h1 hr
        exact Good.of_val (by rw [hex]; simp only [builtin, Sem.run_bind, hrun, Result.andThen_ok, Sem.run_pure]) (Mov.refl _ _ _ _) H hn
      · cases hr
    · cases hv with
      | cons h1 h2 =>
      cases h2 with
      | cons h2 h3 =>
      cases h3
      split at hr
      · obtain ⟨V, w', hrun, M, H', hn⟩ := unsafeString_ok (nb := nb) (ty := o.type) H h1 h2 hr
        exact Good.of_val (by rw [hex]; simp only [builtin, Sem.run_bind, hrun, Result.andThen_ok, Sem.run_pure]) M H' hn
      · have hm : makes o.op = true := by
          rw [ho]
          obtain ⟨callee, args, argTypes⟩ := c
          simp only at hb
          subst hb
          rfl
        obtain ⟨V, w', ρ', hrun, M, H', hn⟩ := append_ok (ty := o.type) H (hnb hm) hf h1 h2 hr
        exact Good.of_val (by rw [hex]; simp only [builtin, Sem.run_bind, hrun, Result.andThen_ok, Sem.run_pure]) M H' hn
      · simp only [Option.bind_eq_some_iff] at hr
        obtain ⟨t, ht, hr⟩ := hr
        obtain ⟨V, w', hrun, M, H', hn⟩ := copy_ok (nb := nb) (ty := o.type) ht H h1 h2 hr
        exact Good.of_val (by rw [hex]; simp only [builtin, Sem.run_bind, hrun, Result.andThen_ok, Sem.run_pure]) M H' hn
      · cases hr
    · cases hr
  · rename_i r name hb
    simp only [Option.bind_eq_some_iff] at hr
    obtain ⟨rv, hrv, hr⟩ := hr
    have := invokeM_ok (nb := nb) hP H (ev_ok hG hts hrv) hv hr
    have e1 : (#[a.eval r] : Array Value) ++ ⟨c.args.toList.map a.eval⟩ = ⟨a.eval r :: c.args.toList.map a.eval⟩ := by apply Array.ext'; simp
    have hex : (execOp a.eval o).run P w = (callMethod (a.eval r) name ⟨c.args.toList.map a.eval⟩).run P w := by
      simp only [execOp, ho, resolve, hb, Sem.run_bind, Sem.run_pure, Result.andThen_ok, arrMap, e1, invoke]
      simp
      rw [List.take_of_length_le (by simp)]
    rw [hex]
    exact this
  · rename_i f hb
    simp only [Option.bind_eq_some_iff] at hr
    obtain ⟨fv, hfv, hr⟩ := hr
    have hfr := ev_ok hG hts hfv
    generalize hF : a.eval f = F at hfr
    unfold valueA at hr
    split at hr
    · rename_i fn first captured
      cases hfr with
      | @func _ _ _ vs us h1 h2 =>
      have := fn_ok (nb := nb) hP H h2 (h1.append hv) hr
      have e1 : (⟨vs⟩ : Array Value) ++ ⟨c.args.toList.map a.eval⟩ = ⟨vs ++ c.args.toList.map a.eval⟩ := by apply Array.ext'; simp
      have hex : (execOp a.eval o).run P w = (invoke (.fn fn ⟨us⟩) ⟨vs ++ c.args.toList.map a.eval⟩).run P w := by
        simp only [execOp, ho, resolve, hb, hF, Deferred.ofValue, Sem.run_bind, Sem.run_pure, Result.andThen_ok, arrMap, e1]
      rw [hex]
      exact this
    · cases hr

theorem op_ok (hP : PrmOk P gs) {ts : List AVal} {a : Act} (hG : GOk gs ρ) (hts : VRels ρ ts a.tmps.toList) (H : Holds P N0 ρ h w) {o : Oper} (hnb : makes o.op = true → nb < h.next) (hf : ρ nb = none) {n : ANext}
    (hr : opA P gs ts h nb o.op = some (n, h')) : Good P N0 (· ≠ nb) ρ w h' n ((execOp a.eval o).run P w) := by
  unfold opA at hr
  split at hr
  · unfold out at hr
    split at hr
    · rename_i v hv
      cases hr
      obtain ⟨V, hV, hrun⟩ := pure_ok (P := P) hG hts hv
      exact Good.val H (hrun w) hV
    · cases hr
  · split at hr
    · rename_i e ho
      exact alloc_ok ho H (hnb (by rw [ho]; rfl)) hf hr
    · rename_i e x ho
      simp only [Option.bind_eq_some_iff] at hr
      obtain ⟨v, hv, hr⟩ := hr
      exact box_ok ho H (hnb (by rw [ho]; rfl)) hf (ev_ok hG hts hv) hr
    · rename_i t len parts ho
      exact buildSlice_ok hG hts ho H (hnb (by rw [ho]; rfl)) hf hr
    · rename_i t x ho
      unfold out at hr
      split at hr
      · rename_i v hv
        cases hr
        simp only [Option.bind_eq_some_iff] at hv
        obtain ⟨p, hp, hv⟩ := hv
        exact load_ok ho H (ev_ok hG hts hp) hv
      · cases hr
    · rename_i t x y ho
      simp only [Option.bind_eq_some_iff] at hr
      obtain ⟨p, hp, q, hq, hr⟩ := hr
      exact store_ok ho H (ev_ok hG hts hp) (ev_ok hG hts hq) hr
    · rename_i s d x ho
      simp only [Option.bind_eq_some_iff] at hr
      obtain ⟨v, hv, hr⟩ := hr
      exact convA_ok ho H (hnb (by rw [ho]; rfl)) hf (ev_ok hG hts hv) hr
    · rename_i t ho
      cases hr
      exact makeMap_ok ho H (hnb (by rw [ho]; rfl)) hf
    · rename_i t l c ho
      simp only [Option.bind_eq_some_iff] at hr
      obtain ⟨lv, hl, cv, hc, hr⟩ := hr
      exact makeSlice_ok ho H (hnb (by rw [ho]; rfl)) hf (ev_ok hG hts hl) (ev_ok hG hts hc) hr
    · rename_i t x i ok ho
      unfold out at hr
      split at hr
      · rename_i v hv
        cases hr
        simp only [Option.bind_eq_some_iff] at hv
        obtain ⟨m, hm, k, hk, hv⟩ := hv
        exact lookup_ok ho H (ev_ok hG hts hm) (ev_ok hG hts hk) hv
      · cases hr
    · rename_i t m k x ho
      simp only [Option.bind_eq_some_iff] at hr
      obtain ⟨mv, hm, kv, hk, xv, hx, hr⟩ := hr
      exact update_ok ho H (ev_ok hG hts hm) (ev_ok hG hts hk) (ev_ok hG hts hx) hr
    · rename_i c ho
      exact call_ok hP hG hts H ho hnb hf hr
    · rename_i c ho
      simp only [deferA, Option.bind_eq_some_iff] at hr
      obtain ⟨as, has, hr⟩ := hr
      have hv := evs_ok hG hts has
      split at hr
      · rename_i f hb
        simp only [Option.bind_eq_some_iff] at hr
        obtain ⟨fv, hfv, hr⟩ := hr
        have hfr := ev_ok hG hts hfv
        generalize hF : a.eval f = F at hfr
        split at hr
        · rename_i fn first captured
          cases hr
          cases hfr with
          | @func _ _ _ vs us h1 h2 =>
          have e1 : (⟨vs⟩ : Array Value) ++ ⟨c.args.toList.map a.eval⟩ = ⟨vs ++ c.args.toList.map a.eval⟩ := by apply Array.ext'; simp
          refine ⟨.defer { target := .fn fn ⟨us⟩, args := ⟨vs ++ c.args.toList.map a.eval⟩ }, w, ρ, ?_, Mov.refl _ _ _ _, H, _, rfl, us, _, rfl, h2, h1.append hv⟩
          simp only [execOp, ho, resolve, hb, hF, Deferred.ofValue, Sem.run_bind, Sem.run_pure, Result.andThen_ok, arrMap, e1]
        · cases hr
      · cases hr
    · cases hr

end Go.Proofs.YtdgpdmbfhehpfaaGreatDoor.Ev
