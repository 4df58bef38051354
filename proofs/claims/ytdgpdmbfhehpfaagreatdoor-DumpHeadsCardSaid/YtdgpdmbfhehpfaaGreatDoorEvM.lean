/-
  The evaluator is sound: one operation, regions that do not draw.
-/
import Derived.Test.YtdgpdmbfhehpfaaGreatDoorEvL
import Derived.Recover
import Derived.OrdersHeld
set_option linter.all false
namespace Go.Proofs.YtdgpdmbfhehpfaaGreatDoor.Ev
open Go.RowKit

variable {gs : Prm} {P : Program} {N0 : Nat} {ρ : Env} {h h' : Heap} {w : World} {nb : Nat}

inductive DRels (ρ : Env) : List ADef → List Deferred → Prop where
  | nil : DRels ρ [] []
  | cons {d D ds Ds} : DRel ρ d D → DRels ρ ds Ds → DRels ρ (d :: ds) (D :: Ds)

theorem DRel.mono {ρ ρ' : Env} (hl : ρ.le ρ') {d : ADef} {D : Deferred} (h : DRel ρ d D) : DRel ρ' d D := by
  obtain ⟨cap, vs, h0, h1, h2⟩ := h
  exact ⟨cap, vs, h0, h1.mono hl, h2.mono hl⟩

theorem DRels.mono {ρ ρ' : Env} (hl : ρ.le ρ') {ds : List ADef} {Ds : List Deferred} (h : DRels ρ ds Ds) : DRels ρ' ds Ds := by
  induction h with
  | nil => exact .nil
  | cons h1 _ ih => exact .cons (h1.mono hl) ih

/-- what a state means -/
structure Stt (P : Program) (gs : Prm) (N0 : Nat) (ρ : Env) (st : St) (a : Act) (w : World) : Prop where
  vars : GOk gs ρ
  mem : Holds P N0 ρ st.h w
  tmps : VRels ρ st.ts a.tmps.toList
  defs : DRels ρ st.ds a.defers

theorem put_rel {ts : List AVal} {a : Act} (h : VRels ρ ts a.tmps.toList) (d : Option Nat) {v : AVal} {V : Value} (hv : VRel ρ v V) : VRels ρ (putT ts d v) (a.put d V).tmps.toList := by
  cases d with
  | none => exact h
  | some d =>
    simp only [putT, Act.put, lset_eq, Array.toList_setIfInBounds]
    exact h.set d hv

theorem put_defers (a : Act) (d : Option Nat) (V : Value) : (a.put d V).defers = a.defers := by cases d <;> rfl

theorem yielded_eq {ops : Array Oper} {ts : List AVal} {a : Act} (h : VRels ρ ts a.tmps.toList) : yieldedA ops ts = yielded ops a.tmps := by
  funext j
  unfold yieldedA yielded
  cases hd : (ops[j]?).bind (·.dst) with
  | none => rfl
  | some d =>
    simp only [Option.map_some, Option.bind_some, lget_eq]
    have hr := h.getD d
    cases ht : a.tmps[d]? with
    | none =>
      have hl : a.tmps.toList[d]? = none := by simpa using ht
      have : ts[d]? = none := by
        have := h.length
        rw [List.getElem?_eq_none_iff] at hl ⊢
        omega
      simp [List.getD, this, AVal.undef]
    | some V =>
      have hV : a.tmps.toList.getD d Go.undef = V := by simp [List.getD, ht]
      rw [hV] at hr
      generalize ts.getD d AVal.undef = v at hr
      cases hr <;> rfl

/-- what the level below answers is right -/
structure CallOk (P : Program) (gs : Prm) (N0 : Nat) (r : Rec) : Prop where
  call : ∀ f as h v h', r.call f as h = some (v, h') → ∀ ρ w vs, GOk gs ρ → Holds P N0 ρ h w → VRels ρ as vs →
    Calls P f ⟨vs⟩ w fun e w' => ∃ V ρ', e = .returned V ∧ Mov N0 (· < h.next) ρ w ρ' w' ∧ Holds P N0 ρ' h' w' ∧ VRel ρ' v V
  calld : ∀ f as h h', r.calld f as h = some h' → ∀ ρ w vs, GOk gs ρ → Holds P N0 ρ h w → VRels ρ as vs →
    CallsD P f ⟨vs⟩ .returning w fun e u w' => u = .returning ∧ ∃ V ρ', e = .returned V ∧ Mov N0 (· < h.next) ρ w ρ' w' ∧ Holds P N0 ρ' h' w'

theorem Holds.same_next {ρ' : Env} {w' : World} (H' : Holds P N0 ρ' h' w') {n : Nat} (hf : ∀ b, n ≤ b → ρ' b = none) : Holds P N0 ρ' ⟨h'.t, n⟩ w' := ⟨H'.obj, H'.inj, hf, H'.lt, H'.low, H'.base, H'.flat⟩

/-- one operation -/
theorem doOp_ok (hP : PrmOk P gs) {r : Rec} (hr : CallOk P gs N0 r) {ops : Array Oper} {i : Nat} {o : Oper} (hi : ops[i]? = some o) {st st1 : St} (hd : doOp P gs r false ops o nb st = some st1) {a : Act} (S : Stt P gs N0 ρ st a w)
    (hnb : nb < st.h.next) (hf : ρ nb = none) :
    ∀ (Q : Exit → Act → World → Prop) (K : Act → World → Prop), (∀ ρ' a' w', Mov N0 (fun b => b < st.h.next ∧ b ≠ nb) ρ w ρ' w' → Stt P gs N0 ρ' st1 a' w' → K a' w') → wpOp P ops Q i K a w := by
  unfold doOp at hd
  have hy := yielded_eq (ops := ops) S.tmps
  rw [hy] at hd
  split at hd
  · rename_i hw
    simp only [Option.bind_eq_some_iff] at hd
    obtain ⟨⟨n, h1⟩, hop, hd⟩ := hd
    rw [opC_eq] at hop
    obtain ⟨N, w1, ρ1, hrun, M, H1, hN⟩ := op_ok hP S.vars S.tmps S.mem (fun _ => hnb) hf hop
    have hge : ∀ b, st.h.next ≤ b → ρ1 b = none := fun b hb => M.keep b (by omega) (S.mem.fresh b hb)
    have H1' := H1.same_next hge
    have M1 : Mov N0 (fun b => b < st.h.next ∧ b ≠ nb) ρ w ρ1 w1 := M.weak fun b hb => hb.2
    have V1 := S.vars.mono M.ext
    have T1 := S.tmps.mono M.ext
    have D1 := S.defs.mono M.ext
    have fin : ∀ (Q : Exit → Act → World → Prop) (K : Act → World → Prop), o.upon P a K Q (.ok N w1) → wpOp P ops Q i K a w := fun Q K hu => by
      unfold wpOp
      simp only [hi, hw, if_true]
      exact .inl (by unfold Oper.wp; rw [hrun]; exact hu)
    cases n with
    | value v =>
      cases hd
      obtain ⟨V, rfl, hV⟩ := hN
      refine fun Q K hK => fin Q K ?_
      rw [Oper.upon_value]
      exact hK ρ1 _ w1 M1 ⟨V1, H1', put_rel T1 _ hV, by rw [put_defers]; exact D1⟩
    | skip =>
      cases hd
      cases hN
      refine fun Q K hK => fin Q K ?_
      rw [Oper.upon_skip]
      exact hK ρ1 _ w1 M1 ⟨V1, H1', put_rel T1 _ (.tup .nil), by rw [put_defers]; exact D1⟩
    | defer x =>
      cases hd
      obtain ⟨D, rfl, hD⟩ := hN
      refine fun Q K hK => fin Q K ?_
      rw [Oper.upon_defer]
      exact hK ρ1 _ w1 M1 ⟨V1, H1', put_rel (a := { a with defers := D :: a.defers }) T1 _ (.tup .nil), by rw [put_defers]; exact .cons hD D1⟩
    | recover => cases hd
    | enter f as =>
      obtain ⟨vs, rfl, hvs⟩ := hN
      simp only [afterOp, Option.map_eq_some_iff] at hd
      obtain ⟨⟨v, h2⟩, hcall, hd⟩ := hd
      cases hd
      have hc := hr.call f as _ v h2 hcall ρ1 w1 vs V1 H1' hvs
      refine fun Q K hK => fin Q K ?_
      rw [Oper.upon_enter]
      refine Calls.mono hc ?_
      rintro e w2 ⟨V, ρ2, rfl, M2, H2, hV⟩
      exact hK ρ2 _ w2 (M1.trans (M2.weak fun b hb => hb.1)) ⟨V1.mono M2.ext, H2, put_rel (T1.mono M2.ext) _ hV, by rw [put_defers]; exact D1.mono M2.ext⟩
  · rename_i hw
    cases hd
    refine fun Q K hK => ?_
    unfold wpOp
    simp only [hi, hw, Bool.false_eq_true, if_false]
    exact hK ρ _ w (Mov.refl _ _ _ _) ⟨S.vars, S.mem, put_rel S.tmps _ (.tup .nil), by rw [put_defers]; exact S.defs⟩

/-- what is left behind -/
def Post (P : Program) (gs : Prm) (N0 n0 : Nat) (ρ : Env) (w : World) (st' : St) (a' : Act) (w' : World) : Prop :=
  ∃ ρ', Mov N0 (· < n0) ρ w ρ' w' ∧ Stt P gs N0 ρ' st' a' w'

def AExit.exit' : AExit → Exit
  | .normal => .normal
  | .exit id => .exit id
  | .ret => .ret

def PostC (P : Program) (gs : Prm) (N0 n0 : Nat) (ρ : Env) (w : World) (x : AExit) (st' : St) : Exit → Act → World → Prop :=
  fun e a' w' => e = x.exit' ∧ Post P gs N0 n0 ρ w st' a' w'

theorem PostC.panic {n0 : Nat} {x : AExit} {st' : St} {c : List PanicEntry} {a' : Act} {w' : World} (h : PostC P gs N0 n0 ρ w x st' (.panic c) a' w') : False := by
  obtain ⟨h, _⟩ := h
  cases x <;> cases h

/-- no number is given twice -/
structure Mono (r : Rec) : Prop where
  code : ∀ pl c st x st', r.code pl c st = some (x, st') → st.h.next ≤ st'.h.next
  ops : ∀ dm ops is st st', r.ops dm ops is st = some st' → st.h.next ≤ st'.h.next
  ph1 : ∀ ops base h0 K p st st', r.ph1 ops base h0 K p st = some st' → st.h.next ≤ st'.h.next
  call : ∀ f as h v h', r.call f as h = some (v, h') → h.next ≤ h'.next
  calld : ∀ f as h h', r.calld f as h = some h' → h.next ≤ h'.next

theorem doOp_mono {r : Rec} (hm : Mono r) {dm : Bool} {ops : Array Oper} {o : Oper} {st st1 : St} (hd : doOp P gs r dm ops o nb st = some st1) : st.h.next ≤ st1.h.next := by
  unfold doOp at hd
  split at hd
  · simp only [Option.bind_eq_some_iff] at hd
    obtain ⟨⟨n, h1⟩, hop, hd⟩ := hd
    cases n with
    | value v => cases hd; exact Nat.le_refl _
    | skip => cases hd; exact Nat.le_refl _
    | defer x => cases hd; exact Nat.le_refl _
    | recover =>
      cases dm
      · cases hd
      · cases hd; exact Nat.le_refl _
    | enter f as =>
      simp only [afterOp, Option.map_eq_some_iff] at hd
      obtain ⟨⟨v, h2⟩, hcall, hd⟩ := hd
      cases hd
      have := hm.call _ _ _ _ _ hcall
      exact this
  · cases hd; exact Nat.le_refl _

theorem opsF_mono {r : Rec} (hm : Mono r) {dm : Bool} {ops : Array Oper} {is : List Nat} {st st' : St} (h : opsF P gs r dm ops is st = some st') : st.h.next ≤ st'.h.next := by
  cases is with
  | nil => simp only [opsF, Option.some.injEq] at h; subst h; exact Nat.le_refl _
  | cons i is =>
    simp only [opsF] at h
    split at h
    · exact hm.ops _ _ _ _ _ h
    · simp only [Option.bind_eq_some_iff] at h
      obtain ⟨st1, hd, h⟩ := h
      have h1 := doOp_mono hm hd
      have h2 := hm.ops _ _ _ _ _ h
      have h3 : st.h.next ≤ (bump st).h.next := Nat.le_succ _
      omega

theorem pureOp_mono {ops : Array Oper} {o : Oper} {st st1 : St} (h : pureOp P gs ops o st = some st1) : st1.h = st.h := by
  unfold pureOp at h
  split at h
  · simp only [Option.map_eq_some_iff] at h
    obtain ⟨v, _, rfl⟩ := h
    rfl
  · cases h; rfl

theorem phase0_mem {ops : Array Oper} : ∀ {p : Plan} {K : List (Nat × Nat × Nat × Nat)} {st : St} {q : Plan × List (Nat × Nat × Nat × Nat) × St}, phase0 P gs ops p K st = some q → q.2.2.h = st.h
  | .take i k, K, st, q, h => by
    unfold phase0 at h
    split at h
    · split at h
      · simp only [Option.bind_eq_some_iff] at h
        obtain ⟨st1, h1, h⟩ := h
        rw [phase0_mem h, pureOp_mono h1]
      · split at h
        · simp only [Option.bind_eq_some_iff] at h
          obtain ⟨p, _, b, _, v, _, h⟩ := h
          rw [phase0_mem h]
        · rw [phase0_mem h]
        · cases h
    · cases h
  | .stuck, K, st, q, h => by simp [phase0] at h; subst h; rfl
  | .done, K, st, q, h => by simp [phase0] at h; subst h; rfl
  | .none, K, st, q, h => by simp [phase0] at h; subst h; rfl
  | .br _ _ _, K, st, q, h => by simp [phase0] at h; subst h; rfl

theorem brF_mono {r : Rec} (hm : Mono r) {ops : Array Oper} {base : Nat} {h0 : Heap} {K : List (Nat × Nat × Nat × Nat)} {i : Nat} {k : Plan} {st st' : St} (h : brF P gs r ops base h0 K i k st = some st') : st.h.next ≤ st'.h.next := by
  unfold brF at h
  split at h
  · simp only [Option.bind_eq_some_iff] at h
    obtain ⟨s1, h1, h⟩ := h
    split at h
    · exact Nat.le_trans (doOp_mono hm h1) (hm.ph1 _ _ _ _ _ _ _ h)
    · cases h
  · cases h

theorem ph1F_mono {r : Rec} (hm : Mono r) {ops : Array Oper} {base : Nat} {h0 : Heap} {K : List (Nat × Nat × Nat × Nat)} {p : Plan} {st st' : St} (h : ph1F P gs r ops base h0 K p st = some st') : st.h.next ≤ st'.h.next := by
  unfold ph1F at h
  split at h
  · cases h; exact Nat.le_refl _
  · split at h
    · split at h
      · simp only [Option.bind_eq_some_iff] at h
        obtain ⟨s1, h1, h⟩ := h
        have := hm.ph1 _ _ _ _ _ _ _ h
        rw [pureOp_mono h1] at this
        exact this
      · cases h
    · cases h
  · exact brF_mono hm h
  · simp only [Option.bind_eq_some_iff] at h
    obtain ⟨f, h1, g, _, h⟩ := h
    split at h
    · cases h; exact brF_mono hm h1
    · cases h
  · cases h

theorem drawn_mono {r : Rec} (hm : Mono r) {p : Plan} {ops : Array Oper} {st st' : St} (h : drawn P gs r p ops st = some st') : st.h.next ≤ st'.h.next := by
  simp only [drawn, Option.bind_eq_some_iff] at h
  obtain ⟨q, h0, h⟩ := h
  have := hm.ph1 _ _ _ _ _ _ _ h
  have e := phase0_mem h0
  rw [← e]
  simp only at this
  omega

theorem codeF_mono {r : Rec} (hm : Mono r) {pl : Nat → Plan} {c : Code} {st st' : St} {x : AExit} (h : codeF P gs r pl c st = some (x, st')) : st.h.next ≤ st'.h.next := by
  have thn : ∀ {f : St → Option (AExit × St)} {y : AExit × St} {st' : St} {x : AExit}, (∀ s x s', f s = some (x, s') → s.h.next ≤ s'.h.next) → thenA f y = some (x, st') → y.2.h.next ≤ st'.h.next := fun hf h => by
    unfold thenA at h
    split at h
    · exact hf _ _ _ h
    · cases h; exact Nat.le_refl _
  unfold codeF at h
  split at h
  · cases h; exact Nat.le_refl _
  · cases h; exact Nat.le_refl _
  · cases h; exact Nat.le_refl _
  · cases h; exact Nat.le_refl _
  · split at h
    · simp only [Option.map_eq_some_iff] at h
      obtain ⟨s, h, he⟩ := h
      cases he
      exact drawn_mono hm h
    · simp only [Option.map_eq_some_iff] at h
      obtain ⟨s, h, he⟩ := h
      cases he
      exact hm.ops _ _ _ _ _ h
  · simp only [Option.bind_eq_some_iff] at h
    obtain ⟨y, h1, h⟩ := h
    exact Nat.le_trans (hm.code _ _ _ _ _ h1) (thn (fun s x s' => hm.code _ _ _ _ _) h)
  · simp only [Option.bind_eq_some_iff] at h
    obtain ⟨v, _, h⟩ := h
    unfold condA at h
    split at h
    · exact hm.code _ _ _ _ _ h
    · exact hm.code _ _ _ _ _ h
    · cases h
  · simp only [Option.map_eq_some_iff] at h
    obtain ⟨y, h1, h⟩ := h
    have := hm.code _ _ _ _ _ h1
    unfold blockA at h
    split at h
    · split at h <;> cases h <;> exact this
    · cases h; exact this
  · simp only [Option.bind_eq_some_iff] at h
    obtain ⟨y, h1, h⟩ := h
    exact Nat.le_trans (hm.code _ _ _ _ _ h1) (thn (fun s x s' => hm.code _ _ _ _ _) h)
  · exact hm.code _ _ _ _ _ h
  · cases h

theorem codeD_mono {r : Rec} (hm : Mono r) {pl : Nat → Plan} : ∀ {c : Code} {st st' : St} {x : AExit}, codeD P gs r pl c st = some (x, st') → st.h.next ≤ st'.h.next := by
  intro c
  induction c with
  | seq a b iha ihb =>
    intro st st' x h
    simp only [codeD, Option.bind_eq_some_iff] at h
    obtain ⟨y, h1, h⟩ := h
    have := iha h1
    split at h
    · exact Nat.le_trans this (ihb h)
    · cases h; exact this
  | region id ops draw =>
    intro st st' x h
    simp only [codeD] at h
    split at h
    · simp only [Option.map_eq_some_iff] at h
      obtain ⟨s, h, he⟩ := h
      cases he
      exact drawn_mono hm h
    · simp only [Option.map_eq_some_iff] at h
      obtain ⟨s, h, he⟩ := h
      cases he
      exact hm.ops _ _ _ _ _ h
  | _ => intro st st' x h; exact hm.code _ _ _ _ _ (by simpa [codeD] using h)

theorem runDefers_mono {r : Rec} (hm : Mono r) : ∀ {ds : List ADef} {h h' : Heap}, runDefers P gs r ds h = some h' → h.next ≤ h'.next
  | [], h, h', e => by simp [runDefers] at e; subst e; exact Nat.le_refl _
  | d :: ds, h, h', e => by
    simp only [runDefers, Option.bind_eq_some_iff] at e
    obtain ⟨y, h1, e⟩ := e
    split at e
    · rename_i f as h1'
      simp only [Option.bind_eq_some_iff] at e
      obtain ⟨h2, hc, e⟩ := e
      have k1 := hm.calld _ _ _ _ hc
      have k2 := runDefers_mono hm e
      have k0 : h1'.next = h.next := by
        unfold fnA at h1
        split at h1
        · unfold enterA at h1
          split at h1
          · split at h1
            · cases h1; rfl
            · split at h1 <;> cases h1
          · cases h1
        · cases h1
      omega
    · cases e

theorem callF_mono {r : Rec} (hm : Mono r) {f : Nat} {as : List AVal} {h h' : Heap} {v : AVal} (e : callF P gs r f as h = some (v, h')) : h.next ≤ h'.next := by
  unfold callF at e
  split at e
  · simp only [Option.bind_eq_some_iff] at e
    obtain ⟨c, _, x, hc, e⟩ := e
    split at e
    · simp only [Option.bind_eq_some_iff, Option.map_eq_some_iff] at e
      obtain ⟨h1, hd, vs, _, he⟩ := e
      cases he
      exact Nat.le_trans (hm.code _ _ _ _ _ hc) (runDefers_mono hm hd)
    · cases e
  · cases e

theorem callD_mono {r : Rec} (hm : Mono r) {f : Nat} {as : List AVal} {h h' : Heap} (e : callD P gs r f as h = some h') : h.next ≤ h'.next := by
  unfold callD at e
  split at e
  · simp only [Option.bind_eq_some_iff] at e
    obtain ⟨c, _, x, hc, e⟩ := e
    split at e
    · simp only [Option.map_eq_some_iff] at e
      obtain ⟨_, _, rfl⟩ := e
      exact codeD_mono hm hc
    · cases e
  · cases e

theorem level_mono (n : Nat) : Mono (level P gs n) := by
  induction n with
  | zero => exact ⟨fun _ _ _ _ _ h => (by cases h), fun _ _ _ _ _ h => (by cases h), fun _ _ _ _ _ _ _ h => (by cases h), fun _ _ _ _ _ h => (by cases h), fun _ _ _ _ h => (by cases h)⟩
  | succ n ih => exact ⟨fun pl c st _ _ h => codeF_mono ih ((codeC_eq P gs (level P gs n) pl c st).symm.trans h), fun _ _ _ _ _ h => opsF_mono ih h, fun _ _ _ _ _ _ _ h => ph1F_mono ih h, fun _ _ _ _ _ h => callF_mono ih h, fun _ _ _ _ h => callD_mono ih h⟩

end Go.Proofs.YtdgpdmbfhehpfaaGreatDoor.Ev
