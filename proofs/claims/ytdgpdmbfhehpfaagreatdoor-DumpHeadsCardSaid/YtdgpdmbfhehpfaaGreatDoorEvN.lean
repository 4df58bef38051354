/-
  The evaluator is sound: regions.
-/
import Derived.Test.YtdgpdmbfhehpfaaGreatDoorEvM
set_option linter.all false
namespace Go.Proofs.YtdgpdmbfhehpfaaGreatDoor.Ev
open Go.RowKit

variable {gs : Prm} {P : Program} {N0 : Nat} {ρ : Env} {h h' : Heap} {w : World} {nb : Nat}

/-- operations one by one -/
def OpsOk (P : Program) (gs : Prm) (N0 : Nat) (r : Rec) : Prop :=
  ∀ ops is st st', r.ops false ops is st = some st' → ∀ ρ a w, Stt P gs N0 ρ st a w →
    ∀ (n0 : Nat) (ρ0 : Env) (w0 : World) (Q : Exit → Act → World → Prop), n0 ≤ st.h.next → Mov N0 (· < n0) ρ0 w0 ρ w → (∀ a' w', Post P gs N0 n0 ρ0 w0 st' a' w' → Q .normal a' w') → wpOps P ops Q is a w

theorem opsF_ok (hP : PrmOk P gs) {r : Rec} (hm : Mono r) (hr : CallOk P gs N0 r) (ho : OpsOk P gs N0 r) {ops : Array Oper} {is : List Nat} {st st' : St} (h : opsF P gs r false ops is st = some st') {a : Act} (S : Stt P gs N0 ρ st a w)
    (n0 : Nat) (ρ0 : Env) (w0 : World) (Q : Exit → Act → World → Prop) (hn : n0 ≤ st.h.next) (M : Mov N0 (· < n0) ρ0 w0 ρ w) (hQ : ∀ a' w', Post P gs N0 n0 ρ0 w0 st' a' w' → Q .normal a' w') : wpOps P ops Q is a w := by
  cases is with
  | nil =>
    simp only [opsF, Option.some.injEq] at h
    subst h
    exact hQ _ _ ⟨ρ, M, S⟩
  | cons i is =>
    simp only [opsF] at h
    rw [wpOps_cons]
    split at h
    · rename_i hi
      unfold wpOp
      simp only [hi]
      exact ho ops is st st' h ρ a w S n0 ρ0 w0 Q hn M hQ
    · rename_i o hi
      simp only [Option.bind_eq_some_iff] at h
      obtain ⟨st1, hd, h⟩ := h
      have hfree : ρ st.h.next = none := S.mem.fresh _ (Nat.le_refl _)
      have S' : Stt P gs N0 ρ (bump st) a w := ⟨S.vars, S.mem.more (Nat.le_succ _), S.tmps, S.defs⟩
      have hle := doOp_mono hm hd
      have hle' : st.h.next + 1 ≤ st1.h.next := hle
      refine doOp_ok (nb := st.h.next) hP hr hi hd S' (Nat.lt_succ_self _) hfree Q _ ?_
      intro ρ' a' w' M1 S1
      refine ho ops is st1 st' h ρ' a' w' S1 n0 ρ0 w0 Q (by omega) (M.trans (M1.weak fun b hb => ?_)) hQ
      have hb' : b < n0 := hb
      exact ⟨Nat.lt_of_lt_of_le hb' (Nat.le_trans hn (Nat.le_succ _)), by omega⟩

/-! ### whatever order: a law like the kit's 'wpAnyH_first', but each reading has a condition of its own, and an operation that waits for the reading need not keep it -/
def wpAnyG (P : Program) (ops : Array Oper) (Q : Exit → Act → World → Prop) (lt : Nat → Nat → Bool) (S : Nat → World → Prop) : Nat → Array Bool → Act → World → Prop
  | 0, listed, a, w => Region.ready .any ops listed = [] ∧ Q .normal a w
  | fuel + 1, listed, a, w =>
    (Region.ready .any ops listed = [] → Q .normal a w) ∧
    ∀ j ∈ Region.ready .any ops listed, wpOp P ops Q j (fun a' w' => (w' = w ∨ ∀ i, lt i j = false → S i w') ∧ wpAnyG P ops Q lt S fuel (listed.setIfInBounds j true) a' w') a w

theorem wpAny_of_G {ops : Array Oper} {Q : Exit → Act → World → Prop} {lt : Nat → Nat → Bool} {S : Nat → World → Prop} : ∀ (fuel : Nat) (listed : Array Bool) (a : Act) (w : World), wpAnyG P ops Q lt S fuel listed a w → wpAny P .any ops Q fuel listed a w
  | 0, _, _, _, h => h
  | fuel + 1, _, _, _, h => ⟨h.1, fun i hi => wpOp_mono (fun a' w' h' => wpAny_of_G fuel _ a' w' h'.2) (h.2 i hi)⟩

theorem wpAnyG_first {ops : Array Oper} {Q : Exit → Act → World → Prop} {lt : Nat → Nat → Bool} {S : Nat → World → Prop} {i : Nat} {oi : Oper} {v : Value} (hi : ops[i]? = some oi) (hsel : ∀ (j : Nat) (o : Oper) cs b, ops[j]? = some o → o.op ≠ .select cs b)
    (hQ : ∀ c a w, ¬ Q (.panic c) a w)
    (hlt : (∀ w, S i w) ∨ ∀ j oj, ops[j]? = some oj → lt i j = true → ∃ e ∈ oj.after, Region.binds .any e = true ∧ (e.on = i ∨ lt i e.on = true)) :
    ∀ (fuel : Nat) (listed : Array Bool) (a : Act) (w : World),
      ((∀ w, S i w) ∨ ∀ k, lt i k = true → listed.getD k false = false) →
      (∀ j oj, ops[j]? = some oj → j ≠ i → listed.getD j true = false → (∀ e ∈ oj.after, Region.binds .any e = true → e.on ≠ i) → oi.apart ops oj = true) →
      i ∈ Region.ready .any ops listed → YieldsIf P ops (S i) oi v a → S i w →
      wpAnyG P ops Q lt S fuel (listed.setIfInBounds i true) (a.put oi.dst v) w → wpAnyG P ops Q lt S (fuel + 1) listed a w := by
  intro fuel
  induction fuel with
  | zero =>
    intro listed a w _ _ hr hy hS H
    refine ⟨fun h => (by rw [h] at hr; cases hr), fun j hj => ?_⟩
    by_cases hji : j = i
    · subst hji; exact hy.wpOp hi hS ⟨.inl rfl, H⟩
    · have := ready_mono hj hji
      rw [H.1] at this
      cases this
  | succ fuel ih =>
    intro listed a w hlate hfree hr hy hS H
    refine ⟨fun h => (by rw [h] at hr; cases hr), fun j hj => ?_⟩
    by_cases hji : j = i
    · subst hji; exact hy.wpOp hi hS ⟨.inl rfl, H⟩
    · have h1 := H.2 j (ready_mono hj hji)
      obtain ⟨hjun, oj, hoj, hall⟩ := mem_ready.1 hj
      have hiun : listed.getD i false = false := by
        have h0 := (mem_ready.1 hr).1
        rcases Nat.lt_or_ge i listed.size with h' | h'
        · simp [h'] at h0 ⊢; exact h0
        · simp [Array.getElem?_eq_none h'] at h0
      have hnot : ∀ e ∈ oj.after, Region.binds .any e = true → e.on ≠ i := fun e he hb heq => by
        have h1 := hall e he hb
        rw [heq, hiun] at h1
        cases h1
      have hltj : (∀ w, S i w) ∨ lt i j = false := by
        rcases hlt with h | hlt
        · exact .inl h
        · rcases hlate with h | hlate
          · exact .inl h
          · right
            cases hl : lt i j with
            | false => rfl
            | true =>
              obtain ⟨e, he, hb, h2 | h2⟩ := hlt j oj hoj hl
              · exact absurd h2 (hnot e he hb)
              · have h3 := hall e he hb
                rw [hlate _ h2] at h3
                cases h3
      have h2 := wpOp_putIf hoj (hfree j oj hoj hji hjun hnot) (fun cs b => hsel i oi cs b hi) (fun cs b => hsel j oj cs b hoj) (fun c a w hq => (hQ _ _ _ hq).elim) hy h1
      have hfree' : ∀ k ok, ops[k]? = some ok → k ≠ i → (listed.setIfInBounds j true).getD k true = false →
          (∀ e ∈ ok.after, Region.binds .any e = true → e.on ≠ i) → oi.apart ops ok = true := fun k ok hk hki hun hno => by
        refine hfree k ok hk hki ?_ hno
        by_cases hjk : j = k
        · subst hjk; exact hjun
        · rw [getD_set_ne true hjk] at hun; exact hun
      have hlate' : (∀ w, S i w) ∨ ∀ k, lt i k = true → (listed.setIfInBounds j true).getD k false = false := by
        rcases hltj with h | hltj
        · exact .inl h
        · rcases hlate with h | hlate
          · exact .inl h
          · right
            intro k hk
            have hjk : j ≠ k := fun e => by subst e; rw [hltj] at hk; cases hk
            rw [getD_set_ne false hjk]; exact hlate k hk
      refine wpOp_mono (fun a' w' h3 => ⟨h3.2.1, ih (listed.setIfInBounds j true) a' w' hlate' hfree' (ready_mono hr (Ne.symm hji)) h3.1 ?_ ?_⟩) h2
      · rcases h3.2.1 with rfl | h4
        · exact hS
        · rcases hltj with h | h
          · exact h _
          · exact h4 i h
      · rw [Array.setIfInBounds_comm _ _ hji]
        exact h3.2.2

end Go.Proofs.YtdgpdmbfhehpfaaGreatDoor.Ev
