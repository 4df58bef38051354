/-
  The evaluator is sound: code, calls, all levels.
-/
import Derived.Test.YtdgpdmbfhehpfaaGreatDoorEvR
import Derived.Scope
set_option linter.all false
namespace Go.Proofs.YtdgpdmbfhehpfaaGreatDoor.Ev
open Go.RowKit

variable {gs : Prm} {P : Program} {N0 : Nat} {ρ : Env} {h h' : Heap} {w : World} {nb : Nat}

/-- so many rounds of a loop at most -/
def Rd (P : Program) (c : Code) (Q : Exit → Act → World → Prop) : Nat → Act → World → Prop
  | 0, _, _ => False
  | n+1, a, w => c.wp P (Exit.then (Rd P c Q n) Q) a w

theorem exists_min {p : Nat → Prop} (h : ∃ n, p n) : ∃ n, p n ∧ ∀ m, p m → n ≤ m := by
  obtain ⟨n, hn⟩ := h
  induction n using Nat.strongRecOn with
  | _ n ih =>
    by_cases hx : ∃ m, m < n ∧ p m
    · obtain ⟨m, hm, hp⟩ := hx
      exact ih m hm hp
    · exact ⟨n, hn, fun m hm => Nat.le_of_not_lt fun hlt => hx ⟨m, hlt, hm⟩⟩

open Classical in
theorem wp_rounds {c : Code} {Q : Exit → Act → World → Prop} {n : Nat} {a : Act} {w : World} (h : Rd P c Q n a w) : (Code.loop c).wp P Q a w := by
  refine wp_loop (fun a w => ∃ n, Rd P c Q n a w) (fun a w => if h : ∃ n, Rd P c Q n a w then Classical.choose (exists_min h) else 0) ⟨n, h⟩ ?_
  intro a w hI
  have hmin := Classical.choose_spec (exists_min hI)
  simp only [hI, dif_pos]
  generalize Classical.choose (exists_min hI) = m at hmin
  obtain ⟨hm, _⟩ := hmin
  cases m with
  | zero => exact hm.elim
  | succ m =>
    refine wp_mono hm ?_
    intro e a' w' hq
    cases e with
    | normal =>
      have hI' : ∃ n, Rd P c Q n a' w' := ⟨m, hq⟩
      refine ⟨hI', ?_⟩
      simp only [hI', dif_pos]
      exact Nat.lt_succ_of_le ((Classical.choose_spec (exists_min hI')).2 m hq)
    | _ => exact hq

def cwp (P : Program) (n : Nat) (c : Code) (Q : Exit → Act → World → Prop) (a : Act) (w : World) : Prop :=
  match c with
  | .loop b => Rd P b Q n a w
  | c => c.wp P Q a w

theorem cwp_wp {n : Nat} {c : Code} {Q : Exit → Act → World → Prop} {a : Act} {w : World} (h : cwp P n c Q a w) : c.wp P Q a w := by
  unfold cwp at h
  split at h
  · exact wp_rounds h
  · exact h

def regionsOk (P : Program) (pl : Nat → Plan) : Code → Bool
  | .region id ops true => valid P ops (pl id) true (Array.replicate ops.size false) []
  | .seq a b => regionsOk P pl a && regionsOk P pl b
  | .cond _ a b => regionsOk P pl a && regionsOk P pl b
  | .block _ c => regionsOk P pl c
  | .loop c => regionsOk P pl c
  | .scope c => regionsOk P pl c
  | _ => true

def CodeOk (P : Program) (gs : Prm) (N0 : Nat) (n : Nat) (r : Rec) : Prop :=
  ∀ pl c st x st', r.code pl c st = some (x, st') → regionsOk P pl c = true → ∀ ρ a w, Stt P gs N0 ρ st a w →
    ∀ (n0 : Nat) (ρs : Env) (ws : World) (Q : Exit → Act → World → Prop), n0 ≤ st.h.next → Mov N0 (· < n0) ρs ws ρ w → (∀ a' w', Post P gs N0 n0 ρs ws st' a' w' → Q x.exit' a' w') → (∀ c a w, ¬ Q (.panic c) a w) → (∀ l a w, ¬ Q (.goto l) a w) → cwp P n c Q a w

theorem codeF_ok (hP : PrmOk P gs) (hmx : P.follows .mixedOrders = true) {n : Nat} {r : Rec} (hm : Mono r) (ho : OpsOk P gs N0 r) (hp : Ph1Ok P gs N0 r) (hc : CodeOk P gs N0 n r) : CodeOk P gs N0 (n + 1) (levelF P gs r) := by
  intro pl c st x st' h hreg ρ a w S n0 ρs ws Q hn M hQ hQp hQg
  replace h := (codeC_eq P gs r pl c st).symm.trans h
  unfold codeF at h
  split at h
  · cases h; exact wp_skip (hQ _ _ ⟨ρ, M, S⟩)
  · cases h; exact wp_label (hQ _ _ ⟨ρ, M, S⟩)
  · cases h; exact wp_exit (hQ _ _ ⟨ρ, M, S⟩)
  · cases h; exact wp_ret (hQ _ _ ⟨ρ, M, S⟩)
  · rename_i id ops draw
    split at h
    · simp only [Option.map_eq_some_iff] at h
      obtain ⟨s, h, he⟩ := h
      cases he
      exact drawn_ok hP hmx hp h hreg S id n0 ρs ws Q hn M hQ hQp
    · simp only [Option.map_eq_some_iff] at h
      obtain ⟨s, h, he⟩ := h
      cases he
      exact wp_region (ho ops _ st _ h ρ a w S n0 ρs ws Q hn M hQ)
  · rename_i ca cb
    simp only [regionsOk, Bool.and_eq_true] at hreg
    simp only [Option.bind_eq_some_iff] at h
    obtain ⟨⟨y, s1⟩, h1, h⟩ := h
    refine wp_seq (cwp_wp (hc pl ca st y s1 h1 hreg.1 ρ a w S n0 ρs ws _ hn M ?_ (fun c a w hq => hQp c a w hq) (fun c a w hq => hQg c a w hq)))
    intro a' w' hpost
    unfold thenA at h
    split at h
    · rename_i heq
      cases heq
      obtain ⟨ρ', M', S'⟩ := hpost
      have := hm.code _ _ _ _ _ h1
      exact cwp_wp (hc pl cb s1 x st' h hreg.2 ρ' a' w' S' n0 ρs ws Q (by omega) M' hQ hQp hQg)
    · rename_i hno
      cases h
      have := hQ a' w' hpost
      cases x with
      | normal => exact absurd rfl (hno _)
      | exit id => exact this
      | ret => exact this
  · rename_i op ca cb
    simp only [regionsOk, Bool.and_eq_true] at hreg
    simp only [Option.bind_eq_some_iff] at h
    obtain ⟨v, hv, h⟩ := h
    have hr := ev_ok S.vars S.tmps hv
    generalize hX : a.eval op = X at hr
    unfold condA at h
    split at h
    · cases hr
      exact wp_cond hX (cwp_wp (hc pl ca st x st' h hreg.1 ρ a w S n0 ρs ws Q hn M hQ hQp hQg))
    · cases hr
      exact wp_cond hX (cwp_wp (hc pl cb st x st' h hreg.2 ρ a w S n0 ρs ws Q hn M hQ hQp hQg))
    · cases h
  · rename_i id cb
    simp only [regionsOk] at hreg
    simp only [Option.map_eq_some_iff] at h
    obtain ⟨⟨y, s1⟩, h1, h⟩ := h
    refine wp_block (cwp_wp (hc pl cb st y s1 h1 hreg ρ a w S n0 ρs ws _ hn M ?_ (fun c a w hq => hQp c a w hq) (fun c a w hq => hQg c a w hq)))
    intro a' w' hpost
    unfold blockA at h
    split at h
    · rename_i id' s heq
      cases heq
      split at h
      · rename_i hid
        cases h
        have hid := Nat.eq_of_beq_eq_true hid
        simp only [AExit.exit', Exit.inBlock, hid, if_true]
        exact hQ a' w' hpost
      · rename_i hid
        cases h
        have hne : id' ≠ id := fun e => by subst e; simp at hid
        simp only [AExit.exit', Exit.inBlock, hne, if_false]
        exact hQ a' w' hpost
    · rename_i hno
      cases h
      have := hQ a' w' hpost
      cases x with
      | normal => exact this
      | exit id' => exact absurd rfl (hno _ _)
      | ret => exact this
  · rename_i cb
    simp only [regionsOk] at hreg
    simp only [Option.bind_eq_some_iff] at h
    obtain ⟨⟨y, s1⟩, h1, h⟩ := h
    show Rd P cb Q (n + 1) a w
    refine cwp_wp (hc pl cb st y s1 h1 hreg ρ a w S n0 ρs ws _ hn M ?_ (fun c a w hq => hQp c a w hq) (fun c a w hq => hQg c a w hq))
    intro a' w' hpost
    unfold thenA at h
    split at h
    · rename_i heq
      cases heq
      obtain ⟨ρ', M', S'⟩ := hpost
      have := hm.code _ _ _ _ _ h1
      exact hc pl (.loop cb) s1 x st' h (by simpa [regionsOk] using hreg) ρ' a' w' S' n0 ρs ws Q (by omega) M' hQ hQp hQg
    · rename_i hno
      cases h
      have := hQ a' w' hpost
      cases x with
      | normal => exact absurd rfl (hno _)
      | exit id => exact this
      | ret => exact this
  · rename_i cb
    simp only [regionsOk] at hreg
    refine wp_scope_straight (cwp_wp (hc pl cb st x st' h hreg ρ a w S n0 ρs ws _ hn M ?_ (fun c a w hq => hQp c a w hq) (fun c a w hq => hq)))
    intro a' w' hpost
    have := hQ a' w' hpost
    cases x <;> exact this
  · cases h

end Go.Proofs.YtdgpdmbfhehpfaaGreatDoor.Ev
