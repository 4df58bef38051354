/-
  The evaluator is sound: drawn regions (3), code.
-/
import Derived.Test.YtdgpdmbfhehpfaaGreatDoorEvQ
set_option linter.all false
namespace Go.Proofs.YtdgpdmbfhehpfaaGreatDoor.Ev
open Go.RowKit

variable {gs : Prm} {P : Program} {N0 : Nat} {ρ : Env} {h h' : Heap} {w : World} {nb : Nat}

theorem phase0_sub {ops : Array Oper} : ∀ {p : Plan} {K : List (Nat × Nat × Nat × Nat)} {st : St} {q : Plan × List (Nat × Nat × Nat × Nat) × St}, phase0 P gs ops p K st = some q → ∀ x ∈ K, x ∈ q.2.1
  | .take i k, K, st, q, h, x, hx => by
    unfold phase0 at h
    split at h
    · split at h
      · simp only [Option.bind_eq_some_iff] at h
        obtain ⟨st1, h1, h⟩ := h
        exact phase0_sub h x hx
      · split at h
        · simp only [Option.bind_eq_some_iff] at h
          obtain ⟨p, _, b, _, v, _, h⟩ := h
          exact phase0_sub h x (List.mem_cons_of_mem _ hx)
        · exact phase0_sub h x hx
        · cases h
    · cases h
  | .stuck, K, st, q, h, x, hx => by simp [phase0] at h; subst h; exact hx
  | .done, K, st, q, h, x, hx => by simp [phase0] at h; subst h; exact hx
  | .none, K, st, q, h, x, hx => by simp [phase0] at h; subst h; exact hx
  | .br _ _ _, K, st, q, h, x, hx => by simp [phase0] at h; subst h; exact hx

/-- the first phase -/
theorem phase0_ok {ops : Array Oper} {Q : Exit → Act → World → Prop} (hQp : ∀ c a w, ¬ Q (.panic c) a w) : ∀ {p : Plan} {K : List (Nat × Nat × Nat × Nat)} {st : St} {q : Plan × List (Nat × Nat × Nat × Nat) × St}, phase0 P gs ops p K st = some q →
    ∀ (listed : Array Bool) (a : Act), valid P ops p true listed [] = true → listed.size = ops.size → Stt P gs N0 ρ st a w → (∀ x ∈ K, listed.getD x.1 false = true) →
    (∀ (listed1 : Array Bool) (a1 : Act), valid P ops q.1 false listed1 [] = true → listed1.size = ops.size → Stt P gs N0 ρ q.2.2 a1 w → (∀ x ∈ q.2.1, listed1.getD x.1 false = true) →
      ∀ fuel, left listed1.toList ≤ fuel → wpAnyG P ops Q (lt ops) (Sk q.2.1 ρ w) fuel listed1 a1 w) →
    ∀ fuel, left listed.toList ≤ fuel → wpAnyG P ops Q (lt ops) (Sk q.2.1 ρ w) fuel listed a w
  | .take i k, K, st, q, h, listed, a, hv, hsz, S, hK, next, fuel, hf => by
    obtain ⟨_, hri, hfree, hsel, hlate, hvk⟩ := valid_take hv
    have hlate := hlate.resolve_left (by simp)
    have hleft := ready_left hri
    obtain ⟨fuel, rfl⟩ : ∃ f, fuel = f + 1 := ⟨fuel - 1, by omega⟩
    have hlt := getD_lt (mem_ready.1 hri).1
    have hset : (listed.setIfInBounds i true).getD i false = true := by simp [hlt]
    have hSw : Sk q.2.1 ρ w i w := fun b o n _ B c _ t _ => rfl
    unfold phase0 at h
    split at h
    · rename_i o ho
      split at h
      · rename_i hpure
        simp only [Option.bind_eq_some_iff] at h
        obtain ⟨st1, h1, h⟩ := h
        obtain ⟨V, hy, S1⟩ := pureOp_ok h1 S
        exact wpAnyG_first (lt := lt ops) ho (Region.noSelect_spec hsel) hQp (.inr fun j oj hj hl => waits_step hj hl) fuel listed a w (.inr (lateFree_ok hsz hlate)) (Region.free_spec ho hfree) hri (hy _) hSw
          (phase0_ok hQp h _ _ hvk (by simpa using hsz) S1 (fun x hx => getD_set_true (hK x hx)) next fuel (by omega))
      · split at h
        · rename_i t x hw hop
          simp only [Option.bind_eq_some_iff] at h
          obtain ⟨p, hp, b, hb, v, hvv, h⟩ := h
          have hpr := ev_ok S.vars S.tmps hp
          obtain ⟨bb, oo, nn⟩ := b
          obtain ⟨u, hu, hrun⟩ := load_same S.mem hpr hb hvv
          have hy : YieldsIf P ops (Sk q.2.1 ρ w i) o u a := by
            rw [yielded_eq S.tmps] at hw
            refine .inl ⟨hw, fun w' hS => ?_⟩
            have := hrun w' (hS bb oo nn (phase0_sub h _ (List.mem_cons_self ..)))
            simp only [execOp, hop, Sem.run_bind, this, Result.andThen_ok, Sem.run_pure]
          have S1 : Stt P gs N0 ρ ⟨putT st.ts o.dst v, st.ds, st.h⟩ (a.put o.dst u) w := ⟨S.vars, S.mem, put_rel S.tmps _ hu, by rw [put_defers]; exact S.defs⟩
          refine wpAnyG_first (lt := lt ops) ho (Region.noSelect_spec hsel) hQp (.inr fun j oj hj hl => waits_step hj hl) fuel listed a w (.inr (lateFree_ok hsz hlate)) (Region.free_spec ho hfree) hri hy hSw
            (phase0_ok hQp h _ _ hvk (by simpa using hsz) S1 (fun x hx => ?_) next fuel (by omega))
          rcases List.mem_cons.1 hx with rfl | hx
          · exact hset
          · exact getD_set_true (hK x hx)
        · rename_i hw
          have hy : YieldsIf P ops (Sk q.2.1 ρ w i) o undef a := by
            rw [yielded_eq S.tmps] at hw
            exact .inr ⟨hw, rfl⟩
          have S1 : Stt P gs N0 ρ ⟨putT st.ts o.dst .undef, st.ds, st.h⟩ (a.put o.dst undef) w := ⟨S.vars, S.mem, put_rel S.tmps _ (.tup .nil), by rw [put_defers]; exact S.defs⟩
          exact wpAnyG_first (lt := lt ops) ho (Region.noSelect_spec hsel) hQp (.inr fun j oj hj hl => waits_step hj hl) fuel listed a w (.inr (lateFree_ok hsz hlate)) (Region.free_spec ho hfree) hri hy hSw
            (phase0_ok hQp h _ _ hvk (by simpa using hsz) S1 (fun x hx => getD_set_true (hK x hx)) next fuel (by omega))
        · cases h
    · cases h
  | .stuck, K, st, q, h, listed, a, hv, hsz, S, hK, next, fuel, hf => by
    simp only [phase0, Option.some.injEq] at h; subst h
    exact next listed a (by simp [valid]) hsz S hK fuel hf
  | .done, K, st, q, h, listed, a, hv, hsz, S, hK, next, fuel, hf => by
    simp only [phase0, Option.some.injEq] at h; subst h
    exact next listed a (by simpa [valid] using hv) hsz S hK fuel hf
  | .none, K, st, q, h, listed, a, hv, hsz, S, hK, next, fuel, hf => by
    simp only [phase0, Option.some.injEq] at h; subst h
    exact next listed a (by simpa [valid] using hv) hsz S hK fuel hf
  | .br i k r, K, st, q, h, listed, a, hv, hsz, S, hK, next, fuel, hf => by
    simp only [phase0, Option.some.injEq] at h; subst h
    exact next listed a (by unfold valid at hv ⊢; exact hv) hsz S hK fuel hf

theorem left_replicate : ∀ n, left (List.replicate n false) = n
  | 0 => rfl
  | n+1 => by
    have := left_replicate n
    simp [left, List.replicate_succ] at this ⊢

/-- a drawn region -/
theorem drawn_ok (hP : PrmOk P gs) (hmx : P.follows .mixedOrders = true) {r : Rec} (hp : Ph1Ok P gs N0 r) {p : Plan} {ops : Array Oper} {st st' : St} (h : drawn P gs r p ops st = some st') (hv : valid P ops p true (Array.replicate ops.size false) [] = true)
    {a : Act} (S : Stt P gs N0 ρ st a w) (id : Nat) (n0 : Nat) (ρs : Env) (ws : World) (Q : Exit → Act → World → Prop) (hn : n0 ≤ st.h.next) (M : Mov N0 (· < n0) ρs ws ρ w) (hQ : ∀ a' w', Post P gs N0 n0 ρs ws st' a' w' → Q .normal a' w') (hQp : ∀ c a w, ¬ Q (.panic c) a w) :
    (Code.region id ops true).wp P Q a w := by
  simp only [drawn, Option.bind_eq_some_iff] at h
  obtain ⟨q, h0, h⟩ := h
  have Sd : Stt P gs N0 ρ st a w.drew := ⟨S.vars, S.mem.drew, S.tmps, S.defs⟩
  refine wp_region_any hmx (wpAny_of_G (lt := lt ops) (S := Sk q.2.1 ρ w.drew) _ _ _ _ ?_)
  have hmem := phase0_mem h0
  refine phase0_ok hQp h0 (Array.replicate ops.size false) a hv (by simp) Sd (fun x hx => by cases hx) ?_ ops.size (by rw [Array.toList_replicate, left_replicate]; exact Nat.le_refl _)
  intro listed1 a1 hv1 hsz1 S1 hK1 fuel hf
  have S2 : Stt P gs N0 ρ ⟨q.2.2.ts, q.2.2.ds, ⟨q.2.2.h.t, q.2.2.h.next + ops.size⟩⟩ a1 w.drew := ⟨S1.vars, S1.mem.more (Nat.le_add_right _ _), S1.tmps, S1.defs⟩
  refine (hp ops q.2.2.h.next q.2.2.h q.2.1 q.1 _ st' h listed1 [] ρ a1 w.drew ρ w.drew n0 ρs ws Q hv1 hsz1 S2 S1.mem (Env.le_refl _) hK1 ?_ (Nat.le_refl _) (by rw [hmem]; exact hn) M.drew hQ hQp).1 rfl fuel hf
  intro i _
  exact S1.mem.fresh _ (Nat.le_add_right _ _)

end Go.Proofs.YtdgpdmbfhehpfaaGreatDoor.Ev
