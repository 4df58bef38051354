/-
  The evaluator is sound: drawn regions (2).
-/
import Derived.Test.YtdgpdmbfhehpfaaGreatDoorEvO
set_option linter.all false
namespace Go.Proofs.YtdgpdmbfhehpfaaGreatDoor.Ev
open Go.RowKit

variable {gs : Prm} {P : Program} {N0 : Nat} {ρ : Env} {h h' : Heap} {w : World} {nb : Nat}

def Sk (K : List (Nat × Nat × Nat × Nat)) (ρ0 : Env) (w0 : World) (k : Nat) (w' : World) : Prop :=
  ∀ b o n, (k, b, o, n) ∈ K → ∀ B c, ρ0 b = some (B, c) → ∀ t, t < n → w'.cell? ⟨B, ρ0.β b + o + t, none⟩ = w0.cell? ⟨B, ρ0.β b + o + t, none⟩

def lt (ops : Array Oper) (i j : Nat) : Bool := waits ops i ops.size j

theorem rds_len {b o n : Nat} {vs : List AVal} (hr : rds h b o n = some vs) : vs.length = n := by
  unfold rds at hr
  split at hr
  · split at hr
    · rename_i hb
      have hb := Nat.le_of_ble_eq_true hb
      cases hr
      rw [List.length_take, List.length_drop]; omega
    · cases hr
  · cases hr

theorem keeps_ok {ops : Array Oper} {h0 : Heap} {j : Nat} {ρ0 : Env} {w0 : World} (H0 : Holds P N0 ρ0 h0 w0) (H : Holds P N0 ρ h w) (hl : ρ0.le ρ) : ∀ {K : List (Nat × Nat × Nat × Nat)}, keeps ops h0 h j K = true → ∀ k, lt ops k j = false → Sk K ρ0 w0 k w
  | [], _, k, _ => fun b o n hm => by cases hm
  | (i, b, o, n) :: K, hk, k, hlt => by
    simp only [keeps, Bool.and_eq_true] at hk
    obtain ⟨h1, h2⟩ := hk
    intro b' o' n' hm B c hB t ht
    rcases List.mem_cons.1 hm with he | hm
    · cases he
      unfold lt at hlt
      rw [hlt] at h1
      simp only at h1
      split at h1
      · rename_i cs cs' hr0 hr1
        have := veqs_ok h1
        subst this
        obtain ⟨us0, l0, v0, c0⟩ := rds_ok H0 hr0 hB
        obtain ⟨us1, l1, v1, c1⟩ := rds_ok H hr1 (hl _ _ hB)
        have he := (v0.mono hl).func_one v1
        subst he
        have hlt' : t < us0.length := by omega
        have a1 := c0 t _ (List.getElem?_eq_getElem hlt')
        have a2 := c1 t _ (List.getElem?_eq_getElem hlt')
        rw [addr_add] at a1 a2
        rw [hl.same] at a2
        rw [a1, a2]
      · cases h1
    · exact keeps_ok H0 H hl h2 k hlt b' o' n' hm B c hB t ht

theorem pureOp_ok {ops : Array Oper} {o : Oper} {st st1 : St} (h : pureOp P gs ops o st = some st1) {a : Act} (S : Stt P gs N0 ρ st a w) :
    ∃ V, (∀ T : World → Prop, YieldsIf P ops T o V a) ∧ Stt P gs N0 ρ st1 (a.put o.dst V) w := by
  unfold pureOp at h
  rw [yielded_eq S.tmps] at h
  split at h
  · rename_i hw
    simp only [Option.map_eq_some_iff] at h
    obtain ⟨v, hv, rfl⟩ := h
    rw [pureC_eq] at hv
    obtain ⟨V, hV, hrun⟩ := pure_ok (P := P) S.vars S.tmps hv
    exact ⟨V, fun T => .inl ⟨hw, fun w _ => hrun w⟩, S.vars, S.mem, put_rel S.tmps _ hV, by rw [put_defers]; exact S.defs⟩
  · rename_i hw
    cases h
    exact ⟨undef, fun T => .inr ⟨hw, rfl⟩, S.vars, S.mem, put_rel S.tmps _ (.tup .nil), by rw [put_defers]; exact S.defs⟩

/-- a load in every world in which the cells are as they were -/
theorem load_same (H : Holds P N0 ρ h w) {t : Nat} {p v : AVal} {X : Value} (hX : VRel ρ p X) {b o n : Nat} (hc : cellsOf P t p = some (b, o, n)) (hr : loadA P h t p = some v) :
    ∃ u, VRel ρ v u ∧ ∀ w', (∀ B c, ρ b = some (B, c) → ∀ t, t < n → w'.cell? ⟨B, ρ.β b + o + t, none⟩ = w.cell? ⟨B, ρ.β b + o + t, none⟩) → (Instr.loadAt t X).run P w' = .ok u w' := by
  unfold loadA at hr
  split at hr
  · rename_i b' o'
    cases hX with
    | @ptr _ _ B c hB =>
    simp only [Option.bind_eq_some_iff] at hr
    obtain ⟨g, hg, hr⟩ := hr
    simp only [cellsOf, hg, Option.bind_some] at hc
    cases g with
    | true =>
      simp only [Option.bind_eq_some_iff, Option.map_eq_some_iff] at hr
      obtain ⟨m, hm, vs, hvs, rfl⟩ := hr
      simp only [hm, Option.map_some, Option.some.injEq, Prod.mk.injEq] at hc
      obtain ⟨rfl, rfl, rfl⟩ := hc
      obtain ⟨us, hl, hu, hcell⟩ := rds_ok H hvs hB
      refine ⟨.agg ⟨us⟩, .agg hu, fun w' hw => ?_⟩
      simp only [Instr.loadAt, Instr.sureAddr, Sem.run_bind, Sem.run_pure, Go.loadVar, isAgg_ok hg, Result.andThen_ok, if_true, size_ok hm]
      have : ∀ j u, us[j]? = some u → w'.cell? ((⟨B, ρ.β b' + o', none⟩ : Addr).add j) = some u := fun j u hj => by
        rw [addr_add, hw B c hB j (by rw [← hl]; exact (List.getElem?_eq_some_iff.1 hj).1), ← addr_add]
        exact hcell j u hj
      rw [← hl, run_loadCells_list w' _ us this]
      rfl
    | false =>
      simp only [Option.some.injEq, Prod.mk.injEq] at hc
      obtain ⟨rfl, rfl, rfl⟩ := hc
      obtain ⟨u, hu, hcell⟩ := rd_ok H hr hB
      refine ⟨u, hu, fun w' hw => ?_⟩
      have := hw B c hB 0 (by omega)
      rw [Nat.add_zero] at this
      simp only [Instr.loadAt, Instr.sureAddr, Sem.run_bind, Sem.run_pure, Go.loadVar, isAgg_ok hg, Result.andThen_ok, Bool.false_eq_true, if_false, run_load, this, hcell]
  · cases hr

/-- from the second phase on -/
def Ph1Ok (P : Program) (gs : Prm) (N0 : Nat) (r : Rec) : Prop :=
  ∀ ops base h0 K p st st', r.ph1 ops base h0 K p st = some st' →
    ∀ (listed : Array Bool) (rs : List Nat) (ρ : Env) (a : Act) (w : World) (ρ0 : Env) (w0 : World) (n0 : Nat) (ρs : Env) (ws : World) (Q : Exit → Act → World → Prop), valid P ops p false listed rs = true → listed.size = ops.size →
      Stt P gs N0 ρ st a w → Holds P N0 ρ0 h0 w0 → ρ0.le ρ → (∀ q ∈ K, listed.getD q.1 false = true) → (∀ i, listed.getD i true = false → ρ (base + i) = none) → base + ops.size ≤ st.h.next → n0 ≤ base →
      Mov N0 (· < n0) ρs ws ρ w → (∀ a' w', Post P gs N0 n0 ρs ws st' a' w' → Q .normal a' w') → (∀ c a w, ¬ Q (.panic c) a w) →
      (rs = [] → ∀ fuel, left listed.toList ≤ fuel → wpAnyG P ops Q (lt ops) (Sk K ρ0 w0) fuel listed a w) ∧
      (∀ fuel, left listed.toList ≤ fuel + 1 → ∀ j ∈ rs, j ∈ Region.ready .any ops listed → wpOp P ops Q j (fun a' w' => (w' = w ∨ ∀ i, lt ops i j = false → Sk K ρ0 w0 i w') ∧ wpAnyG P ops Q (lt ops) (Sk K ρ0 w0) fuel (listed.setIfInBounds j true) a' w') a w)

theorem getD_lt {listed : Array Bool} {i : Nat} (h : listed.getD i true = false) : i < listed.size := by
  rcases Nat.lt_or_ge i listed.size with h' | h'
  · exact h'
  · simp [Array.getElem?_eq_none h'] at h

theorem brF_ok (hP : PrmOk P gs) {r : Rec} (hm : Mono r) (hr : CallOk P gs N0 r) (hp : Ph1Ok P gs N0 r) {ops : Array Oper} {base : Nat} {h0 : Heap} {K : List (Nat × Nat × Nat × Nat)} {i : Nat} {k : Plan} {st st' : St}
    (h : brF P gs r ops base h0 K i k st = some st') {listed : Array Bool} {a : Act} {ρ0 : Env} {w0 : World} {n0 : Nat} {ρs : Env} {ws : World} {Q : Exit → Act → World → Prop} (hv : valid P ops k false (listed.setIfInBounds i true) [] = true) (hsz : listed.size = ops.size)
    (S : Stt P gs N0 ρ st a w) (H0 : Holds P N0 ρ0 h0 w0) (hl : ρ0.le ρ) (hK : ∀ q ∈ K, listed.getD q.1 false = true) (hres : ∀ i, listed.getD i true = false → ρ (base + i) = none) (hb : base + ops.size ≤ st.h.next) (hn : n0 ≤ base)
    (M : Mov N0 (· < n0) ρs ws ρ w) (hQ : ∀ a' w', Post P gs N0 n0 ρs ws st' a' w' → Q .normal a' w') (hQp : ∀ c a w, ¬ Q (.panic c) a w) (hi : i ∈ Region.ready .any ops listed) (fuel : Nat) (hf : left listed.toList ≤ fuel + 1) :
    wpOp P ops Q i (fun a' w' => (w' = w ∨ ∀ j, lt ops j i = false → Sk K ρ0 w0 j w') ∧ wpAnyG P ops Q (lt ops) (Sk K ρ0 w0) fuel (listed.setIfInBounds i true) a' w') a w := by
  unfold brF at h
  split at h
  · rename_i o ho
    simp only [Option.bind_eq_some_iff] at h
    obtain ⟨s1, hd, h⟩ := h
    split at h
    · rename_i hkeep
      have hun := (mem_ready.1 hi).1
      have hlt := getD_lt hun
      refine doOp_ok (nb := base + i) hP hr ho hd S (by omega) (hres i hun) Q _ ?_
      intro ρ' a' w' M1 S1
      have hl' : ρ0.le ρ' := hl.trans M1.ext
      refine ⟨.inr fun j hj => keeps_ok H0 S1.mem hl' hkeep j hj, ?_⟩
      have hmono := doOp_mono hm hd
      have hleft := ready_left hi
      refine (hp ops base h0 K k s1 st' h (listed.setIfInBounds i true) [] ρ' a' w' ρ0 w0 n0 ρs ws Q hv (by simpa using hsz) S1 H0 hl' (fun q hq => getD_set_true (hK q hq)) ?_ (by omega) hn ?_ hQ hQp).1 rfl fuel (by omega)
      · intro j hj
        have hne : i ≠ j := fun e => by
          subst e
          have : (listed.setIfInBounds i true).getD i false = true := by simp [hlt]
          have h2 : (listed.setIfInBounds i true).getD i true = true := by simp [hlt]
          rw [h2] at hj; cases hj
        rw [getD_set_ne true hne] at hj
        have hjl := getD_lt hj
        exact M1.keep _ ⟨by omega, by omega⟩ (hres j hj)
      · refine M.trans (M1.weak fun b hb' => ?_)
        have hb'' : b < n0 := hb'
        exact ⟨by omega, by omega⟩
    · cases h
  · cases h

theorem ready_of_nil {ops : Array Oper} {listed : Array Bool} (h : (match Region.ready .any ops listed with | [] => true | _ => false) = true) : Region.ready .any ops listed = [] := by
  split at h
  · assumption
  · cases h

theorem valid_take {ops : Array Oper} {i : Nat} {k : Plan} {ph : Bool} {listed : Array Bool} {rs : List Nat} (h : valid P ops (.take i k) ph listed rs = true) :
    rs = [] ∧ i ∈ Region.ready .any ops listed ∧ Region.free .any ops listed i = true ∧ Region.noSelect ops = true ∧ (ph = false ∨ lateFree ops listed i = true) ∧ valid P ops k ph (listed.setIfInBounds i true) [] = true := by
  unfold valid at h
  simp only [Bool.and_eq_true] at h
  obtain ⟨⟨⟨⟨⟨⟨h0, h1⟩, _⟩, h3⟩, h4⟩, h5⟩, h6⟩ := h
  refine ⟨?_, by simpa using h1, h3, h4, ?_, h6⟩
  · cases rs with
    | nil => rfl
    | cons _ _ => simp at h0
  · cases ph
    · exact .inl rfl
    · exact .inr (by simpa using h5)

theorem valid_br {ops : Array Oper} {i : Nat} {k rest : Plan} {ph : Bool} {listed : Array Bool} {rs : List Nat} (h : valid P ops (.br i k rest) ph listed rs = true) :
    valid P ops k false (listed.setIfInBounds i true) [] = true ∧ ∃ js, valid P ops rest false listed js = true ∧ (rs = i :: js ∨ (rs = [] ∧ Region.ready .any ops listed = i :: js)) := by
  unfold valid at h
  simp only [Bool.and_eq_true] at h
  obtain ⟨h1, h2⟩ := h
  refine ⟨h2, ?_⟩
  split at h1
  · rename_i j js
    simp only [Bool.and_eq_true] at h1
    have := Nat.eq_of_beq_eq_true h1.1
    subst this
    exact ⟨js, h1.2, .inl rfl⟩
  · split at h1
    · rename_i j js hr
      simp only [Bool.and_eq_true] at h1
      have := Nat.eq_of_beq_eq_true h1.1
      subst this
      exact ⟨js, h1.2, .inr ⟨rfl, hr⟩⟩
    · cases h1

theorem lateFree_ok {ops : Array Oper} {listed : Array Bool} (hsz : listed.size = ops.size) {i : Nat} (h : lateFree ops listed i = true) (k : Nat) (hk : lt ops i k = true) : listed.getD k false = false := by
  cases hl : listed.getD k false with
  | false => rfl
  | true =>
    have hlt : k < listed.size := by
      rcases Nat.lt_or_ge k listed.size with h' | h'
      · exact h'
      · simp [Array.getElem?_eq_none h'] at hl
    simp only [lateFree, List.all_eq_true, List.mem_range] at h
    have := h k (by omega)
    unfold lt at hk
    rw [hl, hk] at this
    simp at this

theorem ph1F_ok (hP : PrmOk P gs) {r : Rec} (hm : Mono r) (hr : CallOk P gs N0 r) (hp : Ph1Ok P gs N0 r) : Ph1Ok P gs N0 (levelF P gs r) := by
  intro ops base h0 K p st st' h listed rs ρ a w ρ0 w0 n0 ρs ws Q hv hsz S H0 hl hK hres hb hn M hQ hQp
  change ph1F P gs r ops base h0 K p st = some st' at h
  unfold ph1F at h
  split at h
  · -- done
    cases h
    simp only [valid, Bool.and_eq_true] at hv
    have hr0 := ready_of_nil hv.2
    have hrs : rs = [] := by cases rs with | nil => rfl | cons _ _ => simp at hv
    subst hrs
    exact ⟨fun _ fuel _ => G_done hr0 (hQ a w ⟨ρ, M, S⟩) fuel, fun fuel _ j hj => by cases hj⟩
  · -- take
    rename_i i k
    split at h
    · rename_i o ho
      split at h
      · rename_i hpure
        simp only [Option.bind_eq_some_iff] at h
        obtain ⟨s1, hd, h⟩ := h
        obtain ⟨rfl, hri, hfree, hsel, _, hvk⟩ := valid_take hv
        refine ⟨fun _ fuel hf => ?_, fun fuel _ j hj => by cases hj⟩
        have hleft := ready_left hri
        obtain ⟨fuel, rfl⟩ : ∃ f, fuel = f + 1 := ⟨fuel - 1, by omega⟩
        obtain ⟨V, hy, S1⟩ := pureOp_ok hd S
        have hun := (mem_ready.1 hri).1
        have hlt := getD_lt hun
        have hSi : ∀ w', Sk K ρ0 w0 i w' := fun w' b o n hmem => by
          have h1 := hK _ hmem
          simp only at h1
          have h2 : listed.getD i false = listed.getD i true := by simp [hlt]
          rw [h2, hun] at h1
          cases h1
        refine wpAnyG_first ho (Region.noSelect_spec hsel) hQp (.inl hSi) fuel listed a w (.inl hSi) (Region.free_spec ho hfree) hri (hy _) (hSi w) ?_
        have hmem : s1.h = st.h := pureOp_mono hd
        refine (hp ops base h0 K k s1 st' h (listed.setIfInBounds i true) [] ρ _ w ρ0 w0 n0 ρs ws Q hvk (by simpa using hsz) S1 H0 hl (fun q hq => getD_set_true (hK q hq)) ?_ (by rw [hmem]; exact hb) hn M hQ hQp).1 rfl fuel (by omega)
        intro j hj
        have hne : i ≠ j := fun e => by
          subst e
          have h2 : (listed.setIfInBounds i true).getD i true = true := by simp [hlt]
          rw [h2] at hj; cases hj
        rw [getD_set_ne true hne] at hj
        exact hres j hj
      · cases h
    · cases h
  · -- the last branch
    rename_i i k
    obtain ⟨hvk, js, hvr, hrs⟩ := valid_br hv
    have hjs : js = [] := by
      unfold valid at hvr
      split at hvr
      · rfl
      · cases hvr
    subst hjs
    have key : i ∈ Region.ready .any ops listed → ∀ fuel, left listed.toList ≤ fuel + 1 → wpOp P ops Q i (fun a' w' => (w' = w ∨ ∀ j, lt ops j i = false → Sk K ρ0 w0 j w') ∧ wpAnyG P ops Q (lt ops) (Sk K ρ0 w0) fuel (listed.setIfInBounds i true) a' w') a w :=
      fun hi fuel hf => brF_ok hP hm hr hp h hvk hsz S H0 hl hK hres hb hn M hQ hQp hi fuel hf
    rcases hrs with rfl | ⟨rfl, hready⟩
    · refine ⟨fun e => (by cases e), fun fuel hf j hj hjr => ?_⟩
      obtain rfl : j = i := by simpa using hj
      exact key hjr fuel hf
    · refine ⟨fun _ fuel hf => ?_, fun fuel _ j hj => by cases hj⟩
      have hi : i ∈ Region.ready .any ops listed := by rw [hready]; simp
      have hleft := ready_left hi
      obtain ⟨fuel, rfl⟩ : ∃ f, fuel = f + 1 := ⟨fuel - 1, by omega⟩
      refine ⟨fun e => (by rw [e] at hi; cases hi), fun j hj => ?_⟩
      obtain rfl : j = i := by rw [hready] at hj; simpa using hj
      exact key hj fuel hf
  · -- a branch, and others
    rename_i i k rest hrest
    simp only [Option.bind_eq_some_iff] at h
    obtain ⟨f, h1, g, h2, h⟩ := h
    split at h
    · rename_i heq
      cases h
      have := steq_ok heq
      subst this
      obtain ⟨hvk, js, hvr, hrs⟩ := valid_br hv
      have key : i ∈ Region.ready .any ops listed → ∀ fuel, left listed.toList ≤ fuel + 1 → wpOp P ops Q i (fun a' w' => (w' = w ∨ ∀ j, lt ops j i = false → Sk K ρ0 w0 j w') ∧ wpAnyG P ops Q (lt ops) (Sk K ρ0 w0) fuel (listed.setIfInBounds i true) a' w') a w :=
        fun hi fuel hf => brF_ok hP hm hr hp h1 hvk hsz S H0 hl hK hres hb hn M hQ hQp hi fuel hf
      have others := (hp ops base h0 K rest st _ h2 listed js ρ a w ρ0 w0 n0 ρs ws Q hvr hsz S H0 hl hK hres hb hn M hQ hQp).2
      rcases hrs with rfl | ⟨rfl, hready⟩
      · refine ⟨fun e => (by cases e), fun fuel hf j hj hjr => ?_⟩
        rcases List.mem_cons.1 hj with rfl | hj
        · exact key hjr fuel hf
        · exact others fuel hf j hj hjr
      · refine ⟨fun _ fuel hf => ?_, fun fuel _ j hj => by cases hj⟩
        have hi : i ∈ Region.ready .any ops listed := by rw [hready]; simp
        have hleft := ready_left hi
        obtain ⟨fuel, rfl⟩ : ∃ f, fuel = f + 1 := ⟨fuel - 1, by omega⟩
        refine ⟨fun e => (by rw [e] at hi; cases hi), fun j hj => ?_⟩
        have hj' := hj
        rw [hready] at hj'
        rcases List.mem_cons.1 hj' with rfl | hj'
        · exact key hj fuel hf
        · exact others fuel hf j hj' hj
    · cases h
  · cases h

end Go.Proofs.YtdgpdmbfhehpfaaGreatDoor.Ev
