/-
  The evaluator is sound: drawn regions.
-/
import Derived.Test.YtdgpdmbfhehpfaaGreatDoorEvN
set_option linter.all false
namespace Go.Proofs.YtdgpdmbfhehpfaaGreatDoor.Ev
open Go.RowKit

variable {gs : Prm} {P : Program} {N0 : Nat} {ρ : Env} {h h' : Heap} {w : World} {nb : Nat}

theorem veq_ok : ∀ {a b : AVal}, veq a b = true → a = b := by
  intro a
  induction a using AVal.rec (motive_2 := fun as => ∀ {bs : List AVal}, veqs as bs = true → as = bs) with
  | bool a => intro b h; cases b <;> simp [veq] at h; rw [h]
  | int k n => intro b h; cases b <;> simp [veq] at h; rw [ikEq_ok h.1]; have := h.2; rw [ieq_eq] at this; simp at this; rw [this]
  | str s => intro b h; cases b <;> simp [veq] at h; rw [strEq_ok h]
  | ptr x y => intro b h; cases b <;> simp [veq] at h; rw [h.1, h.2]
  | nilp => intro b h; cases b <;> simp [veq] at h; rfl
  | slice x o n c =>
    intro b h
    cases b with
    | slice x' o' n' c' =>
      cases c <;> cases c' <;> simp [veq] at h
      all_goals
        obtain ⟨⟨⟨h1, h2⟩, h3⟩, h4⟩ := h
        rw [h1, h2, h3, h4]
    | _ => cases c <;> simp [veq] at h
  | nils => intro b h; cases b <;> simp [veq] at h; rfl
  | map x => intro b h; cases b <;> simp [veq] at h; rw [h]
  | nilmap => intro b h; cases b <;> simp [veq] at h; rfl
  | func fn fs cs ih1 ih2 =>
    intro b h
    cases b with
    | func fn' fs' cs' =>
      cases fn <;> cases fn' <;> simp [veq] at h
      obtain ⟨⟨h1, h2⟩, h3⟩ := h
      rw [h1, ih1 h2, ih2 h3]
    | _ => cases fn <;> simp [veq] at h
  | nilf => intro b h; cases b <;> simp [veq] at h; rfl
  | iface t v ih => intro b h; cases b <;> simp [veq] at h; rw [h.1, ih h.2]
  | nili => intro b h; cases b <;> simp [veq] at h; rfl
  | agg as ih => intro b h; cases b <;> simp [veq] at h; rw [ih h]
  | tup as ih => intro b h; cases b <;> simp [veq] at h; rw [ih h]
  | nil => rename_i bs h; cases bs <;> simp [veqs] at h; rfl
  | cons a as ih1 ih2 => rename_i bs h; cases bs <;> simp [veqs] at h; rw [ih1 h.1, ih2 h.2]

theorem veqs_ok {as bs : List AVal} (h : veqs as bs = true) : as = bs := by
  induction as generalizing bs with
  | nil => cases bs <;> simp [veqs] at h; rfl
  | cons a as ih => cases bs <;> simp [veqs] at h; rw [veq_ok h.1, ih h.2]

theorem eeqs_ok {as bs : List AEntry} (h : eeqs as bs = true) : as = bs := by
  induction as generalizing bs with
  | nil => cases bs <;> simp [eeqs] at h; rfl
  | cons a as ih =>
    cases bs with
    | nil => simp [eeqs] at h
    | cons b bs =>
      obtain ⟨k, v, n⟩ := a
      obtain ⟨k', v', n'⟩ := b
      simp [eeqs] at h
      obtain ⟨⟨⟨h1, h2⟩, h3⟩, h4⟩ := h
      rw [veq_ok h1, veq_ok h2, h3, ih h4]

theorem oeq_ok {a b : AObj} (h : oeq a b = true) : a = b := by
  cases a <;> cases b <;> simp [oeq] at h
  · obtain ⟨⟨⟨h1, h2⟩, h3⟩, h4⟩ := h
    rw [veqs_ok h1, h2, h3, h4]
  · rw [eeqs_ok h.1, h.2]
  · rfl

theorem teq_ok : ∀ {a b : T AObj}, teq a b = true → a = b := by
  intro a
  induction a with
  | e => intro b h; cases b <;> simp [teq] at h; rfl
  | leaf k v => intro b h; cases b <;> simp [teq] at h; rw [h.1, oeq_ok h.2]
  | node l r ihl ihr => intro b h; cases b <;> simp [teq] at h; rw [ihl h.1, ihr h.2]

theorem steq_ok {a b : St} (h : steq a b = true) : a = b := by
  obtain ⟨ts, ds, ⟨t, n⟩⟩ := a
  obtain ⟨ts', ds', ⟨t', n'⟩⟩ := b
  unfold steq at h
  simp only [Bool.and_eq_true] at h
  obtain ⟨⟨⟨h1, h2⟩, h3⟩, h4⟩ := h
  have h4 := Nat.eq_of_beq_eq_true h4
  rw [veqs_ok h1, teq_ok h3, h4]
  cases ds <;> cases ds' <;> simp at h2 ⊢

/-! what a value means is one -/
theorem VRel.func_one {a : AVal} : ∀ {v u : Value}, VRel ρ a v → VRel ρ a u → v = u := by
  induction a using AVal.rec (motive_2 := fun as => ∀ {vs us : List Value}, VRels ρ as vs → VRels ρ as us → vs = us) with
  | nil => rename_i vs us h1 h2; cases h1; cases h2; rfl
  | cons a as ih1 ih2 =>
    rename_i vs us h1 h2
    cases h1 with | cons a1 a2 => cases h2 with | cons b1 b2 => rw [ih1 a1 b1, ih2 a2 b2]
  | func fn fs cs ih1 ih2 =>
    intro v u h1 h2
    cases h1 with | func _ a1 a2 => cases h2 with | func _ b1 b2 => rw [ih1 a1 b1, ih2 a2 b2]
  | iface t x ih =>
    intro v u h1 h2
    cases h1 with | iface _ a1 => cases h2 with | iface _ b1 => rw [ih a1 b1]
  | agg as ih =>
    intro v u h1 h2
    cases h1 with | agg a1 => cases h2 with | agg b1 => rw [ih a1 b1]
  | tup as ih =>
    intro v u h1 h2
    cases h1 with | tup a1 => cases h2 with | tup b1 => rw [ih a1 b1]
  | ptr b o =>
    intro v u h1 h2
    cases h1 with | ptr a1 => cases h2 with | ptr b1 => rw [a1] at b1; cases b1; rfl
  | map b =>
    intro v u h1 h2
    cases h1 with | map a1 => cases h2 with | map b1 => rw [a1] at b1; cases b1; rfl
  | slice b o n c =>
    intro v u h1 h2
    cases h1 with
    | sliceE a1 => cases h2 with | sliceE b1 => rw [a1] at b1; cases b1; rfl
    | sliceR a1 _ => cases h2 with | sliceR b1 _ => rw [a1] at b1; cases b1; rfl
  | _ => intro v u h1 h2; cases h1; cases h2; rfl

theorem VRels.func_one {as : List AVal} : ∀ {vs us : List Value}, VRels ρ as vs → VRels ρ as us → vs = us := by
  induction as with
  | nil => intro vs us h1 h2; cases h1; cases h2; rfl
  | cons a as ih =>
    intro vs us h1 h2
    cases h1 with | cons a1 a2 => cases h2 with | cons b1 b2 => rw [a1.func_one b1, ih a2 b2]

/-! who waits for whom -/
theorem waits_mono {ops : Array Oper} {i : Nat} : ∀ {n j : Nat}, waits ops i n j = true → waits ops i (n + 1) j = true
  | 0, j, h => by simp [waits] at h
  | n+1, j, h => by
    unfold waits at h ⊢
    split at h
    · rename_i o ho
      simp only [List.any_eq_true, Bool.and_eq_true, Bool.or_eq_true] at h ⊢
      obtain ⟨e, he, hb, hw⟩ := h
      refine ⟨e, he, hb, ?_⟩
      rcases hw with hw | hw
      · exact .inl hw
      · exact .inr (waits_mono hw)
    · cases h

theorem waits_step {ops : Array Oper} {i n j : Nat} {oj : Oper} (hj : ops[j]? = some oj) (h : waits ops i n j = true) : ∃ e ∈ oj.after, Region.binds .any e = true ∧ (e.on = i ∨ waits ops i n e.on = true) := by
  cases n with
  | zero => simp [waits] at h
  | succ n =>
    unfold waits at h
    rw [hj] at h
    simp only [List.any_eq_true, Bool.and_eq_true, Bool.or_eq_true] at h
    obtain ⟨e, he, hb, hw⟩ := h
    refine ⟨e, Array.mem_toList_iff.1 he, hb, ?_⟩
    rcases hw with hw | hw
    · exact .inl (Nat.eq_of_beq_eq_true hw)
    · exact .inr (waits_mono hw)

/-! how many are left -/
def left (l : List Bool) : Nat := (l.filter (!·)).length

theorem left_set : ∀ {l : List Bool} {i : Nat}, l[i]? = some false → left (l.set i true) + 1 = left l
  | [], i, h => by simp at h
  | b :: l, 0, h => by simp at h; subst h; simp [left]
  | b :: l, i+1, h => by
    simp at h
    have := left_set h
    cases b <;> simp [left] at this ⊢ <;> omega

theorem ready_left {ops : Array Oper} {listed : Array Bool} {i : Nat} (h : i ∈ Region.ready .any ops listed) : left (listed.setIfInBounds i true).toList + 1 = left listed.toList := by
  have h0 := (mem_ready.1 h).1
  have : listed.toList[i]? = some false := by
    rcases Nat.lt_or_ge i listed.size with h' | h'
    · simp [h'] at h0 ⊢; exact h0
    · simp [Array.getElem?_eq_none h'] at h0
  rw [Array.toList_setIfInBounds]
  exact left_set this

theorem G_done {ops : Array Oper} {Q : Exit → Act → World → Prop} {lt : Nat → Nat → Bool} {S : Nat → World → Prop} {listed : Array Bool} {a : Act} {w : World} (hr : Region.ready .any ops listed = []) (h : Q .normal a w) : ∀ fuel, wpAnyG P ops Q lt S fuel listed a w
  | 0 => ⟨hr, h⟩
  | _ + 1 => ⟨fun _ => h, by rw [hr]; simp⟩

end Go.Proofs.YtdgpdmbfhehpfaaGreatDoor.Ev
