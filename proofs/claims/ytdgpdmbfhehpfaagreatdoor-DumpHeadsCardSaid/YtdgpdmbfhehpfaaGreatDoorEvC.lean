/-
  What the evaluator's values and memory mean in a world.
-/
import Derived.Test.YtdgpdmbfhehpfaaGreatDoorEvB
import Derived.Below
import Derived.Laws.CopyRow
set_option linter.all false
namespace Go.Proofs.YtdgpdmbfhehpfaaGreatDoor.Ev
open Go.RowKit

/-- which block a number stands for, with a second number; β: from which cell on it is known -/
structure Env where
  f : Nat → Option (Nat × Nat)
  β : Nat → Nat

instance : CoeFun Env fun _ => Nat → Option (Nat × Nat) := ⟨Env.f⟩

mutual
inductive VRel (ρ : Env) : AVal → Value → Prop where
  | bool (b) : VRel ρ (.bool b) (.bool b)
  | int (k n) : VRel ρ (.int k n) (.int k n)
  | str (s) : VRel ρ (.str s) (.string s)
  | ptr {b o B c} : ρ b = some (B, c) → VRel ρ (.ptr b o) (.pointer (some ⟨B, ρ.β b + o, none⟩))
  | nilp : VRel ρ .nilp (.pointer none)
  | sliceE {b o n k B c} : ρ b = some (B, c) → VRel ρ (.slice b o n (.exact k)) (.slice (some ⟨B, ρ.β b + o, none⟩) n k)
  | sliceR {b o n k B c} : ρ b = some (B, c) → n + k ≤ c → VRel ρ (.slice b o n (.rest k)) (.slice (some ⟨B, ρ.β b + o, none⟩) n (c - k))
  | nils : VRel ρ .nils (.slice none 0 0)
  | map {b B c} : ρ b = some (B, c) → VRel ρ (.map b) (.map (some B))
  | nilmap : VRel ρ .nilmap (.map none)
  | func (fn) {fs cs vs us} : VRels ρ fs vs → VRels ρ cs us → VRel ρ (.func fn fs cs) (.func fn ⟨vs⟩ ⟨us⟩)
  | nilf : VRel ρ .nilf .nilFunc
  | iface (t) {a v} : VRel ρ a v → VRel ρ (.iface t a) (.iface t v)
  | nili : VRel ρ .nili .nilIface
  | agg {as vs} : VRels ρ as vs → VRel ρ (.agg as) (.agg ⟨vs⟩)
  | tup {as vs} : VRels ρ as vs → VRel ρ (.tup as) (.tuple ⟨vs⟩)
inductive VRels (ρ : Env) : List AVal → List Value → Prop where
  | nil : VRels ρ [] []
  | cons {a v as vs} : VRel ρ a v → VRels ρ as vs → VRels ρ (a :: as) (v :: vs)
end

structure Env.le (ρ ρ' : Env) : Prop where
  le : ∀ b x, ρ b = some x → ρ' b = some x
  same : ρ'.β = ρ.β

instance {ρ ρ' : Env} : CoeFun (ρ.le ρ') fun _ => ∀ b x, ρ b = some x → ρ' b = some x := ⟨Env.le.le⟩

theorem Env.le_refl (ρ : Env) : ρ.le ρ := ⟨fun _ _ h => h, rfl⟩
theorem Env.le.trans {a b c : Env} (h : a.le b) (k : b.le c) : a.le c := ⟨fun x y e => k _ _ (h x y e), k.same.trans h.same⟩

theorem VRel.ptr0 {ρ : Env} {b o B c : Nat} (h : ρ b = some (B, c)) (h0 : ρ.β b = 0) : VRel ρ (.ptr b o) (.pointer (some ⟨B, o, none⟩)) := by
  have := VRel.ptr (o := o) h
  rwa [h0, Nat.zero_add] at this
theorem VRel.sliceE0 {ρ : Env} {b o n k B c : Nat} (h : ρ b = some (B, c)) (h0 : ρ.β b = 0) : VRel ρ (.slice b o n (.exact k)) (.slice (some ⟨B, o, none⟩) n k) := by
  have := VRel.sliceE (o := o) (n := n) (k := k) h
  rwa [h0, Nat.zero_add] at this
theorem VRel.sliceR0 {ρ : Env} {b o n k B c : Nat} (h : ρ b = some (B, c)) (h0 : ρ.β b = 0) (hle : n + k ≤ c) : VRel ρ (.slice b o n (.rest k)) (.slice (some ⟨B, o, none⟩) n (c - k)) := by
  have := VRel.sliceR (o := o) (n := n) (k := k) h hle
  rwa [h0, Nat.zero_add] at this

theorem VRel.mono {ρ ρ' : Env} (hl : ρ.le ρ') {a : AVal} {v : Value} (h : VRel ρ a v) : VRel ρ' a v := by
  induction h using VRel.rec (motive_2 := fun as vs _ => VRels ρ' as vs) with
  | bool b => exact .bool b
  | int k n => exact .int k n
  | str s => exact .str s
  | ptr h => rw [← hl.same]; exact .ptr (hl _ _ h)
  | nilp => exact .nilp
  | sliceE h => rw [← hl.same]; exact .sliceE (hl _ _ h)
  | sliceR h hle => rw [← hl.same]; exact .sliceR (hl _ _ h) hle
  | nils => exact .nils
  | map h => exact .map (hl _ _ h)
  | nilmap => exact .nilmap
  | func fn _ _ h1 h2 => exact .func fn h1 h2
  | nilf => exact .nilf
  | iface t _ h => exact .iface t h
  | nili => exact .nili
  | agg _ h => exact .agg h
  | tup _ h => exact .tup h
  | nil => exact .nil
  | cons _ _ h1 h2 => exact .cons h1 h2

theorem VRels.mono {ρ ρ' : Env} (hl : ρ.le ρ') {as : List AVal} {vs : List Value} (h : VRels ρ as vs) : VRels ρ' as vs := by
  induction as generalizing vs with
  | nil => cases h; exact .nil
  | cons a as ih => cases h with | cons h1 h2 => exact .cons (h1.mono hl) (ih h2)

section
variable {ρ : Env}

theorem VRels.length {as : List AVal} {vs : List Value} (h : VRels ρ as vs) : as.length = vs.length := by
  induction as generalizing vs with
  | nil => cases h; rfl
  | cons a as ih => cases h with | cons h1 h2 => simp [ih h2]

theorem VRels.get {as : List AVal} {vs : List Value} (h : VRels ρ as vs) {i : Nat} {a : AVal} (ha : as[i]? = some a) : ∃ v, vs[i]? = some v ∧ VRel ρ a v := by
  induction as generalizing vs i with
  | nil => simp at ha
  | cons b as ih =>
    cases h with
    | cons h1 h2 =>
      cases i with
      | zero => simp at ha; subst ha; exact ⟨_, by simp, h1⟩
      | succ i => simp at ha; simpa using ih h2 ha

theorem VRels.getD {as : List AVal} {vs : List Value} (h : VRels ρ as vs) (i : Nat) : VRel ρ (as.getD i .undef) (vs.getD i Go.undef) := by
  cases ha : as[i]? with
  | none =>
    have : vs[i]? = none := by simp at ha ⊢; rw [← h.length]; exact ha
    simp [List.getD, ha, this, AVal.undef, Go.undef]
    exact .tup .nil
  | some a =>
    obtain ⟨v, hv, hr⟩ := h.get ha
    simpa [List.getD, ha, hv] using hr

theorem VRels.append {as bs : List AVal} {vs us : List Value} (h : VRels ρ as vs) (k : VRels ρ bs us) : VRels ρ (as ++ bs) (vs ++ us) := by
  induction as generalizing vs with
  | nil => cases h; exact k
  | cons a as ih => cases h with | cons h1 h2 => exact .cons h1 (ih h2)

theorem VRels.take {as : List AVal} {vs : List Value} (h : VRels ρ as vs) (n : Nat) : VRels ρ (as.take n) (vs.take n) := by
  induction as generalizing vs n with
  | nil => cases h; simp; exact .nil
  | cons a as ih => cases h with | cons h1 h2 => cases n with
    | zero => simp; exact .nil
    | succ n => simp; exact .cons h1 (ih h2 n)

theorem VRels.drop {as : List AVal} {vs : List Value} (h : VRels ρ as vs) (n : Nat) : VRels ρ (as.drop n) (vs.drop n) := by
  induction as generalizing vs n with
  | nil => cases h; simp; exact .nil
  | cons a as ih => cases h with | cons h1 h2 => cases n with
    | zero => simp; exact .cons h1 h2
    | succ n => simp; exact ih h2 n

theorem VRels.set {as : List AVal} {vs : List Value} (h : VRels ρ as vs) (i : Nat) {a : AVal} {v : Value} (hv : VRel ρ a v) : VRels ρ (as.set i a) (vs.set i v) := by
  induction as generalizing vs i with
  | nil => cases h; simp; exact .nil
  | cons b as ih => cases h with | cons h1 h2 => cases i with
    | zero => simp; exact .cons hv h2
    | succ i => simp; exact .cons h1 (ih h2 i)

theorem VRels.replicate {a : AVal} {v : Value} (h : VRel ρ a v) (n : Nat) : VRels ρ (List.replicate n a) (List.replicate n v) := by
  induction n with
  | zero => exact .nil
  | succ n ih => exact .cons h ih

theorem VRel.oneCell {a : AVal} {v : Value} (h : VRel ρ a v) : v.oneCell' = Ev.oneCell a := by
  cases h <;> rfl

theorem VRel.cells {a : AVal} {v : Value} (h : VRel ρ a v) : VRels ρ a.cells v.cells.toList := by
  cases h
  case agg h => exact h
  all_goals (simp only [AVal.cells, Value.cells]; exact .cons (by constructor <;> assumption) .nil)
end

/-! ### the tree -/
theorem T.get_same {α : Type} {k : Nat} {v : α} : ∀ (d : Nat) (t : T α) (i : Nat), T.get k d (T.set k v d t i) i = some v
  | 0, t, i => by
    simp [T.set, T.get]
  | d+1, t, i => by
    cases hb : Nat.beq (Nat.mod i 2) 0 <;> cases t <;> simp only [T.set, hb, T.get] <;> exact T.get_same d _ _

theorem T.get_e {α : Type} {k : Nat} (d i : Nat) : T.get k d (T.e : T α) i = none := by cases d <;> rfl

theorem T.get_set {α : Type} {k k' : Nat} {v o : α} : ∀ (d : Nat) (t : T α) (i i' : Nat), T.get k' d (T.set k v d t i) i' = some o → (k' = k ∧ o = v) ∨ T.get k' d t i' = some o
  | 0, t, i, i', h => by
    simp only [T.set, T.get] at h
    split at h
    · rename_i hb
      have := Nat.eq_of_beq_eq_true hb
      cases h; exact .inl ⟨this.symm, rfl⟩
    · cases h
  | d+1, t, i, i', h => by
    cases hb : Nat.beq (Nat.mod i 2) 0 <;> cases hc : Nat.beq (Nat.mod i' 2) 0 <;> cases t <;> simp only [T.set, hb, hc, T.get, T.get_e] at h ⊢ <;>
      first
        | exact .inr h
        | (cases h; done)
        | (rcases T.get_set d _ _ _ h with h | h
           · exact .inl h
           · first
             | exact .inr h
             | (rw [T.get_e] at h; cases h))

theorem Heap.get_put_same (h : Heap) (b : Nat) (o : AObj) : (h.put b o).get b = some o := by
  simp only [Heap.get, Heap.put, T.getF_eq, T.setF_eq]
  exact T.get_same _ _ _

theorem Heap.get_put {h : Heap} {b b' : Nat} {o o' : AObj} (hg : (h.put b o).get b' = some o') : (b' = b ∧ o' = o) ∨ (b' ≠ b ∧ h.get b' = some o') := by
  by_cases e : b' = b
  · subst e
    rw [Heap.get_put_same] at hg
    cases hg; exact .inl ⟨rfl, rfl⟩
  · simp only [Heap.get, Heap.put, T.getF_eq, T.setF_eq] at hg
    rcases T.get_set _ _ _ _ hg with h | h
    · exact absurd h.1 e
    · exact .inr ⟨e, by simp only [Heap.get, T.getF_eq]; exact h⟩

/-! ### the memory -/
def AObj.alive : AObj → Bool
  | .dead => false
  | _ => true

/-- may be written -/
def AObj.turns : AObj → Bool
  | .cells _ _ _ wr => wr
  | .dead => false
  | _ => true

inductive ERels (ρ : Env) : List AEntry → List MapEntry → Prop where
  | nil : ERels ρ [] []
  | cons {a e as es} : VRel ρ a.key e.key → VRel ρ a.val e.val → a.born = e.born → ERels ρ as es → ERels ρ (a :: as) (e :: es)

def ORel (P : Program) (ρ : Env) (β room : Nat) : AObj → Obj → Prop
  | .cells cs e x wr, O => ∃ C E fr, O = .cells C E fr ∧ VRels ρ cs ((C.toList.drop β).take cs.length) ∧ β + cs.length ≤ C.size ∧ (wr = true → β = 0 ∧ E = e ∧ fr = (0, 0)) ∧
      (x = true → wr = true → cs.length = C.size) ∧ (x = false → ∃ i, P.info? e = some i ∧ C.size = room * i.size)
  | .map es clock, O => ∃ E, O = .map E clock ∧ ERels ρ es E.toList
  | .dead, _ => True

theorem ERels.mono {ρ ρ' : Env} (hl : ρ.le ρ') {as : List AEntry} {es : List MapEntry} (h : ERels ρ as es) : ERels ρ' as es := by
  induction h with
  | nil => exact .nil
  | cons h1 h2 h3 _ ih => exact .cons (h1.mono hl) (h2.mono hl) h3 ih

theorem ORel.mono {P : Program} {ρ ρ' : Env} (hl : ρ.le ρ') {β c : Nat} {o : AObj} {O : Obj} (h : ORel P ρ β c o O) : ORel P ρ' β c o O := by
  cases o with
  | cells cs e x wr =>
    obtain ⟨C, E, fr, h0, h1, h2⟩ := h
    exact ⟨C, E, fr, h0, h1.mono hl, h2⟩
  | map es clock =>
    obtain ⟨E, h0, h1⟩ := h
    exact ⟨E, h0, h1.mono hl⟩
  | dead => trivial

structure Holds (P : Program) (N0 : Nat) (ρ : Env) (h : Heap) (w : World) : Prop where
  obj : ∀ b o, h.get b = some o → ∃ B c O, ρ b = some (B, c) ∧ w.heap[B]? = some O ∧ ORel P ρ (ρ.β b) c o O
  inj : ∀ b b' o o' B c c', h.get b = some o → h.get b' = some o' → o.turns = true → o'.alive = true → ρ b = some (B, c) → ρ b' = some (B, c') → b = b'
  fresh : ∀ b, h.next ≤ b → ρ b = none
  lt : ∀ b B c, ρ b = some (B, c) → B < w.heap.size
  low : ∀ b o B c, h.get b = some o → o.turns = true → ρ b = some (B, c) → N0 ≤ B
  base : N0 ≤ w.heap.size
  flat : ∀ b, ρ b = none → ρ.β b = 0

/-- from w to w': nothing that was told is forgotten; below N0 nothing turns; the numbers K that were free are free -/
structure Mov (N0 : Nat) (K : Nat → Prop) (ρ : Env) (w : World) (ρ' : Env) (w' : World) : Prop where
  ext : ρ.le ρ'
  below : Below N0 w w'
  keep : ∀ b, K b → ρ b = none → ρ' b = none

theorem Mov.refl (N0 : Nat) (K : Nat → Prop) (ρ : Env) (w : World) : Mov N0 K ρ w ρ w := ⟨ρ.le_refl, Below.refl _ _, fun _ _ h => h⟩
theorem Mov.trans {N0 : Nat} {K : Nat → Prop} {ρ ρ' ρ'' : Env} {w w' w'' : World} (h : Mov N0 K ρ w ρ' w') (k : Mov N0 K ρ' w' ρ'' w'') : Mov N0 K ρ w ρ'' w'' :=
  ⟨h.ext.trans k.ext, h.below.trans k.below, fun b hb e => k.keep b hb (h.keep b hb e)⟩
theorem Mov.weak {N0 : Nat} {K K' : Nat → Prop} {ρ ρ' : Env} {w w' : World} (h : Mov N0 K ρ w ρ' w') (hk : ∀ b, K' b → K b) : Mov N0 K' ρ w ρ' w' := ⟨h.ext, h.below, fun b hb => h.keep b (hk b hb)⟩

def Env.upd (ρ : Env) (b B c : Nat) : Env := ⟨fun x => if x = b then some (B, c) else ρ x, ρ.β⟩

theorem Env.upd_flat {ρ : Env} {b B c : Nat} (h0 : ρ.β b = 0) (h : ∀ x, ρ x = none → ρ.β x = 0) : ∀ x, ρ.upd b B c x = none → (ρ.upd b B c).β x = 0 := fun x e => by
  by_cases hx : x = b
  · subst hx; exact h0
  · exact h x (by simpa [Env.upd, hx] using e)

theorem Env.le_upd {ρ : Env} {b B c : Nat} (h : ρ b = none) : ρ.le (ρ.upd b B c) := ⟨fun x y e => by
  unfold Env.upd
  simp only
  split
  · rename_i hx; subst hx; rw [h] at e; cases e
  · exact e, rfl⟩

theorem Env.upd_same (ρ : Env) (b B c : Nat) : ρ.upd b B c b = some (B, c) := by simp [Env.upd]

variable {P : Program} {N0 : Nat} {K : Nat → Prop} {ρ : Env} {h : Heap} {w : World}

theorem AObj.alive_of_turns {o : AObj} (h : o.turns = true) : o.alive = true := by cases o <;> simp_all [AObj.turns, AObj.alive]

/-- a new block, under the number nb that is free -/
theorem Holds.new (H : Holds P N0 ρ h w) {nb : Nat} (hnb : nb < h.next) (hfree : ρ nb = none) (o : AObj) (O : Obj) (c : Nat) (hO : ORel P (ρ.upd nb w.heap.size c) 0 c o O) :
    Holds P N0 (ρ.upd nb w.heap.size c) (h.put nb o) (w.alloc O) ∧ Mov N0 (· ≠ nb) ρ w (ρ.upd nb w.heap.size c) (w.alloc O) ∧ (ρ.upd nb w.heap.size c) nb = some (w.heap.size, c) ∧ (ρ.upd nb w.heap.size c).β nb = 0 := by
  have h0 : ρ.β nb = 0 := H.flat _ hfree
  have hle : ρ.le (ρ.upd nb w.heap.size c) := Env.le_upd hfree
  have hold : ∀ b B c', ρ b = some (B, c') → (w.alloc O).heap[B]? = w.heap[B]? := fun b B c' e => Below.heap_alloc _ _ _ (H.lt _ _ _ e)
  refine ⟨⟨?_, ?_, ?_, ?_, ?_, ?_, Env.upd_flat h0 H.flat⟩, ⟨hle, (Below.refl _ _).alloc H.base _, fun b hb e => by simpa [Env.upd, hb] using e⟩, Env.upd_same _ _ _ _, h0⟩
  · intro b o' hg
    rcases Heap.get_put hg with ⟨rfl, rfl⟩ | ⟨hne, hg⟩
    · exact ⟨_, _, O, Env.upd_same _ _ _ _, heap_alloc_new w O, by rw [show (ρ.upd b w.heap.size c).β b = 0 from h0]; exact hO⟩
    · obtain ⟨B, c', O', h1, h2, h3⟩ := H.obj _ _ hg
      exact ⟨B, c', O', hle _ _ h1, (hold _ _ _ h1).trans h2, h3.mono hle⟩
  · intro b b' o1 o2 B c1 c2 g1 g2 a1 a2 e1 e2
    have key : ∀ x B c', x ≠ nb → (ρ.upd nb w.heap.size c) x = some (B, c') → ρ x = some (B, c') := fun x B c' hx e => by simpa [Env.upd, hx] using e
    rcases Heap.get_put g1 with ⟨f1, f2⟩ | ⟨hne, f1⟩
    · rcases Heap.get_put g2 with ⟨k1, k2⟩ | ⟨hne2, k1⟩
      · rw [f1, k1]
      · subst f1
        rw [Env.upd_same] at e1
        cases e1
        have := H.lt _ _ _ (key _ _ _ hne2 e2)
        omega
    · rcases Heap.get_put g2 with ⟨k1, k2⟩ | ⟨hne2, k1⟩
      · subst k1
        rw [Env.upd_same] at e2
        cases e2
        have := H.lt _ _ _ (key _ _ _ hne e1)
        omega
      · exact H.inj _ _ _ _ _ _ _ f1 k1 a1 a2 (key _ _ _ hne e1) (key _ _ _ hne2 e2)
  · intro b hb
    have hb' : h.next ≤ b := hb
    have : b ≠ nb := by omega
    simpa [Env.upd, this] using H.fresh b hb'
  · intro b B c' e
    unfold Env.upd at e
    simp only at e
    split at e
    · cases e; rw [World.size_alloc]; omega
    · have := H.lt _ _ _ e
      rw [World.size_alloc]; omega
  · intro b o' B c' hg ht e
    rcases Heap.get_put hg with ⟨rfl, rfl⟩ | ⟨hne, hg⟩
    · rw [Env.upd_same] at e; cases e; exact H.base
    · exact H.low _ _ _ _ hg ht (by simpa [Env.upd, hne] using e)
  · have := H.base
    rw [World.size_alloc]; omega

/-- a block turned -/
theorem Holds.put (H : Holds P N0 ρ h w) {b : Nat} {o o' : AObj} {B c : Nat} {O : Obj} {w' : World} (hg : h.get b = some o) (ht : o.turns = true)
    (hB : ρ b = some (B, c)) (hO : ORel P ρ (ρ.β b) c o' O) (h1 : w'.heap[B]? = some O) (h2 : ∀ k, k ≠ B → w'.heap[k]? = w.heap[k]?) (hs : w'.heap.size = w.heap.size)
    (hos : w'.os = w.os) (htp : w'.tape = w.tape) (hop : w'.output = w.output) : Holds P N0 ρ (h.put b o') w' ∧ Mov N0 K ρ w ρ w' := by
  have hlow := H.low _ _ _ _ hg ht hB
  refine ⟨⟨?_, ?_, H.fresh, ?_, ?_, by rw [hs]; exact H.base, H.flat⟩, ρ.le_refl, ⟨hos, htp, hop, by omega, fun k hk => h2 k (by omega)⟩, fun _ _ e => e⟩
  · intro b' o1 g1
    rcases Heap.get_put g1 with ⟨rfl, rfl⟩ | ⟨hne, g1⟩
    · exact ⟨B, c, O, hB, h1, hO⟩
    · obtain ⟨B', c', O', e1, e2, e3⟩ := H.obj _ _ g1
      by_cases hd : o1.alive = true
      · refine ⟨B', c', O', e1, ?_, e3⟩
        rw [h2 _ (fun e => hne (H.inj _ _ _ _ _ _ _ hg g1 ht hd hB (e ▸ e1)).symm), e2]
      · have : o1 = .dead := by cases o1 <;> simp_all [AObj.alive]
        subst this
        by_cases hk : B' = B
        · subst hk; exact ⟨B', c', O, e1, h1, trivial⟩
        · exact ⟨B', c', O', e1, (h2 _ hk).trans e2, trivial⟩
  · intro b1 b2 o1 o2 B' c1 c2 g1 g2 a1 a2 e1 e2
    rcases Heap.get_put g1 with ⟨f1, f2⟩ | ⟨hne, f1⟩ <;> rcases Heap.get_put g2 with ⟨k1, k2⟩ | ⟨hne2, k1⟩
    · rw [f1, k1]
    · subst f1; exact H.inj _ _ _ _ _ _ _ hg k1 ht a2 e1 e2
    · subst k1; exact H.inj _ _ _ _ _ _ _ f1 hg a1 (AObj.alive_of_turns ht) e1 e2
    · exact H.inj _ _ _ _ _ _ _ f1 k1 a1 a2 e1 e2
  · intro b1 B1 c1 e1; rw [hs]; exact H.lt _ _ _ e1
  · intro b1 o1 B1 c1 g1 t1 e1
    rcases Heap.get_put g1 with ⟨rfl, rfl⟩ | ⟨hne, g1⟩
    · rw [hB] at e1; cases e1; exact hlow
    · exact H.low _ _ _ _ g1 t1 e1

/-- a block forgotten -/
theorem Holds.kill (H : Holds P N0 ρ h w) {b : Nat} {o : AObj} (hg : h.get b = some o) : Holds P N0 ρ (h.put b .dead) w := by
  obtain ⟨B, c, O, hB, hO, _⟩ := H.obj _ _ hg
  refine ⟨?_, ?_, H.fresh, H.lt, ?_, H.base, H.flat⟩
  · intro b' o1 g1
    rcases Heap.get_put g1 with ⟨rfl, rfl⟩ | ⟨hne, g1⟩
    · exact ⟨B, c, O, hB, hO, trivial⟩
    · exact H.obj _ _ g1
  · intro b1 b2 o1 o2 B' c1 c2 g1 g2 a1 a2 e1 e2
    rcases Heap.get_put g1 with ⟨rfl, rfl⟩ | ⟨hne, g1⟩
    · simp [AObj.turns] at a1
    · rcases Heap.get_put g2 with ⟨rfl, rfl⟩ | ⟨hne2, g2⟩
      · simp [AObj.alive] at a2
      · exact H.inj _ _ _ _ _ _ _ g1 g2 a1 a2 e1 e2
  · intro b1 o1 B1 c1 g1 t1 e1
    rcases Heap.get_put g1 with ⟨rfl, rfl⟩ | ⟨hne, g1⟩
    · simp [AObj.turns] at t1
    · exact H.low _ _ _ _ g1 t1 e1

theorem Holds.drew (H : Holds P N0 ρ h w) : Holds P N0 ρ h w.drew := ⟨H.obj, H.inj, H.fresh, H.lt, H.low, H.base, H.flat⟩
theorem Mov.drew {ρ' : Env} {w' : World} (m : Mov N0 K ρ w ρ' w') : Mov N0 K ρ w ρ' w'.drew := ⟨m.ext, m.below.drew, m.keep⟩

/-- more numbers are set aside -/
theorem Holds.more (H : Holds P N0 ρ h w) {n : Nat} (hn : h.next ≤ n) : Holds P N0 ρ ⟨h.t, n⟩ w := ⟨H.obj, H.inj, fun b hb => H.fresh b (Nat.le_trans hn hb), H.lt, H.low, H.base, H.flat⟩

theorem lget_eq (l : List AVal) (i : Nat) : lget l i = l.getD i .undef := by
  induction l generalizing i with
  | nil => rfl
  | cons a l ih => cases i with
    | zero => rfl
    | succ i =>
      have e : lget (a :: l) (i + 1) = lget l i := rfl
      rw [e, ih]
      simp [List.getD]

theorem lset_eq (v : AVal) (l : List AVal) (i : Nat) : lset v l i = l.set i v := by
  induction l generalizing i with
  | nil => rfl
  | cons a l ih => cases i with
    | zero => rfl
    | succ i => exact congrArg (a :: ·) (ih i)

end Go.Proofs.YtdgpdmbfhehpfaaGreatDoor.Ev
