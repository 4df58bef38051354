/-
  A region that draws its order, walked once: each operation is shown to bring about what it is to bring about (D) in every world that the invariant (I) allows, and what was brought about stays (R). The orders are never gone through.
-/
import Derived.Orders
import Derived.WalkKit
namespace Go.Inv
section
variable {P : Program} {ops : Array Oper} {Q : Exit → Act → World → Prop} {md : Region.Mode}

/-- outside the slots that the region writes, the frame is as it was -/
structure Framed (ds : Nat → Tmp) (n : Nat) (a0 a : Act) : Prop where
  defers : a.defers = a0.defers
  size : a.tmps.size = a0.tmps.size
  same : ∀ t, (∀ i, i < n → ds i ≠ t) → a.tmps[t]? = a0.tmps[t]?

theorem filter_lt {α : Type} {l : List α} {p q : α → Bool} (h : ∀ x ∈ l, q x = true → p x = true) {y : α} (hy : y ∈ l) (hp : p y = true) (hq : q y = false) : (l.filter q).length < (l.filter p).length := by
  induction l with
  | nil => cases hy
  | cons x l ih =>
    have hle : (l.filter q).length ≤ (l.filter p).length := by
      clear ih hy
      induction l with
      | nil => simp
      | cons z l ih2 =>
        have h1 := h z (by simp)
        have h2 := ih2 (fun u hu => h u (by simp only [List.mem_cons] at hu ⊢; rcases hu with rfl | hu <;> simp [*]))
        cases hqz : q z <;> cases hpz : p z <;> simp_all <;> omega
    rcases List.mem_cons.1 hy with rfl | hy'
    · simp [hp, hq]; omega
    · have := ih (fun u hu => h u (List.mem_cons_of_mem x hu)) hy'
      have h1 := h x (List.mem_cons_self ..)
      cases hqx : q x <;> cases hpx : p x <;> simp_all <;> omega

/-- every operation waits for earlier ones alone: decided -/
theorem up_of {ops : Array Oper} (h : ((List.range ops.size).all fun i => ((ops[i]?).map fun o => o.after.all fun e => decide (e.on < i)).getD true) = true) (i : Nat) (o : Oper) (ho : ops[i]? = some o) (e : Edge) (he : e ∈ o.after) : e.on < i := by
  rw [List.all_eq_true] at h
  have := h i (by simpa using (Array.getElem?_eq_some_iff.1 ho).1)
  rw [ho] at this
  simp only [Option.map_some, Option.getD_some, Array.all_eq_true'] at this
  simpa using this e he

def left (n : Nat) (listed : Array Bool) : Nat := ((List.range n).filter fun i => !listed.getD i true).length

theorem wpAny_inv (a0 : Act) (ds : Nat → Tmp) (inj : ∀ i j, i < ops.size → j < ops.size → ds i = ds j → i = j) (hin : ∀ i, i < ops.size → ds i < a0.tmps.size)
    (hup : ∀ (i : Nat) (o : Oper), ops[i]? = some o → ∀ e ∈ o.after, e.on < i)
    (D : Nat → Value → World → Prop) (I : World → Prop) (R : World → World → Prop) (Dmono : ∀ i v w w', D i v w → R w w' → D i v w')
    (step : ∀ (i : Nat) (o : Oper) (a : Act) (w : World), ops[i]? = some o → Framed ds ops.size a0 a → I w → (∀ e ∈ o.after, Region.binds md e = true → ∃ v, D e.on v w ∧ a.tmps[ds e.on]? = some v) →
      wpOp P ops Q i (fun a' w' => ∃ v, a' = a.put (some (ds i)) v ∧ D i v w' ∧ R w w' ∧ I w') a w)
    (fin : ∀ a w, Framed ds ops.size a0 a → I w → (∀ i, i < ops.size → ∃ v, D i v w ∧ a.tmps[ds i]? = some v) → Q .normal a w) :
    ∀ (fuel : Nat) (listed : Array Bool) (a : Act) (w : World), listed.size = ops.size → left ops.size listed ≤ fuel → Framed ds ops.size a0 a → I w →
      (∀ i, i < ops.size → listed.getD i false = true → ∃ v, D i v w ∧ a.tmps[ds i]? = some v) → wpAny P md ops Q fuel listed a w := by
  -- where nothing may come up all has come up
  have least : ∀ (listed : Array Bool), listed.size = ops.size → Region.ready md ops listed = [] → ∀ i, i < ops.size → listed.getD i false = true := by
    intro listed hs hr i
    induction i using Nat.strongRecOn with
    | ind i ih =>
      intro hi
      cases hl : listed.getD i false with
      | true => rfl
      | false =>
        exfalso
        have : i ∈ Region.ready md ops listed := by
          rw [mem_ready]
          refine ⟨?_, ops[i], Array.getElem?_eq_getElem hi, fun e he _ => ?_⟩
          · simp [hs, hi] at hl ⊢; exact hl
          · have hlt := hup i _ (Array.getElem?_eq_getElem hi) e he
            exact ih e.on hlt (by omega)
        rw [hr] at this
        cases this
  intro fuel
  induction fuel with
  | zero =>
    intro listed a w hs hf hfr hI hD
    have hall : ∀ i, i < ops.size → listed.getD i false = true := by
      intro i hi
      cases hl : listed.getD i false with
      | true => rfl
      | false =>
        exfalso
        have hm : i ∈ (List.range ops.size).filter fun i => !listed.getD i true := by
          rw [List.mem_filter]
          refine ⟨by simpa using hi, ?_⟩
          simp [hs, hi] at hl ⊢; exact hl
        have := List.length_pos_of_mem hm
        unfold left at hf
        omega
    refine ⟨?_, fin a w hfr hI fun i hi => hD i hi (hall i hi)⟩
    cases hr : Region.ready md ops listed with
    | nil => rfl
    | cons x xs =>
      exfalso
      have hx : x ∈ Region.ready md ops listed := by rw [hr]; exact List.mem_cons_self ..
      obtain ⟨h0, o, ho, _⟩ := mem_ready.1 hx
      have hxs : x < ops.size := (Array.getElem?_eq_some_iff.1 ho).1
      have h1 := hall x hxs
      simp [hs, hxs] at h0 h1
      rw [h0] at h1; cases h1
  | succ fuel ih =>
    intro listed a w hs hf hfr hI hD
    refine ⟨fun hr => fin a w hfr hI fun i hi => hD i hi (least listed hs hr i hi), fun i hi => ?_⟩
    obtain ⟨h0, o, ho, hall⟩ := mem_ready.1 hi
    have his : i < ops.size := (Array.getElem?_eq_some_iff.1 ho).1
    refine wpOp_mono ?_ (step i o a w ho hfr hI fun e he hb => hD e.on (by have := hup i o ho e he; omega) (hall e he hb))
    rintro a' w' ⟨v, rfl, hv, hR, hI'⟩
    have hdi : ds i < a.tmps.size := by rw [hfr.size]; exact hin i his
    refine ih (listed.setIfInBounds i true) (a.put (some (ds i)) v) w' (by simpa using hs) ?_ ?_ hI' ?_
    · have : left ops.size (listed.setIfInBounds i true) < left ops.size listed := by
        unfold left
        refine filter_lt (y := i) (fun x hx hq => ?_) (by simpa using his) ?_ ?_
        · by_cases hxi : i = x
          · subst hxi; simp [hs, his] at hq
          · rw [getD_set_ne true hxi] at hq; exact hq
        · simpa using h0
        · simp [hs, his]
      omega
    · refine ⟨hfr.defers, by simp [Act.put, hfr.size], fun t ht => ?_⟩
      rw [← hfr.same t ht]
      simp [Act.put, Array.getElem?_setIfInBounds_ne (ht i his)]
    · intro j hj hl
      by_cases hji : j = i
      · subst hji
        exact ⟨v, hv, by simp [Act.put, hdi]⟩
      · rw [getD_set_ne false (Ne.symm hji)] at hl
        obtain ⟨u, hu, hut⟩ := hD j hj hl
        refine ⟨u, Dmono _ _ _ _ hu hR, ?_⟩
        simp only [Act.put]
        rw [Array.getElem?_setIfInBounds_ne (fun e => hji (inj i j his hj e).symm)]
        exact hut

theorem wp_region_inv {id : Nat} {a0 : Act} {w0 : World} (hm : P.follows .mixedOrders = true) (ds : Nat → Tmp) (inj : ∀ i j, i < ops.size → j < ops.size → ds i = ds j → i = j) (hin : ∀ i, i < ops.size → ds i < a0.tmps.size)
    (hup : ∀ (i : Nat) (o : Oper), ops[i]? = some o → ∀ e ∈ o.after, e.on < i)
    (D : Nat → Value → World → Prop) (I : World → Prop) (R : World → World → Prop) (Dmono : ∀ i v w w', D i v w → R w w' → D i v w') (hI : I w0.drew)
    (step : ∀ (i : Nat) (o : Oper) (a : Act) (w : World), ops[i]? = some o → Framed ds ops.size a0 a → I w → (∀ e ∈ o.after, Region.binds .any e = true → ∃ v, D e.on v w ∧ a.tmps[ds e.on]? = some v) →
      wpOp P ops Q i (fun a' w' => ∃ v, a' = a.put (some (ds i)) v ∧ D i v w' ∧ R w w' ∧ I w') a w)
    (fin : ∀ a w, Framed ds ops.size a0 a → I w → (∀ i, i < ops.size → ∃ v, D i v w ∧ a.tmps[ds i]? = some v) → Q .normal a w) : (Code.region id ops true).wp P Q a0 w0 :=
  wp_region_any hm (wpAny_inv a0 ds inj hin hup D I R Dmono step fin ops.size _ a0 _ (by simp)
    (by unfold left; exact Nat.le_trans (List.length_filter_le _ _) (by simp)) ⟨rfl, rfl, fun _ _ => rfl⟩ hI (fun i hi h => by simp [hi] at h))
end
end Go.Inv
