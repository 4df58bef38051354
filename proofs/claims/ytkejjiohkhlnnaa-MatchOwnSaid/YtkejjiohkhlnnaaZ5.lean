/-
  Match: several of its texts in one.
-/
import Derived.Test.YtkejjiohkhlnnaaZ3
import Derived.Sort.AssemblyPlain
import Derived.Test.YtkejjiohkhlnnaaZ8
import Derived.Test.YtkejjiohkhlnnaaZ2
namespace Go.Proofs.Ytkejjiohkhlnnaa
open Go.RowKit
namespace Sym

theorem cmpI_anti (a b : Int) : cmpI b a = -cmpI a b := by unfold cmpI; split <;> split <;> (try split) <;> (try omega) <;> rfl
theorem cmpL_anti (a b : List UInt8) : cmpL b a = -cmpL a b := by
  induction a generalizing b with
  | nil => cases b <;> simp [cmpL]
  | cons x a ih =>
    cases b with
    | nil => simp [cmpL]
    | cons y b =>
      simp only [cmpL, ih b]
      split <;> split <;> (try omega)
theorem cmpC_anti (k i : Int) (l : List UInt8) (k' i' : Int) (l' : List UInt8) : cmpC k' i' l' k i l = -cmpC k i l k' i' l' := by
  unfold cmpC
  rw [cmpI_anti k k', cmpI_anti i i', cmpL_anti l l']
  by_cases h1 : cmpI k k' = 0
  · by_cases h2 : cmpI i i' = 0
    · simp [h1, h2]
    · simp [h1, h2]
  · simp [h1]
theorem cmpI_eq {a b : Int} (h : cmpI a b = 0) : a = b := by unfold cmpI at h; split at h <;> (try split at h) <;> simp at h; omega
theorem cmpI_less {a b : Int} (h : cmpI a b = -1) : a < b := by unfold cmpI at h; split at h <;> (try split at h) <;> simp at h; assumption
theorem cmpI_of {a b : Int} (h : a < b) : cmpI a b = -1 := by simp [cmpI, h]
theorem cmpI_self (a : Int) : cmpI a a = 0 := by simp [cmpI]
theorem cmpL_trans (a b c : List UInt8) (h1 : cmpL a b = -1) (h2 : cmpL b c = -1) : cmpL a c = -1 := by
  induction a generalizing b c with
  | nil =>
    cases b with
    | nil => simp [cmpL] at h1
    | cons y b =>
      cases c with
      | nil => simp [cmpL] at h2
      | cons z c => simp [cmpL]
  | cons x a ih =>
    cases b with
    | nil => simp [cmpL] at h1
    | cons y b =>
      cases c with
      | nil => simp [cmpL] at h2
      | cons z c =>
        simp only [cmpL] at h1 h2 ⊢
        by_cases hxy : x.toNat < y.toNat
        · by_cases hyz : y.toNat < z.toNat
          · rw [if_pos (by omega)]
          · rw [if_neg hyz] at h2
            by_cases hzy : z.toNat < y.toNat
            · rw [if_pos hzy] at h2; simp at h2
            · rw [if_pos (by omega)]
        · rw [if_neg hxy] at h1
          by_cases hyx : y.toNat < x.toNat
          · rw [if_pos hyx] at h1; simp at h1
          · rw [if_neg hyx] at h1
            by_cases hyz : y.toNat < z.toNat
            · rw [if_pos (by omega)]
            · rw [if_neg hyz] at h2
              by_cases hzy : z.toNat < y.toNat
              · rw [if_pos hzy] at h2; simp at h2
              · rw [if_neg hzy] at h2
                rw [if_neg (by omega), if_neg (by omega)]
                exact ih b c h1 h2
theorem cmpC_trans {k1 i1 : Int} {l1 : List UInt8} {k2 i2 : Int} {l2 : List UInt8} {k3 i3 : Int} {l3 : List UInt8} (h1 : cmpC k1 i1 l1 k2 i2 l2 = -1) (h2 : cmpC k2 i2 l2 k3 i3 l3 = -1) : cmpC k1 i1 l1 k3 i3 l3 = -1 := by
  unfold cmpC at h1 h2 ⊢
  by_cases a1 : cmpI k1 k2 = 0
  · have e1 := cmpI_eq a1
    subst e1
    by_cases a2 : cmpI k1 k3 = 0
    · have e2 := cmpI_eq a2
      subst e2
      simp only [cmpI_self, ne_eq, not_true_eq_false, if_false] at h1 h2 ⊢
      by_cases b1 : cmpI i1 i2 = 0
      · have e3 := cmpI_eq b1
        subst e3
        by_cases b2 : cmpI i1 i3 = 0
        · have e4 := cmpI_eq b2
          subst e4
          simp only [cmpI_self, not_true_eq_false, if_false] at h1 h2 ⊢
          exact cmpL_trans _ _ _ h1 h2
        · rw [if_pos b2] at h2 ⊢
          exact h2
      · rw [if_pos b1] at h1
        have l12 := cmpI_less h1
        by_cases b2 : cmpI i2 i3 = 0
        · have e4 := cmpI_eq b2
          subst e4
          rw [if_pos b1]
          exact h1
        · rw [if_pos b2] at h2
          have l23 := cmpI_less h2
          have := cmpI_of (a := i1) (b := i3) (by omega)
          rw [this]; simp
    · rw [if_pos a2] at h2 ⊢
      exact h2
  · rw [if_pos a1] at h1
    have l12 := cmpI_less h1
    by_cases a2 : cmpI k2 k3 = 0
    · have e2 := cmpI_eq a2
      subst e2
      rw [if_pos a1]
      exact h1
    · rw [if_pos a2] at h2
      have l23 := cmpI_less h2
      have := cmpI_of (a := k1) (b := k3) (by omega)
      rw [this]; simp
end Sym
end Go.Proofs.Ytkejjiohkhlnnaa

namespace Go.Proofs.Ytkejjiohkhlnnaa
open Go.RowKit
namespace Mt

/-- a comparison of three answers -/
structure Three {β : Type} (c : β → β → Int) : Prop where
  rng : ∀ x y, c x y = -1 ∨ c x y = 0 ∨ c x y = 1
  anti : ∀ x y, c y x = -c x y
  trans : ∀ x y z, c x y = -1 → c y z = -1 → c x z = -1
  eqv : ∀ x y z, c x y = 0 → c x z = c y z
theorem cmpC_eq {k i : Int} {l : List UInt8} {k' i' : Int} {l' : List UInt8} (h : Sym.cmpC k i l k' i' l' = 0) : k = k' ∧ i = i' ∧ l = l' := by
  unfold Sym.cmpC at h
  split at h
  · rename_i h1; exact absurd h h1
  · rename_i h1
    split at h
    · rename_i h2; exact absurd h h2
    · rename_i h2
      exact ⟨Sym.cmpI_eq (by simpa using h1), Sym.cmpI_eq (by simpa using h2), (Sym.same_iff _ _).1 h⟩
/-- the constant of an id -/
def cD (cs : List C3) (x : Int) : C3 := (cs[x.toNat]?).getD (0, 0, ⟨#[]⟩)
def cmpK (cs : List C3) (x y : Int) : Int := Sym.cmpC (cD cs x).1 (cD cs x).2.1 (cD cs x).2.2.toList (cD cs y).1 (cD cs y).2.1 (cD cs y).2.2.toList
theorem three_K (cs : List C3) : Three (cmpK cs) where
  rng x y := Sym.cmpC_range _ _ _ _ _ _
  anti x y := Sym.cmpC_anti _ _ _ _ _ _
  trans x y z h1 h2 := Sym.cmpC_trans h1 h2
  eqv x y z h := by
    obtain ⟨h1, h2, h3⟩ := cmpC_eq h
    unfold cmpK
    rw [h1, h2, h3]
/-- two substitutions of n places -/
def lexC (cs : List C3) : Nat → List Int → List Int → Int
  | 0, _, _ => 0
  | n + 1, xs, ys => if cmpK cs (xs.headD 0) (ys.headD 0) ≠ 0 then cmpK cs (xs.headD 0) (ys.headD 0) else lexC cs n xs.tail ys.tail
theorem lexC_cons {cs : List C3} {n : Nat} {x y : Int} {xs ys : List Int} : lexC cs (n + 1) (x :: xs) (y :: ys) = if cmpK cs x y ≠ 0 then cmpK cs x y else lexC cs n xs ys := rfl
theorem three_lex (cs : List C3) (n : Nat) : Three (lexC cs n) := by
  have K := three_K cs
  induction n with
  | zero => exact ⟨fun _ _ => .inr (.inl rfl), fun _ _ => rfl, fun _ _ _ h => by simp [lexC] at h, fun _ _ _ _ => rfl⟩
  | succ n ih =>
    refine ⟨fun x y => ?_, fun x y => ?_, fun x y z h1 h2 => ?_, fun x y z h => ?_⟩
    · unfold lexC
      split
      · exact K.rng _ _
      · exact ih.rng _ _
    · unfold lexC
      have a := K.anti (x.headD 0) (y.headD 0)
      by_cases h0 : cmpK cs (x.headD 0) (y.headD 0) = 0
      · rw [if_neg (by rw [a, h0]; simp), if_neg (fun hh => hh h0)]
        exact ih.anti _ _
      · rw [if_pos (by rw [a]; omega), if_pos h0]
        exact a
    · unfold lexC at h1 h2 ⊢
      by_cases a1 : cmpK cs (x.headD 0) (y.headD 0) = 0
      · rw [if_neg (fun hh => hh a1)] at h1
        have e := K.eqv _ _ (z.headD 0) a1
        by_cases a2 : cmpK cs (y.headD 0) (z.headD 0) = 0
        · rw [if_neg (fun hh => hh a2)] at h2
          rw [if_neg (by rw [e, a2]; simp)]
          exact ih.trans _ _ _ h1 h2
        · rw [if_pos a2] at h2
          rw [if_pos (by rw [e]; exact a2), e]
          exact h2
      · rw [if_pos a1] at h1
        by_cases a2 : cmpK cs (y.headD 0) (z.headD 0) = 0
        · have b1 := K.anti (y.headD 0) (z.headD 0)
          have e := K.eqv (z.headD 0) (y.headD 0) (x.headD 0) (by rw [b1, a2]; rfl)
          have e1 := K.anti (x.headD 0) (y.headD 0)
          have e2 := K.anti (x.headD 0) (z.headD 0)
          have e3 : cmpK cs (x.headD 0) (z.headD 0) = -1 := by omega
          rw [if_pos (by rw [e3]; decide), e3]
        · rw [if_pos a2] at h2
          have e3 := K.trans _ _ _ h1 h2
          rw [if_pos (by rw [e3]; decide), e3]
    · unfold lexC at h ⊢
      by_cases a1 : cmpK cs (x.headD 0) (y.headD 0) = 0
      · rw [if_neg (fun hh => hh a1)] at h
        rw [K.eqv _ _ (z.headD 0) a1, ih.eqv _ _ z.tail h]
      · rw [if_pos a1] at h
        exact absurd h a1
/-- a strict order out of a comparison -/
theorem Three.swo {β : Type} {c : β → β → Int} (h : Three c) : Go.Sort.SWO (fun x y => decide (c x y < 0)) where
  irrefl x := by have := h.anti x x; simp; omega
  trans x y z h1 h2 := by
    simp only [decide_eq_true_eq] at h1 h2 ⊢
    have e1 : c x y = -1 := by have := h.rng x y; omega
    have e2 : c y z = -1 := by have := h.rng y z; omega
    have := h.trans _ _ _ e1 e2
    omega
  ntrans x y z h1 h2 := by
    simp only [decide_eq_false_iff_not] at h1 h2 ⊢
    intro h3
    have e3 : c x z = -1 := by have := h.rng x z; omega
    rcases h.rng x y with e | e | e
    · omega
    · have := h.eqv _ _ z e
      omega
    · have e1 : c y x = -1 := by have := h.anti x y; omega
      have := h.trans _ _ _ e1 e3
      omega
/-- not behind -/
def leC (cs : List C3) (n : Nat) (x y : List Int) : Bool := decide (lexC cs n x y ≤ 0)
/-- the lists in their order -/
def srtL (cs : List C3) (n : Nat) (ls : List (List Int)) : List (List Int) := ls.mergeSort (leC cs n)
theorem leC_trans (cs : List C3) (n : Nat) (x y z : List Int) (h1 : leC cs n x y = true) (h2 : leC cs n y z = true) : leC cs n x z = true := by
  have T := three_lex cs n
  unfold leC at *
  simp only [decide_eq_true_eq] at *
  rcases T.rng x y with e | e | e
  · rcases T.rng y z with f | f | f
    · have := T.trans _ _ _ e f
      omega
    · have := T.anti x y
      have b := T.anti y z
      have := T.eqv z y x (by omega)
      have := T.anti x z
      omega
    · omega
  · have := T.eqv _ _ z e
    omega
  · omega
theorem leC_total (cs : List C3) (n : Nat) (x y : List Int) : (leC cs n x y || leC cs n y x) = true := by
  have T := three_lex cs n
  unfold leC
  have := T.anti x y
  simp only [Bool.or_eq_true, decide_eq_true_eq]
  omega
theorem srtL_perm (cs : List C3) (n : Nat) (ls : List (List Int)) : (srtL cs n ls).Perm ls := List.mergeSort_perm _ _
theorem srtL_sorted (cs : List C3) (n : Nat) (ls : List (List Int)) : (srtL cs n ls).Pairwise (fun x y => leC cs n x y = true) := List.pairwise_mergeSort (leC_trans cs n) (leC_total cs n) ls
/-- two sorted lists of the same elements are one -/
theorem sorted_one {β : Type} {le : β → β → Prop} : ∀ (l1 l2 : List β), l1.Perm l2 → l1.Pairwise le → l2.Pairwise le → (∀ x ∈ l1, ∀ y ∈ l1, le x y → le y x → x = y) → l1 = l2
  | [], l2, h, _, _, _ => (List.perm_nil.1 h.symm).symm
  | x :: l1, [], h, _, _, _ => by have := h.length_eq; simp at this
  | x :: l1, y :: l2, h, h1, h2, ha => by
    have hxy : x = y := by
      have m1 : x ∈ y :: l2 := h.subset (List.mem_cons_self ..)
      have m2 : y ∈ x :: l1 := h.symm.subset (List.mem_cons_self ..)
      rcases List.mem_cons.1 m1 with e | m1
      · exact e
      · rcases List.mem_cons.1 m2 with e | m2
        · exact e.symm
        · exact ha x (List.mem_cons_self ..) y (List.mem_cons_of_mem _ m2) ((List.pairwise_cons.1 h1).1 y m2) ((List.pairwise_cons.1 h2).1 x m1)
    subst hxy
    rw [sorted_one l1 l2 (List.Perm.cons_inv h) (List.pairwise_cons.1 h1).2 (List.pairwise_cons.1 h2).2 (fun a ha' b hb' => ha a (List.mem_cons_of_mem _ ha') b (List.mem_cons_of_mem _ hb'))]
theorem cmpAt_K {cs : List C3} {x y : Int} (hx : 0 ≤ x ∧ x < cs.length) (hy : 0 ≤ y ∧ y < cs.length) : cmpAt cs x y = cmpK cs x y := by
  unfold cmpAt cmpK cD
  rw [List.getElem?_eq_getElem (by omega : x.toNat < cs.length), List.getElem?_eq_getElem (by omega : y.toNat < cs.length)]
  rfl
theorem lessL_lex {cs : List C3} : ∀ (n : Nat) (xs ys : List Int), xs.length = n → ys.length = n → IdsOk cs.length xs → IdsOk cs.length ys → lessL cs xs ys = decide (lexC cs n xs ys < 0)
  | 0, [], [], _, _, _, _ => by simp [lessL, lexC]
  | n + 1, x :: xs, y :: ys, h1, h2, o1, o2 => by
    have e := cmpAt_K (o1 x (List.mem_cons_self ..)) (o2 y (List.mem_cons_self ..))
    have ih := lessL_lex n xs ys (by simpa using h1) (by simpa using h2) (fun z hz => o1 z (List.mem_cons_of_mem _ hz)) (fun z hz => o2 z (List.mem_cons_of_mem _ hz))
    rw [lexC_cons, lessL, e, ih]
    by_cases h0 : cmpK cs x y = 0
    · rw [if_neg (fun hh => hh h0), if_neg (fun hh => hh h0)]
    · rw [if_pos h0, if_pos h0]
/-- substitutions over constants that are fit are the same where they stand alike -/
theorem lex_one {cs : List C3} (hn : cs.Nodup) : ∀ (n : Nat) (xs ys : List Int), xs.length = n → ys.length = n → IdsOk cs.length xs → IdsOk cs.length ys → lexC cs n xs ys = 0 → xs = ys
  | 0, [], [], _, _, _, _, _ => rfl
  | n + 1, x :: xs, y :: ys, h1, h2, o1, o2, h => by
    rw [lexC_cons] at h
    have ox := o1 x (List.mem_cons_self ..)
    have oy := o2 y (List.mem_cons_self ..)
    have e0 : cmpK cs x y = 0 := by
      by_cases h0 : cmpK cs x y = 0
      · exact h0
      · rw [if_pos h0] at h
        exact h
    rw [if_neg (fun hh => hh e0)] at h
    have ih := lex_one hn n xs ys (by simpa using h1) (by simpa using h2) (fun z hz => o1 z (List.mem_cons_of_mem _ hz)) (fun z hz => o2 z (List.mem_cons_of_mem _ hz)) h
    obtain ⟨a1, a2, a3⟩ := cmpC_eq e0
    have hx : x.toNat < cs.length := by omega
    have hy : y.toNat < cs.length := by omega
    have e1 : cD cs x = cs[x.toNat] := by unfold cD; rw [List.getElem?_eq_getElem hx]; rfl
    have e2 : cD cs y = cs[y.toNat] := by unfold cD; rw [List.getElem?_eq_getElem hy]; rfl
    have e3 : cD cs x = cD cs y := by
      have a4 : (cD cs x).2.2 = (cD cs y).2.2 := by
        rw [ByteArray.toList_eq, ByteArray.toList_eq] at a3
        exact ByteArray.ext (Array.toList_inj.1 a3)
      exact Prod.ext a1 (Prod.ext a2 a4)
    rw [e1, e2] at e3
    have e4 : x.toNat = y.toNat := (List.getElem_inj hn).1 e3
    have e5 : x = y := by omega
    rw [e5, ih]
end Mt
end Go.Proofs.Ytkejjiohkhlnnaa

namespace Go.Proofs.Ytkejjiohkhlnnaa
open Go.RowKit Go.Lib
namespace Mt

/-- a list of a list of lists: its address, its room, what it holds -/
abbrev It := Option Addr × Nat × List Int
def itV (x : It) : Value := .slice x.1 x.2.2.length x.2.1
/-- what holds of the items -/
structure ItemsAt (ob : Nat) (w : World) (vb : Option Nat) (l : List It) : Prop where
  row : ∀ x ∈ l, w.ownsRow (ob + 1) 3 1 (itV x) x.2.2.length (x.2.2.map (Value.int .i64)) ∧ ∀ g, (itV x).ownBlock = some g → vb ≠ some g
  apart : l.Pairwise (fun x y => ∀ g, (itV x).ownBlock = some g → (itV y).ownBlock ≠ some g)
theorem items_zip {P : Value → List Int → Prop} (hP : ∀ u xs, P u xs → ∃ a c, u = .slice a xs.length c) : ∀ (hs : List Value) (acc : List (List Int)), hs.length = acc.length → (∀ (i : Nat) xs, acc[i]? = some xs → ∃ u, hs[i]? = some u ∧ P u xs) →
    ∃ l : List It, l.map itV = hs ∧ l.map (·.2.2) = acc ∧ ∀ x ∈ l, P (itV x) x.2.2
  | [], [], _, _ => ⟨[], rfl, rfl, fun x hx => by cases hx⟩
  | u :: hs, xs :: acc, hl, h => by
    obtain ⟨u', h1, h2⟩ := h 0 xs rfl
    have e : u = u' := by simpa using h1
    subst e
    obtain ⟨a, c, rfl⟩ := hP _ _ h2
    obtain ⟨l, k1, k2, k3⟩ := items_zip hP hs acc (by simpa using hl) (fun i ys hy => h (i + 1) ys hy)
    refine ⟨(a, c, xs) :: l, by simp [k1, itV], by simp [k2], fun x hx => ?_⟩
    rcases List.mem_cons.1 hx with rfl | hx
    · exact h2
    · exact k3 x hx
theorem OutV.items {ob : Nat} {v : Value} {acc : List (List Int)} {w : World} (O : OutV ob v acc w) : ∃ l : List It, acc = l.map (·.2.2) ∧ w.ownsRow (ob + 1) 22 1 v l.length (l.map itV) ∧ ItemsAt ob w v.ownBlock l := by
  obtain ⟨hs, h1, h2, h3⟩ := O.row
  have hl : hs.length = acc.length := by have := h1.1; simpa using this
  obtain ⟨l, k1, k2, k3⟩ := items_zip (P := fun u xs => w.ownsRow (ob + 1) 3 1 u xs.length (xs.map (Value.int .i64)) ∧ ∀ g, u.ownBlock = some g → v.ownBlock ≠ some g) (fun u xs h => owns_shape' h.1) hs acc hl (fun i xs hx => by
    obtain ⟨u, q1, q2, q3⟩ := h2 i xs hx
    exact ⟨u, q1, q2, q3⟩)
  have hll : l.length = acc.length := by rw [← k2]; simp
  refine ⟨l, k2.symm, by rw [hll, k1]; exact h1, ⟨k3, ?_⟩⟩
  rw [List.pairwise_iff_getElem]
  intro i j hi hj hij
  have e : ∀ (i : Nat) (hi : i < l.length), hs[i]? = some (itV l[i]) := fun i hi => by rw [← k1]; simp [hi]
  exact h3 i j _ _ hij (e i hi) (e j hj)
theorem OutV.ofItems {ob : Nat} {v : Value} {w : World} {l : List It} (hb : w.heap[ob]? = some (.cells #[v] 38 (0, 0))) (hr : w.ownsRow (ob + 1) 22 1 v l.length (l.map itV)) (h : ItemsAt ob w v.ownBlock l) : OutV ob v (l.map (·.2.2)) w := by
  refine ⟨hb, l.map itV, by rw [List.length_map]; exact hr, fun i xs hx => ?_, fun i j u u' hij hi hj => ?_⟩
  · rw [List.getElem?_map] at hx
    obtain ⟨x, hx1, rfl⟩ := Option.map_eq_some_iff.1 hx
    obtain ⟨q1, q2⟩ := h.row x (List.mem_of_getElem? hx1)
    exact ⟨itV x, by rw [List.getElem?_map, hx1]; rfl, q1, q2⟩
  · rw [List.getElem?_map] at hi hj
    obtain ⟨x, hx1, rfl⟩ := Option.map_eq_some_iff.1 hi
    obtain ⟨y, hy1, rfl⟩ := Option.map_eq_some_iff.1 hj
    obtain ⟨hi', ei⟩ := List.getElem?_eq_some_iff.1 hx1
    obtain ⟨hj', ej⟩ := List.getElem?_eq_some_iff.1 hy1
    have := List.pairwise_iff_getElem.1 h.apart i j hi' hj' hij
    rw [ei, ej] at this
    exact this
namespace Sq
open Go.Sort (PermIn SortedIn)
theorem Oth.low {blk n : Nat} {w w' : World} (h : Oth blk w w') (h1 : n ≤ blk) (h2 : n ≤ w.heap.size) : Below n w w' :=
  ⟨h.os, h.tape, h.output, h.size, fun j hj => h.keep j (by omega) (by omega)⟩
theorem permIn_all {α : Type} [Inhabited α] {n : Nat} {d R : Array α} (h : PermIn 0 n d R) (hd : d.size = n) : R.size = n ∧ R.toList.Perm d.toList := by
  have hR : R.size = n := h.1.trans hd
  refine ⟨hR, ?_⟩
  have := h.2.2
  rw [show R.extract 0 n = R from by rw [← hR]; exact Array.extract_size, show d.extract 0 n = d from by rw [← hd]; exact Array.extract_size] at this
  exact this
theorem sorted_pw {α : Type} [Inhabited α] {n : Nat} {R : Array α} {lt : α → α → Bool} (h : SortedIn lt 0 n R) (hR : R.size = n) : R.toList.Pairwise (fun x y => lt y x = false) := by
  rw [List.pairwise_iff_getElem]
  intro i j hi hj hij
  have hi' : i < R.size := by simpa using hi
  have hj' : j < R.size := by simpa using hj
  have := h i j (Nat.zero_le _) hij (by omega)
  rw [getElem!_pos R i hi', getElem!_pos R j hj'] at this
  simpa using this
end Sq
end Mt
end Go.Proofs.Ytkejjiohkhlnnaa

namespace Go.Proofs.Ytkejjiohkhlnnaa
open Go.RowKit Go.Lib
namespace Mt
open Sq (SortD SortIn At Aft Oth)

/-- the row, sorted -/
theorem subs_after {ob blk c m : Nat} {w w' : World} {l l' : List It} {cur cur' : Array Value} (hb : w.heap[ob]? = some (.cells #[.slice (some ⟨blk, 0, none⟩) l.length c] 38 (0, 0))) (hr : w.ownsRow (ob + 1) 22 1 (.slice (some ⟨blk, 0, none⟩) l.length c) l.length (l.map itV))
    (hi : ItemsAt ob w (some blk) l) (hc : w.heap[blk]? = some (.cells cur 22 (0, 0))) (hcm : cur.size = m) (ho : Oth blk w w') (hc' : w'.heap[blk]? = some (.cells cur' 22 (0, 0))) (hcm' : cur'.size = m) (hp : l'.Perm l) (hg : ∀ i (h : i < l'.length), cur'[i]? = some (itV l'[i])) :
    OutV ob (.slice (some ⟨blk, 0, none⟩) l.length c) (l'.map (·.2.2)) w' := by
  have hlen := hp.length_eq
  rcases hr.2 with ⟨h, -⟩ | ⟨g, cap, cur2, h5, hgb, hc2, hnc, hcap, hsz, ht⟩
  · cases h
  · injection h5 with h5 h6 h7
    injection h5 with h5
    injection h5 with h5
    subst h5
    subst h7
    rw [hc] at hc2
    injection hc2 with hc2
    injection hc2 with hc2
    subst hc2
    have hne : ob ≠ blk := by omega
    have hob := (Array.getElem?_eq_some_iff.1 hb).1
    refine OutV.ofItems ((ho.keep ob hob hne).trans hb) ⟨by simp [hlen], .inr ⟨blk, c, cur', by rw [hlen], hgb, hc', by rw [hlen]; exact hnc, hcap, by rw [hcm', ← hcm]; exact hsz, ?_⟩⟩ ⟨fun x hx => ?_, ?_⟩
    · apply List.ext_getElem?
      intro i
      by_cases hi : i < l'.length
      · rw [List.getElem?_take_of_lt (by omega)]
        have := hg i hi
        simp only [Array.getElem?_toList, this, List.getElem?_map, List.getElem?_eq_getElem hi, Option.map_some]
      · rw [List.getElem?_eq_none (by simp; omega), List.getElem?_eq_none (by simp; omega)]
    · obtain ⟨q1, q2⟩ := hi.row x (hp.subset hx)
      refine ⟨owns_block q1 (fun g hg => ho.keep g (q1.lt g hg).2 (fun e => q2 g hg (by rw [e]))), q2⟩
    · exact (List.Perm.pairwise_iff (fun {x y} h g e e' => h g e' e) hp).2 hi.apart
set_option maxHeartbeats 4000000 in
set_option maxRecDepth 100000 in
theorem subs_walk (v : Value) (n : Nat) (ca : Option Addr) (cc : Nat) (W : World) (a : Option Addr) (c k : Nat) (hv : v = .slice a k c) (R : World → Prop)
    (cS : Calls Try.prog 74 #[.iface 38 v, .func (.func 75) #[] #[.pointer (some ⟨W.heap.size + 1, 0, none⟩), .pointer (some ⟨W.heap.size, 0, none⟩)]] ((W.alloc (.cells #[.slice ca n cc] 24)).alloc (.cells #[v] 38)) fun e w' => e = .returned (.tuple #[]) ∧ R w') :
    Calls Try.prog 50 #[.slice ca n cc, v] W fun e w' => e = .returned (.tuple #[]) ∧ R w' := by
  subst hv
  have cS := Lib.hid cS
  go_enter Try.func50, Try.ntmps50
  go_wp2_with fail
  refine cS.out.mono ?_
  rintro e w' ⟨rfl, hS⟩
  have HS := Lib.hid hS
  clear hS
  go_wp2_with fail
  go_end0
  exact ⟨rfl, HS.out⟩
theorem srtL_small (cs : List C3) (n : Nat) {ls : List (List Int)} (h : ls.length ≤ 1) : srtL cs n ls = ls := by
  match ls, h with
  | [], _ => exact List.mergeSort_nil
  | [x], _ => exact List.mergeSort_singleton x
theorem sortSubs_any {w : World} (ob : Nat) (v : Value) (acc : List (List Int)) (ca : Option Addr) (cc : Nat) (cs : List C3) (n : Nat) (W : World) (O : OutV ob v acc W) (hb : Below w.heap.size w W) (ho : w.heap.size ≤ ob) (hc : Consts w ca cs) (hcs : cs.Nodup) (hl : ∀ x ∈ acc, x.length = n) (hn : n ≤ 16) (hid : ∀ x ∈ acc, IdsOk cs.length x) (hlen : acc.length ≤ 1000000) :
    Calls Try.prog 50 #[.slice ca cs.length cc, v] W (SubsEnd ob v (srtL cs n acc) W) := by
  obtain ⟨l, hacc, hrow, hit⟩ := O.items
  obtain ⟨W0, hW0⟩ : ∃ V, V = (W.alloc (.cells #[.slice ca cs.length cc] 24)).alloc (.cells #[v] 38) := ⟨_, rfl⟩
  have hb0 : Below W.heap.size W W0 := by rw [hW0]; exact ((Below.refl _ _).alloc (Nat.le_refl _) _).alloc (by simp) _
  have hob := O.lt
  have hll : l.length = acc.length := by rw [hacc]; simp
  by_cases h2 : l.length ≤ 1
  · have hv : ∃ a c, v = .slice a l.length c := owns_shape' hrow
    obtain ⟨a, c, rfl⟩ := hv
    have cT := Sq.slice_tiny a l.length c h2 (.func 75) #[] #[.pointer (some ⟨W.heap.size + 1, 0, none⟩), .pointer (some ⟨W.heap.size, 0, none⟩)] W0
    rw [hW0] at cT
    rw [srtL_small cs n (by omega)]
    exact (subs_walk _ cs.length ca cc W a c l.length rfl _ cT).mono fun e w' h => ⟨h.1, (O.below hb0).below (by rw [hW0]; exact h.2), (hb0.mono (Nat.le_of_lt hob)).trans ((show Below W0.heap.size W0 w' by rw [hW0]; exact h.2).mono (by have := hb0.size; omega))⟩
  · rcases hrow.2 with ⟨-, h⟩ | ⟨blk, c, cur, rfl, hgb, hcb, hnc, hcap, hsz, ht⟩
    · omega
    · have hltb := (Array.getElem?_eq_some_iff.1 hcb).1
      have hcb0 := (hb0.block blk hltb).trans hcb
      haveI : Inhabited {x // x ∈ l} := ⟨⟨l[0], List.getElem_mem _⟩⟩
      obtain ⟨S, hS⟩ : ∃ S : SortD {x // x ∈ l}, S = ⟨blk, l.length, cur.size, c, fun x => itV x.1, fun x y => decide (lexC cs n x.1.2.2 y.1.2.2 < 0), .pointer (some ⟨W.heap.size + 1, 0, none⟩), .pointer (some ⟨W.heap.size, 0, none⟩), typeHandle Try.prog 22, W0⟩ := ⟨_, rfl⟩
      have hids : ∀ x : {x // x ∈ l}, x.1.2.2.length = n ∧ IdsOk cs.length x.1.2.2 := fun x => by
        have : x.1.2.2 ∈ acc := by rw [hacc]; exact List.mem_map_of_mem x.2
        exact ⟨hl _ this, hid _ this⟩
      have hcur : ∀ i (h : i < l.length), cur[i]? = some (itV l[i]) := fun i h => by
        have e : (cur.toList.take (l.length * 1))[i]? = (l.map itV)[i]? := by rw [ht]
        rw [List.getElem?_take_of_lt (by omega)] at e
        simpa [h] using e
      have CI : SortIn S := by
        subst hS
        refine ⟨fun d V hA i j hi hj => ?_, fun x => rfl, by simp only; have := hb0.size; omega, by simp only; omega, rfl⟩
        simp only at hi hj hA ⊢
        have hO := hA.oth
        simp only at hO
        have hbV : Below w.heap.size w V := (hb.trans (hb0.mono hb.size)).trans (hO.low (by have := hgb; omega) (by have := hb0.size; have := hb.size; omega))
        have hcs : W0.cell? ⟨W.heap.size, 0, none⟩ = some (.slice ca cs.length cc) := by rw [hW0]; simp
        have hsb : W0.cell? ⟨W.heap.size + 1, 0, none⟩ = some (.slice (some ⟨blk, 0, none⟩) l.length c) := by rw [hW0]; simp
        have hints : ∀ x : {x // x ∈ l}, Ints V x.1.1 x.1.2.2 := fun x => by
          obtain ⟨q1, q2⟩ := hit.row x.1 x.2
          have q3 := owns_block q1 (w' := V) (fun g hg => (hO.keep g (by have := (q1.lt g hg).2; have := hb0.size; omega) (fun e => q2 g hg (by rw [e]; rfl))).trans (hb0.block g (q1.lt g hg).2))
          obtain ⟨a', c', e, h⟩ := ints_of_row q3
          unfold itV at e
          injection e with e1 e2 e3
          rw [e1]
          exact h
        have ci := (hA.row.get (i := i) hi).1
        have cj := (hA.row.get (i := j) hj).1
        have := less_any (W.heap.size + 1) W.heap.size blk l.length c i j ca cc cs d[i]!.1.2.2 d[j]!.1.2.2 d[i]!.1.1 d[j]!.1.1 d[i]!.1.2.1 d[j]!.1.2.1 V (hO.cell hsb (by omega)) (hO.cell hcs (by omega)) (hc.below hbV (Nat.le_refl _)) ci cj hi hj (hints _) (hints _) ((hids _).1.trans (hids _).1.symm) (by rw [(hids _).1]; exact hn) (hids _).2 (hids _).2
        rw [lessL_lex n _ _ (hids _).1 (hids _).1 (hids _).2 (hids _).2] at this
        exact this
      have hO : Go.Sort.SWO S.lt := by
        subst hS
        have T := (three_lex cs n).swo
        exact ⟨fun x => T.irrefl _, fun x y z h1 h2 => T.trans _ _ _ h1 h2, fun x y z h1 h2 => T.ntrans _ _ _ h1 h2⟩
      have hA0 : At S l.attach.toArray W0 := by
        subst hS
        refine ⟨Oth.refl _ _, by simp, cur, hcb0, rfl, fun i hi => ?_⟩
        simp only at hi ⊢
        rw [hcur i hi, getElem!_pos l.attach.toArray i (by simpa using hi)]
        simp
      have cT := Sq.slice_any CI hO l.attach.toArray W0 hA0 (by subst hS; simp only; omega)
      subst hS
      rw [hW0] at cT
      refine (subs_walk _ cs.length ca cc W _ c l.length rfl _ cT).mono fun e w' h => ?_
      obtain ⟨rfl, R, hP, hSo, hAf⟩ := h
      rw [← hW0] at hAf
      simp only at hP hSo
      obtain ⟨hRs, hRp⟩ := Sq.permIn_all hP (by simp)
      have hpw := Sq.sorted_pw hSo hRs
      obtain ⟨l', hl'⟩ : ∃ l', l' = R.toList.map (·.1) := ⟨_, rfl⟩
      have hp : l'.Perm l := by
        have := hRp.map (·.1)
        rw [← hl', List.toList_toArray, List.attach_map_subtype_val] at this
        exact this
      have hsrt : l'.map (·.2.2) = srtL cs n acc := by
        refine sorted_one (le := fun x y => leC cs n x y = true) _ _ ?_ ?_ (srtL_sorted cs n acc) ?_
        · refine (hp.map _).trans ?_
          rw [← hacc]
          exact (srtL_perm cs n acc).symm
        · rw [hl', List.map_map, List.pairwise_map]
          refine hpw.imp fun {x y} h => ?_
          have T := three_lex cs n
          have := T.anti x.1.2.2 y.1.2.2
          simp only [decide_eq_false_iff_not] at h
          unfold leC
          simp only [Function.comp_apply, decide_eq_true_eq]
          omega
        · intro x hx y hy h1 h2
          have m : ∀ z, z ∈ l'.map (·.2.2) → z ∈ acc := fun z hz => by rw [hacc]; exact (hp.map _).subset hz
          have T := (three_lex cs n).anti x y
          unfold leC at h1 h2
          simp only [decide_eq_true_eq] at h1 h2
          exact lex_one hcs n x y (hl _ (m x hx)) (hl _ (m y hy)) (hid _ (m x hx)) (hid _ (m y hy)) (by omega)
      have hO2 := hAf.oth
      obtain ⟨-, cur', hc', hcm', hg'⟩ := hAf.row
      simp only at hO2 hc' hcm' hg'
      have hO3 : Oth blk W w' := (Oth.below hb0).trans hO2
      have hl2 : l'.length = R.size := by rw [hl']; simp
      have := subs_after (l' := l') O.box hrow hit hcb rfl hO3 hc' hcm' hp (fun i hi => by
        rw [hg' i (by omega), getElem!_pos R i (by omega)]
        simp [hl'])
      rw [hsrt] at this
      exact ⟨rfl, this, hO3.low (by omega) (Nat.le_of_lt hob)⟩
end Mt
end Go.Proofs.Ytkejjiohkhlnnaa

namespace Go.Proofs.Ytkejjiohkhlnnaa
open Go.RowKit
namespace Mt

/-- what Ground leaves -/
def GroundZ (l : List (Bool × Int)) (sub : List Int) (w : World) (e : Ending) (w' : World) : Prop :=
  ∃ a c, e = .returned (.tuple #[.slice a ((groundL sub l).getD []).length c, .bool (groundL sub l).isSome]) ∧ IntsZ (fun j => w.heap.size ≤ j) w' a c ((groundL sub l).getD []) ∧ Below w.heap.size w w'
set_option maxHeartbeats 2000000 in
set_option maxRecDepth 8000 in
theorem groundZ_any (pred : Int) (ap aa : Option Addr) (cp ca : Nat) (l : List (Bool × Int)) (sub : List Int) (w : World) (hp : Slots w ap l) (ha : Ints w aa sub)
    (hl : l.length * 16 ≤ 140737488351232) (hm : sub.length ≤ 9223372036854775807) :
    Calls Try.prog 29 #[.agg #[.int .i64 pred, .slice ap l.length cp], .slice aa sub.length ca] w (GroundZ l sub w) := by
  obtain ⟨i0, hi, hz0, hz1, hz2⟩ := info_parts info3
  have HP := Lib.hid hp
  have HA := Lib.hid ha
  clear hp ha
  go_enter Try.func29, Try.ntmps29
  go_wp2_with (at_make; refine wpList_make_own _ rfl _ _ 22 rfl w.heap.size 3 i0 (.int .i64 0) 1 Try.underlying22 hi hz0 hz1 .i64 .i64 _ l.length rfl rfl rfl (by rw [hz2]; omega) (by unfold maxLen; omega) (by simp) ?_; intro w0 hown0 hgrow0; have hc1 := hgrow0.cell (a := ⟨w.heap.size, 1, none⟩) (v := .slice ap l.length cp) (by simp) (by simp))
  have hbe0 : Below w.heap.size w w0 := ((Below.refl _ _).alloc (Nat.le_refl _) _).grown hgrow0 (by simp) (fun j hj => by cases hj)
  go_loopw [6, 17] (fun v i wr => ∃ (k : Nat) (xs : List Int), k ≤ l.length ∧ i = .int .i64 k ∧ Hid (xs.length = k) ∧ Hid (groundL sub (l.take k) = some xs) ∧ wr.ownsRow w.heap.size 3 1 v k (xs.map (Value.int .i64)) ∧ Below w.heap.size w wr) (fun _ i _ => l.length - (intOf i).toNat)
  case atStart => exact ⟨0, [], Nat.zero_le _, rfl, Lib.hid rfl, Lib.hid rfl, by simpa using hown0, hbe0⟩
  case round =>
    clear hown0 hgrow0 hc1 hbe0
    obtain ⟨k, xs, hk, rfl, HX, HK, hown, hbel⟩ := hrel
    by_cases hlt : k < l.length
    · rcases HP.out with h | ⟨bp, op, rfl, hp⟩
      · rw [h] at hlt; simp at hlt
      · obtain ⟨v0, n0, c0, c1, HS⟩ := slots_at hp hlt
        have e0 := (hbel.cell (World.block_lt_of_cell? _ _ c0)).trans c0
        have e1 := (hbel.cell (World.block_lt_of_cell? _ _ c1)).trans c1
        clear hp c0 c1
        go_wp2_with fail
        have hbe2 : Below w.heap.size w (wr.alloc (.cells #[.bool v0, .int .i64 n0] 58)) := hbel.alloc hbel.size _
        refine (value_any aa ca sub v0 n0 _ (HA.out.below hbe2) hm).mono ?_
        rintro e w1 ⟨rfl, hb1⟩
        have hbe3 : Below w.heap.size w w1 := hbe2.trans (hb1.mono (by have := hbel.size; simp; omega))
        have hown1 : w1.ownsRow w.heap.size 3 1 u6 k (xs.map (Value.int .i64)) := (hown.alloc (.cells #[.bool v0, .int .i64 n0] 58)).kept (row := none) ⟨hb1.os, hb1.tape, hb1.output, hb1.size, fun j hj _ => hb1.block j hj⟩ (by cases u6.ownBlock <;> simp)
        obtain ⟨x, hx⟩ : ∃ x, valueL v0 n0 sub = x := ⟨_, rfl⟩
        have HG : Hid (groundL sub (l.take (k + 1)) = if x < 0 then none else some (xs ++ [x])) := Lib.hid (by
          rw [take_snoc' HS.out, ground_snoc, HK.out]; simp only [Option.bind_some, hx])
        rw [hx]
        clear hx hb1 hown hbe2 e0 e1 HS
        by_cases hx0 : x < 0
        · go_wp2
          go_ret2
          have hn : groundL sub l = none := by
            have := HG.out
            rw [if_pos hx0] at this
            rw [← List.take_append_drop (k + 1) l]
            exact ground_none _ _ _ this
          exact ⟨none, 0, by rw [hn]; rfl, ⟨.inl (by rw [hn]; rfl), fun _ => ⟨by rw [hn]; rfl, rfl⟩⟩, hbe3⟩
        · go_wp2_with (first | (at_builtin; refine wpList_append_own _ rfl _ _ 22 rfl w.heap.size 3 i0 (.int .i64 0) 1 8 Try.underlying22 hi hz0 hz1 hz2 rfl (by decide) _ _ _ rfl (hown1.alloc _) ⟨w1.heap.size, 0, none⟩ 1 1 [.int .i64 x] rfl rfl (cell_one_new _ _ _) (by simp [Value.oneCell']) (by unfold maxLen; omega) (by omega) (by have := hbe3.size; simp; omega) ?_; intro v' w2 hown2 hgrow _))
          have hb4 : Below w.heap.size w w2 := (hbe3.alloc hbe3.size _).grown hgrow (by have := hbe3.size; simp; omega) (fun j hj => by have := (hown1.alloc (Obj.cells #[.int .i64 x] 3)).lt j hj; omega)
          go_wp2
          go_roundw
          case rel => exact ⟨k + 1, xs ++ [x], by omega, by go_num, Lib.hid (by simp [HX.out]), Lib.hid (by rw [HG.out, if_neg (by omega)]), by simpa using hown2, hb4⟩
          case measure => simp [intOf]; omega
    · go_wp2
      go_ret2
      have hn : groundL sub l = some xs := by
        have := HK.out
        rwa [List.take_of_length_le (by omega)] at this
      have hX := HX.out
      subst hX
      obtain ⟨a', c', rfl, hI⟩ := intsZ_of_row hown
      exact ⟨a', c', by rw [hn]; rfl, by rw [hn]; exact hI, hbel⟩
end Mt
end Go.Proofs.Ytkejjiohkhlnnaa

namespace Go.Proofs.Ytkejjiohkhlnnaa
open Go.RowKit
namespace Mt

theorem tst_nums (i j P T : Nat) (hij : i = P + j) (hj : j < T) (hP : P + T ≤ 1000) : ¬ i < P ∧ (i : Int) < (P : Int) + (T : Int) ∧ ((i : Int) - (P : Int)) = (j : Int) ∧ (j : Int) ≤ 9223372036854775807 ∧ (0 : Int) ≤ (j : Int) ∧ (j : Int) < (T : Int) ∧ (P : Int) ≤ (i : Int) ∧ i ≤ 1000 ∧ P + T ≤ 1000 ∧ IntKind.i64.wrap (j : Int) = (j : Int) :=
  ⟨by omega, by omega, by omega, by omega, by omega, by omega, by omega, by omega, by omega, by rw [IntKind.wrap_i64]; omega⟩
set_option linter.unusedSimpArgs false in
set_option maxHeartbeats 16000000 in
set_option maxRecDepth 100000 in
theorem down_tst (D : SrchD) (C : SrchIn D) (i j : Nat) (t : Tst) (rest : List Cd) (ht : D.R.tests[j]? = some t) (hij : i = D.R.pos.length + j) (hi : i < D.last) (ih : Goes D (i + 1) rest) : Goes D i (.tst t :: rest) := by
  intro W a c sub v acc A O hI hnil hs hsr hn
  obtain ⟨n, hnl⟩ : ∃ n, n = sub.length := ⟨_, rfl⟩
  rw [← hnl] at hs ⊢
  have Hnl := Lib.hid hnl
  have HC := Lib.hid C
  have Hsr := Lib.hid hsr
  have Hnil := Lib.hid hnil
  have Hih := Lib.hid ih
  obtain ⟨res, hres⟩ : ∃ r, r = resL D.σ.rows D.cs (.tst t :: rest) sub := ⟨_, rfl⟩
  rw [← hres] at hn ⊢
  have Hres := Lib.hid hres
  have hjT : j < D.R.tests.length := (List.getElem?_eq_some_iff.1 ht).1
  have hPl := C.ok.conds
  have Hp := Lib.hid ht
  clear hnl C hsr hnil hres ih ht
  obtain ⟨b3, h3⟩ : ∃ b, b = W.heap.size := ⟨_, rfl⟩
  obtain ⟨b4, h4⟩ : ∃ b, b = W.heap.size + 1 := ⟨_, rfl⟩
  obtain ⟨b5, h5⟩ : ∃ b, b = W.heap.size + 1 + 1 := ⟨_, rfl⟩
  obtain ⟨b6, h6⟩ : ∃ b, b = W.heap.size + 1 + 1 + 1 := ⟨_, rfl⟩
  obtain ⟨W0, hW0⟩ : ∃ V, V = (((W.alloc (.cells #[.pointer (some ⟨D.qb, 0, none⟩)] 94)).alloc (.cells #[.int .i64 i] 3)).alloc (.cells #[.slice a n c] 22)).alloc (.cells #[.bool false] 4) := ⟨_, rfl⟩
  obtain ⟨hb0, hs0, g3, g4, g5, g6⟩ := four_boxes W _ _ _ _ _ _ _ _ b3 b4 b5 b6 W0 h3 h4 h5 h6 hW0
  have A0 := A.below O hb0
  have O0 := O.below hb0
  have I0 := hI.grew (Grew.below hb0 O.lt)
  have HG0 := Lib.hid (Grew.below hb0 O.lt)
  have HA0 := Lib.hid A0
  have HO0 := Lib.hid O0
  have HI0 := Lib.hid I0
  have y3 : W0.cell? ⟨b3, 0, none⟩ = some (.pointer (some ⟨D.qb, 0, none⟩)) := by simp [World.cell?, g3]
  have y4 : W0.cell? ⟨b4, 0, none⟩ = some (.int .i64 i) := by simp [World.cell?, g4]
  have y5 : W0.cell? ⟨b5, 0, none⟩ = some (.slice a n c) := by simp [World.cell?, g5]
  have hqc : ∀ (j : Nat) y, (srchCells D.sb D.ob D.ca D.cs.length D.cc D.R D.last)[j]? = some y → W0.cell? ⟨D.qb, j, none⟩ = some y := fun j y hj => by
    have hq := A0.q
    simp [World.cell?, hq, hj]
  have yl : W0.cell? ⟨D.qb, 9, none⟩ = some (.int .i64 D.last) := hqc 9 _ rfl
  have yf : W0.cell? ⟨D.qb, 10, none⟩ = some (.func (.func 48) #[] #[.pointer (some ⟨D.ob, 0, none⟩)]) := hqc 10 _ rfl
  have hlt := O.lt
  have hrow : ∀ g, GOf D.ob W = some g → g < W.heap.size := fun g e => (O.rowLt (O.gof ▸ e)).2
  have hq6 : D.qb ≠ b6 := by have := (Array.getElem?_eq_some_iff.1 A.q).1; omega
  have ho6 : D.ob ≠ b6 := by omega
  have hdist : b3 ≠ b6 ∧ b4 ≠ b6 ∧ b5 ≠ b6 := ⟨by omega, by omega, by omega⟩
  obtain ⟨f3, f4, f5⟩ := hdist
  have Hrow := Lib.hid hrow
  have Hqo := Lib.hid A.qo
  have hgV : GOf D.ob W = v.ownBlock := O.gof
  have Hqg : Hid (v.ownBlock ≠ some D.qb) := Lib.hid (by rw [← hgV]; exact A.qg)
  have Hfar : Hid (∀ b, W.heap.size ≤ b → v.ownBlock ≠ some b) := Lib.hid (fun b hb e => by rw [← hgV] at e; have := hrow _ e; omega)
  have Hlo : Hid (W.heap.size ≤ b3 ∧ W.heap.size ≤ b4 ∧ W.heap.size ≤ b5 ∧ W.heap.size ≤ b6) := Lib.hid ⟨by omega, by omega, by omega, by omega⟩
  have Hb6o : Hid (W.heap.size ≤ b6 ∧ D.ob ≠ b6 ∧ v.ownBlock ≠ some b6) := Lib.hid ⟨by omega, by omega, Hfar.out _ (by omega)⟩
  clear hgV
  have Hb6 : Hid (W.heap.size ≤ b6 ∧ b6 < W0.heap.size) := Lib.hid ⟨by omega, by omega⟩
  have HW0 := Lib.hid hW0
  have H3 := Lib.hid h3
  have H4 := Lib.hid h4
  have H5 := Lib.hid h5
  have H6 := Lib.hid h6
  have Hqc := Lib.hid hqc
  have Hg := Lib.hid (⟨g3, g4, g5, g6⟩ : _ ∧ _ ∧ _ ∧ _)
  clear hqc g3 g4 g5 g6 hs0 A0 O0 I0 A O hI hrow hW0 h3 h4 h5 h6
  have hne : ((i : Int) == (D.last : Int)) = false := by simp; omega
  have e0 : W0.cell? ⟨D.qb, 0, none⟩ = some (.pointer (some ⟨D.sb, 0, none⟩)) := Hqc.out 0 _ rfl
  have e2 : W0.cell? ⟨D.qb, 2, none⟩ = some (.int .i64 D.R.hp) := Hqc.out 2 _ rfl
  have e3 : W0.cell? ⟨D.qb, 3, none⟩ = some (.slice D.R.ha D.R.hn D.R.hc) := Hqc.out 3 _ rfl
  have e4 : W0.cell? ⟨D.qb, 4, none⟩ = some (.slice D.R.pa D.R.pos.length D.R.pc) := Hqc.out 4 _ rfl
  have e5 : W0.cell? ⟨D.qb, 5, none⟩ = some (.slice D.R.ta D.R.tests.length D.R.tc) := Hqc.out 5 _ rfl
  have e6 : W0.cell? ⟨D.qb, 6, none⟩ = some (.slice D.R.na D.R.neg.length D.R.nc) := Hqc.out 6 _ rfl
  have e7 : W0.cell? ⟨D.qb, 7, none⟩ = some (.slice D.R.va D.R.nv D.R.vc) := Hqc.out 7 _ rfl
  have e8 : W0.cell? ⟨D.qb, 8, none⟩ = some (.int .i64 D.R.cl) := Hqc.out 8 _ rfl
  have e1 : W0.cell? ⟨D.qb, 1, none⟩ = some (.slice D.ca D.cs.length D.cc) := Hqc.out 1 _ rfl
  have HNUM := Lib.hid (tst_nums i j D.R.pos.length D.R.tests.length hij hjT (by omega))
  clear hij
  go_enter Try.func49, Try.ntmps49
  go_upto_region 1 with fail
  rw [← HW0.out, ← H6.out, ← H5.out, ← H4.out, ← H3.out]
  go_quiet (fail)
  obtain ⟨V0, hV0⟩ : ∃ V, V = W0.drewN nq := ⟨_, rfl⟩
  have hbV : Below W0.heap.size W0 V0 := by rw [hV0]; exact below_drewN (Below.refl _ _) _
  rw [← hV0]
  have y3 := on_cell hbV y3
  have y4 := on_cell hbV y4
  have y5 := on_cell hbV y5
  have e0 := on_cell hbV e0
  have e1 := on_cell hbV e1
  have e2 := on_cell hbV e2
  have e3 := on_cell hbV e3
  have e4 := on_cell hbV e4
  have e5 := on_cell hbV e5
  have e6 := on_cell hbV e6
  have e7 := on_cell hbV e7
  have e8 := on_cell hbV e8
  have HbV := Lib.hid hbV
  clear hV0 hbV yl yf hne
  go_upto_region 8 with fail
  obtain ⟨b7, hb7⟩ : ∃ b, b = V0.heap.size := ⟨_, rfl⟩
  obtain ⟨V1, hV1⟩ : ∃ V, V = V0.alloc (.cells #[.int .i64 D.R.hp, .slice D.R.ha D.R.hn D.R.hc, .slice D.R.pa D.R.pos.length D.R.pc, .slice D.R.ta D.R.tests.length D.R.tc, .slice D.R.na D.R.neg.length D.R.nc, .slice D.R.va D.R.nv D.R.vc, .int .i64 D.R.cl] 32) := ⟨_, rfl⟩
  have hbV1 : Below V0.heap.size V0 V1 := by rw [hV1]; exact (Below.refl _ _).alloc (Nat.le_refl _) _
  have z2 : V1.cell? ⟨b7, 2, none⟩ = some (.slice D.R.pa D.R.pos.length D.R.pc) := by rw [hV1, hb7]; simp
  have z3 : V1.cell? ⟨b7, 3, none⟩ = some (.slice D.R.ta D.R.tests.length D.R.tc) := by rw [hV1, hb7]; simp
  have y3 := on_cell hbV1 y3
  have y4 := on_cell hbV1 y4
  have y5 := on_cell hbV1 y5
  have e1 := on_cell hbV1 e1
  have hb01 : Below W0.heap.size W0 V1 := HbV.out.trans (hbV1.mono HbV.out.size)
  rw [← hV1, ← hb7]
  have hO1 : OutV D.ob v acc V1 := HO0.out.below hb01
  have hA1 : SrchAt D V1.drew := (HA0.out.below HO0.out hb01).below hO1 (Below.refl _ _).drew
  obtain ⟨bt, ot, t', hta, ht', c0, c1, c2, c3, c4⟩ := tsts_at HC.out.rule.tests hjT
  have htt : t' = t := by have := Hp.out; rw [ht'] at this; exact Option.some.inj this
  subst htt
  have c0 : V1.cell? ⟨bt, ot + j * 5, none⟩ = some (.int .i64 t'.1) := below_cell hA1.old (Nat.le_refl _) c0
  have c1 : V1.cell? ⟨bt, ot + j * 5 + 1, none⟩ = some (.bool t'.2.1.1) := below_cell hA1.old (Nat.le_refl _) c1
  have c2 : V1.cell? ⟨bt, ot + j * 5 + 2, none⟩ = some (.int .i64 t'.2.1.2) := below_cell hA1.old (Nat.le_refl _) c2
  have c3 : V1.cell? ⟨bt, ot + j * 5 + 3, none⟩ = some (.bool t'.2.2.1) := below_cell hA1.old (Nat.le_refl _) c3
  have c4 : V1.cell? ⟨bt, ot + j * 5 + 4, none⟩ = some (.int .i64 t'.2.2.2) := below_cell hA1.old (Nat.le_refl _) c4
  have hI1 := (HI0.out.grew (Grew.below hb01 HO0.out.lt)).grew (Grew.below (Below.refl _ _).drew hO1.lt)
  rw [hta] at z3 ⊢
  obtain ⟨op, ⟨lv, ln⟩, ⟨rv, rn⟩⟩ := t'
  simp only at c0 c1 c2 c3 c4
  have cH := Lib.hid (holds_any D.ca a D.cc c D.cs sub op lv ln rv rn V1.drew (HC.out.consts.below hA1.old (Nat.le_refl _)) hI1.ints (fun q hq => by have := (HC.out.cok.ok q hq).2.2; simp only [maxLen] at this; omega) (by rw [← Hnl.out]; omega))
  rw [← Hnl.out] at cH
  have HA1 := Lib.hid hA1
  have HO1 := Lib.hid hO1
  have HI1 := Lib.hid hI1
  have Hb01 := Lib.hid hb01
  clear hV1 hb7 hbV1 hb01 hA1 hO1 hI1 ht' hta e0 e2 e3 e4 e5 e6 e7 e8
  obtain ⟨hb, hbv⟩ : ∃ x, x = (holdsR D.cs op (valueL lv ln sub) (valueL rv rn sub)).1 := ⟨_, rfl⟩
  obtain ⟨hc2, hcv⟩ : ∃ x, x = (holdsR D.cs op (valueL lv ln sub) (valueL rv rn sub)).2 := ⟨_, rfl⟩
  rw [← hbv, ← hcv] at cH
  have Hbv := Lib.hid hbv
  clear hbv hcv
  obtain ⟨x8', x15i, hsub2, hj9, hj1, hj2, hge, hi1k, hPT1k, -⟩ := HNUM.out
  go_upto_region 16 with fail
  have hw2 := HNUM.out.2.2.2.2.2.2.2.2.2
  refine wp_region_noPanic ?_
  refine wp_region_held_drew (S := (fun w' => w'.cell? ⟨b3, 0, none⟩ = some (.pointer (some ⟨D.qb, 0, none⟩)) ∧ w'.cell? ⟨b4, 0, none⟩ = some (.int .i64 i) ∧ w'.cell? ⟨b5, 0, none⟩ = some (.slice a n c) ∧ w'.cell? ⟨D.qb, 1, none⟩ = some (.slice D.ca D.cs.length D.cc) ∧ w'.cell? ⟨b7, 2, none⟩ = some (.slice D.R.pa D.R.pos.length D.R.pc) ∧ w'.cell? ⟨b7, 3, none⟩ = some (.slice (some ⟨bt, ot, none⟩) D.R.tests.length D.R.tc) ∧ w'.cell? ⟨bt, ot + j * 5, none⟩ = some (.int .i64 op) ∧ w'.cell? ⟨bt, ot + j * 5 + 1, none⟩ = some (.bool lv) ∧ w'.cell? ⟨bt, ot + j * 5 + 2, none⟩ = some (.int .i64 ln) ∧ w'.cell? ⟨bt, ot + j * 5 + 3, none⟩ = some (.bool rv) ∧ w'.cell? ⟨bt, ot + j * 5 + 4, none⟩ = some (.int .i64 rn))) (by kernel_rfl) ?_ (fun hHeld => ?_)
  · exact ⟨y3, y4, y5, e1, z2, z3, c0, c1, c2, c3, c4⟩
  refine wpAnyH_take (i := 0) (oi := ⟨some 110, _, _, _, _, _⟩) (v := ?_) rfl (by kernel_rfl) (by kernel_rfl) (by kernel_rfl) (fun _ _ _ h => h) (Or.inl ⟨by rfl, ?_⟩) (by assumption) ?_
  rotate_left 1
  · intro w hSw
    (try dsimp only at hSw)
    go_simp
    all_goals with_reducible rfl
  (try simp only [Act.put, List.setIfInBounds_toArray, List.set_cons_zero, List.set_cons_succ])
  refine wpAnyH_take (i := 1) (oi := ⟨some 111, _, _, _, _, _⟩) (v := ?_) rfl (by kernel_rfl) (by kernel_rfl) (by kernel_rfl) (fun _ _ _ h => h) (Or.inl ⟨by rfl, ?_⟩) (by assumption) ?_
  rotate_left 1
  · intro w hSw
    (try dsimp only at hSw)
    go_simp
    all_goals with_reducible rfl
  (try simp only [Act.put, List.setIfInBounds_toArray, List.set_cons_zero, List.set_cons_succ])
  refine wpAnyH_take (i := 2) (oi := ⟨some 112, _, _, _, _, _⟩) (v := ?_) rfl (by kernel_rfl) (by kernel_rfl) (by kernel_rfl) (fun _ _ _ h => h) (Or.inl ⟨by rfl, ?_⟩) (by assumption) ?_
  rotate_left 1
  · intro w hSw
    (try dsimp only at hSw)
    go_simp
    all_goals with_reducible rfl
  (try simp only [Act.put, List.setIfInBounds_toArray, List.set_cons_zero, List.set_cons_succ])
  refine wpAnyH_take (i := 3) (oi := ⟨some 113, _, _, _, _, _⟩) (v := ?_) rfl (by kernel_rfl) (by kernel_rfl) (by kernel_rfl) (fun _ _ _ h => h) (Or.inl ⟨by rfl, ?_⟩) (by assumption) ?_
  rotate_left 1
  · intro w hSw
    (try dsimp only at hSw)
    go_simp
    all_goals with_reducible rfl
  (try simp only [Act.put, List.setIfInBounds_toArray, List.set_cons_zero, List.set_cons_succ])
  refine wpAnyH_take (i := 4) (oi := ⟨some 114, _, _, _, _, _⟩) (v := ?_) rfl (by kernel_rfl) (by kernel_rfl) (by kernel_rfl) (fun _ _ _ h => h) (Or.inl ⟨by rfl, ?_⟩) (by assumption) ?_
  rotate_left 1
  · intro w hSw
    (try dsimp only at hSw)
    go_simp
    all_goals with_reducible rfl
  (try simp only [Act.put, List.setIfInBounds_toArray, List.set_cons_zero, List.set_cons_succ])
  refine wpAnyH_take (i := 5) (oi := ⟨some 115, _, _, _, _, _⟩) (v := ?_) rfl (by kernel_rfl) (by kernel_rfl) (by kernel_rfl) (fun _ _ _ h => h) (Or.inl ⟨by rfl, ?_⟩) (by assumption) ?_
  rotate_left 1
  · intro w hSw
    (try dsimp only at hSw)
    go_simp
    all_goals with_reducible rfl
  (try simp only [Act.put, List.setIfInBounds_toArray, List.set_cons_zero, List.set_cons_succ])
  refine wpAnyH_take (i := 6) (oi := ⟨some 116, _, _, _, _, _⟩) (v := ?_) rfl (by kernel_rfl) (by kernel_rfl) (by kernel_rfl) (fun _ _ _ h => h) (Or.inl ⟨by rfl, ?_⟩) (by assumption) ?_
  rotate_left 1
  · intro w hSw
    (try dsimp only at hSw)
    go_simp
    all_goals with_reducible rfl
  (try simp only [Act.put, List.setIfInBounds_toArray, List.set_cons_zero, List.set_cons_succ])
  refine wpAnyH_take (i := 7) (oi := ⟨some 117, _, _, _, _, _⟩) (v := ?_) rfl (by kernel_rfl) (by kernel_rfl) (by kernel_rfl) (fun _ _ _ h => h) (Or.inl ⟨by rfl, ?_⟩) (by assumption) ?_
  rotate_left 1
  · intro w hSw
    (try dsimp only at hSw)
    go_simp
    all_goals with_reducible rfl
  (try simp only [Act.put, List.setIfInBounds_toArray, List.set_cons_zero, List.set_cons_succ])
  refine wpAnyH_take (i := 8) (oi := ⟨some 118, _, _, _, _, _⟩) (v := ?_) rfl (by kernel_rfl) (by kernel_rfl) (by kernel_rfl) (fun _ _ _ h => h) (Or.inl ⟨by rfl, ?_⟩) (by assumption) ?_
  rotate_left 1
  · intro w hSw
    (try dsimp only at hSw)
    go_simp
    all_goals with_reducible rfl
  (try simp only [Act.put, List.setIfInBounds_toArray, List.set_cons_zero, List.set_cons_succ])
  refine wpAnyH_take (i := 9) (oi := ⟨some 119, _, _, _, _, _⟩) (v := ?_) rfl (by kernel_rfl) (by kernel_rfl) (by kernel_rfl) (fun _ _ _ h => h) (Or.inl ⟨by rfl, ?_⟩) (by assumption) ?_
  rotate_left 1
  · intro w hSw
    (try dsimp only at hSw)
    go_simp
    all_goals with_reducible rfl
  (try simp only [Act.put, List.setIfInBounds_toArray, List.set_cons_zero, List.set_cons_succ])
  refine wpAnyH_take (i := 10) (oi := ⟨some 120, _, _, _, _, _⟩) (v := ?_) rfl (by kernel_rfl) (by kernel_rfl) (by kernel_rfl) (fun _ _ _ h => h) (Or.inl ⟨by rfl, ?_⟩) (by assumption) ?_
  rotate_left 1
  · intro w hSw
    (try dsimp only at hSw)
    go_simp
    all_goals with_reducible rfl
  (try simp only [Act.put, List.setIfInBounds_toArray, List.set_cons_zero, List.set_cons_succ])
  refine wpAnyH_take (i := 11) (oi := ⟨some 121, _, _, _, _, _⟩) (v := ?_) rfl (by kernel_rfl) (by kernel_rfl) (by kernel_rfl) (fun _ _ _ h => h) (Or.inl ⟨by rfl, ?_⟩) (by assumption) ?_
  rotate_left 1
  · intro w hSw
    (try dsimp only at hSw)
    go_simp
    all_goals with_reducible rfl
  (try simp only [Act.put, List.setIfInBounds_toArray, List.set_cons_zero, List.set_cons_succ])
  refine wpAnyH_take (i := 12) (oi := ⟨some 122, _, _, _, _, _⟩) (v := ?_) rfl (by kernel_rfl) (by kernel_rfl) (by kernel_rfl) (fun _ _ _ h => h) (Or.inl ⟨by rfl, ?_⟩) (by assumption) ?_
  rotate_left 1
  · intro w hSw
    (try dsimp only at hSw)
    go_simp
    all_goals with_reducible rfl
  (try simp only [Act.put, List.setIfInBounds_toArray, List.set_cons_zero, List.set_cons_succ])
  refine wpAnyH_take (i := 13) (oi := ⟨some 123, _, _, _, _, _⟩) (v := ?_) rfl (by kernel_rfl) (by kernel_rfl) (by kernel_rfl) (fun _ _ _ h => h) (Or.inl ⟨by rfl, ?_⟩) (by assumption) ?_
  rotate_left 1
  · intro w hSw
    (try dsimp only at hSw)
    go_simp
    all_goals with_reducible rfl
  (try simp only [Act.put, List.setIfInBounds_toArray, List.set_cons_zero, List.set_cons_succ])
  refine wpAnyH_ready (rs := [14]) (by kernel_rfl) (by simp) ?_
  refine AllReadyH.cons (o := _) rfl (fun K hK => ?_) ?_
  · go_simp
    with_reducible refine cH.out.mono ?_
    rintro e V2 ⟨rfl, hb2⟩
    have hS : V2.cell? ⟨b3, 0, none⟩ = some (.pointer (some ⟨D.qb, 0, none⟩)) ∧ V2.cell? ⟨b4, 0, none⟩ = some (.int .i64 i) ∧ V2.cell? ⟨b5, 0, none⟩ = some (.slice a n c) ∧ V2.cell? ⟨D.qb, 1, none⟩ = some (.slice D.ca D.cs.length D.cc) ∧ V2.cell? ⟨b7, 2, none⟩ = some (.slice D.R.pa D.R.pos.length D.R.pc) ∧ V2.cell? ⟨b7, 3, none⟩ = some (.slice (some ⟨bt, ot, none⟩) D.R.tests.length D.R.tc) ∧ V2.cell? ⟨bt, ot + j * 5, none⟩ = some (.int .i64 op) ∧ V2.cell? ⟨bt, ot + j * 5 + 1, none⟩ = some (.bool lv) ∧ V2.cell? ⟨bt, ot + j * 5 + 2, none⟩ = some (.int .i64 ln) ∧ V2.cell? ⟨bt, ot + j * 5 + 3, none⟩ = some (.bool rv) ∧ V2.cell? ⟨bt, ot + j * 5 + 4, none⟩ = some (.int .i64 rn) := ⟨on_cell hb2 y3, on_cell hb2 y4, on_cell hb2 y5, on_cell hb2 e1, on_cell hb2 z2, on_cell hb2 z3, on_cell hb2 c0, on_cell hb2 c1, on_cell hb2 c2, on_cell hb2 c3, on_cell hb2 c4⟩
    refine hK.out _ _ ?_ (fun hHeld => ?_)
    · exact hS
    clear hK K
    (try simp only [Act.put, List.setIfInBounds_toArray, List.set_cons_zero, List.set_cons_succ])
    refine wpAnyH_take (i := 15) (oi := ⟨some 109, _, _, _, _, _⟩) (v := ?_) rfl (by kernel_rfl) (by kernel_rfl) (by kernel_rfl) (fun _ _ _ h => h) (Or.inl ⟨by rfl, ?_⟩) (by assumption) ?_
    rotate_left 1
    · intro w hSw
      (try dsimp only at hSw)
      go_simp
      all_goals with_reducible rfl
    (try simp only [Act.put, List.setIfInBounds_toArray, List.set_cons_zero, List.set_cons_succ])
    refine wpAnyH_take (i := 16) (oi := ⟨some 125, _, _, _, _, _⟩) (v := ?_) rfl (by kernel_rfl) (by kernel_rfl) (by kernel_rfl) (fun _ _ _ h => h) (Or.inl ⟨by rfl, ?_⟩) (by assumption) ?_
    rotate_left 1
    · intro w hSw
      (try dsimp only at hSw)
      go_simp
      all_goals with_reducible rfl
    (try simp only [Act.put, List.setIfInBounds_toArray, List.set_cons_zero, List.set_cons_succ])
    refine wpAnyH_take (i := 17) (oi := ⟨some 126, _, _, _, _, _⟩) (v := ?_) rfl (by kernel_rfl) (by kernel_rfl) (by kernel_rfl) (fun _ _ _ h => h) (Or.inl ⟨by rfl, ?_⟩) (by assumption) ?_
    rotate_left 1
    · intro w hSw
      (try dsimp only at hSw)
      go_simp
      all_goals with_reducible rfl
    (try simp only [Act.put, List.setIfInBounds_toArray, List.set_cons_zero, List.set_cons_succ])
    refine wpAnyH_take (i := 18) (oi := ⟨some 11, _, _, _, _, _⟩) (v := ?_) rfl (by kernel_rfl) (by kernel_rfl) (by kernel_rfl) (fun _ _ _ h => h) (Or.inl ⟨by rfl, ?_⟩) (by assumption) ?_
    rotate_left 1
    · intro w hSw
      (try dsimp only at hSw)
      go_simp
      all_goals with_reducible rfl
    (try simp only [Act.put, List.setIfInBounds_toArray, List.set_cons_zero, List.set_cons_succ])
    refine wpAnyH_take (i := 19) (oi := ⟨some 12, _, _, _, _, _⟩) (v := ?_) rfl (by kernel_rfl) (by kernel_rfl) (by kernel_rfl) (fun _ _ _ h => h) (Or.inl ⟨by rfl, ?_⟩) (by assumption) ?_
    rotate_left 1
    · intro w hSw
      (try dsimp only at hSw)
      go_simp
      all_goals with_reducible rfl
    (try simp only [Act.put, List.setIfInBounds_toArray, List.set_cons_zero, List.set_cons_succ])
    refine wpAnyH_done (by kernel_rfl) ?_ _
    refine NoPanic.normal ?_
    clear x8' x15i hsub2 hj9 hj1 hj2 hge hPT1k hw2
    have O1d : OutV D.ob v acc V1.drew := HO1.out.below (Below.refl _ _).drew
    have O2 := O1d.below hb2
    have A2 := HA1.out.below O1d hb2
    have I2 := HI1.out.grew (Grew.below hb2 O1d.lt)
    have gr2 : Grew D.ob W V2 := HG0.out.trans ((Grew.below Hb01.out HO0.out.lt).trans ((Grew.below (Below.refl _ _).drew HO1.out.lt).trans (Grew.below hb2 O1d.lt)))
    have g6 : V2.heap[b6]? = some (.cells #[.bool false] 4 (0, 0)) := (hb2.block b6 (Nat.lt_of_lt_of_le Hb6.out.2 Hb01.out.size)).trans ((Hb01.out.block b6 Hb6.out.2).trans Hg.out.2.2.2)
    have hn6 : GOf D.ob V2 ≠ some b6 := by rw [O2.gof]; exact Hb6o.out.2.2
    have k7 : V2.cell? ⟨b6, 0, none⟩ = some (.bool false) := by simp [World.cell?, g6]
    have k8 : V2.frozen? ⟨b6, 0, none⟩ = false := by simp [World.frozen?, g6]
    have k9 : (V2.setCell ⟨b6, 0, none⟩ (.bool true)).cell? ⟨b6, 0, none⟩ = some (.bool true) := World.cell?_setCell_same' _ _ _ (by rw [k7]; rfl)
    obtain ⟨s3, s4, s5, -⟩ := hS
    have HO2 := Lib.hid O2
    have HA2 := Lib.hid A2
    have HI2 := Lib.hid I2
    have Hgr2 := Lib.hid gr2
    have Hg6 := Lib.hid g6
    have Hn6 := Lib.hid hn6
    clear O1d O2 A2 I2 gr2 g6 hn6 hb2 cH y3 y4 y5 e1 z2 z3 c0 c1 c2 c3 c4
    cases hb with
    | false =>
      have hres0 : res = [] := by
        rw [Hres.out]
        simp only [resL]
        rw [← Hbv.out]
        rfl
      subst hres0
      have HF : Hid (DownEnd D.ob acc [] W (.returned (.bool true)) (V2.setCell ⟨b6, 0, none⟩ (.bool true))) := Lib.hid (by
        obtain ⟨q1, q2⟩ := grew_own Hgr2.out HO2.out Hg6.out ⟨Hb6o.out.1, Hb6o.out.2.1, Hn6.out⟩ ⟨by decide, by decide⟩ (.bool true)
        exact ⟨rfl, q1, v, by rw [List.append_nil]; exact q2⟩)
      go_wp2_with fail
      refine bodyPost_ret (v := .bool true) (by simp [results, Try.results49, go_sem, k9]) rfl ?_
      exact HF.out
    | true =>
      have hres1 : res = resL D.σ.rows D.cs rest sub := by
        rw [Hres.out]
        simp only [resL]
        rw [← Hbv.out]
        rfl
      have HB := Lib.hid (Below.refl V2.heap.size V2)
      have O3 := HO2.out.below HB.out
      have A3 := HA2.out.below HO2.out HB.out
      have I3 := HI2.out.grew (Grew.below HB.out HO2.out.lt)
      have cD := Lib.hid (Hih.out V2 a c sub v acc A3 O3 I3 Hnil.out (by rw [← Hnl.out]; exact hs) Hsr.out (by rw [← hres1]; exact hn))
      rw [← Hnl.out, ← hres1, show ((i + 1 : Nat) : Int) = (i : Int) + 1 from by omega] at cD
      have HF : Hid (∀ V', DownEnd D.ob acc res V2 (.returned (.bool true)) V' → DownEnd D.ob acc res W (.returned (.bool true)) (V'.setCell ⟨b6, 0, none⟩ (.bool true)) ∧ V'.cell? ⟨b6, 0, none⟩ = some (.bool false) ∧ V'.frozen? ⟨b6, 0, none⟩ = false ∧ V'.cell? ⟨b3, 0, none⟩ = some (.pointer (some ⟨D.qb, 0, none⟩)) ∧ V'.cell? ⟨b4, 0, none⟩ = some (.int .i64 i) ∧ V'.cell? ⟨b5, 0, none⟩ = some (.slice a n c)) := Lib.hid (fun V' hD => by
        obtain ⟨-, gD, v2, oD⟩ := hD
        have gT := (Hgr2.out.trans (Grew.below HB.out HO2.out.lt)).trans gD
        have x6 : V'.heap[b6]? = some (.cells #[.bool false] 4 (0, 0)) := (gD.keep b6 (Array.getElem?_eq_some_iff.1 Hg6.out).1 (Ne.symm ho6) Hn6.out).trans Hg6.out
        have n6 : GOf D.ob V' ≠ some b6 := by
          rcases gD.row with e | e
          · rw [e]; exact Hn6.out
          · intro e'
            have := e _ e'
            have h6 := (Array.getElem?_eq_some_iff.1 Hg6.out).1
            omega
        obtain ⟨q1, q2⟩ := grew_own gT oD x6 ⟨Hb6o.out.1, Hb6o.out.2.1, n6⟩ ⟨by decide, by decide⟩ (.bool true)
        have far : ∀ {b : Nat}, W.heap.size ≤ b → b ≠ D.ob ∧ GOf D.ob V2 ≠ some b := fun {b} hb => ⟨by omega, by rw [O3.gof]; exact Hfar.out _ hb⟩
        exact ⟨⟨rfl, q1, v2, q2⟩, by simp [World.cell?, x6], by simp [World.frozen?, x6], gD.cell s3 (far Hlo.out.1).1 (far Hlo.out.1).2, gD.cell s4 (far Hlo.out.2.1).1 (far Hlo.out.2.1).2, gD.cell s5 (far Hlo.out.2.2.1).1 (far Hlo.out.2.2.1).2⟩)
      clear O3 A3 I3 k7 k8 k9
      go_wp2_with (first | (go_at_call 49; (with_reducible refine cD.out.mono ?_); rintro e V3 ⟨rfl, hD⟩; obtain ⟨HF3, k7, k8, t3, t4, t5⟩ := HF.out V3 ⟨rfl, hD⟩; have HF3 := Lib.hid HF3; have K9 : Hid ((V3.setCell ⟨b6, 0, none⟩ (.bool true)).cell? ⟨b6, 0, none⟩ = some (.bool true)) := Lib.hid (World.cell?_setCell_same' _ _ _ (by rw [k7]; rfl)); clear hD))
      have k9 := K9.out
      refine bodyPost_ret (v := .bool true) (by simp [results, Try.results49, go_sem, k9]) rfl ?_
      exact HF3.out
  exact AllReadyH.nil
end Mt
end Go.Proofs.Ytkejjiohkhlnnaa

namespace Go.Proofs.Ytkejjiohkhlnnaa
open Go.RowKit
namespace Mt

theorem ground_rng {sub : List Int} {l : List Sl} {xs : List Int} (h : groundL sub l = some xs) (hl : ∀ s ∈ l, Rng s.2) (hs : ∀ x ∈ sub, Rng x) : xs.length = l.length ∧ ∀ x ∈ xs, Rng x := by
  induction l generalizing xs with
  | nil => simp [groundL] at h; subst h; exact ⟨rfl, fun x hx => by cases hx⟩
  | cons s r ih =>
    simp only [groundL] at h
    split at h
    · cases h
    · obtain ⟨ys, hy, rfl⟩ := Option.map_eq_some_iff.1 h
      obtain ⟨k1, k2⟩ := ih hy (fun z hz => hl z (List.mem_cons_of_mem _ hz))
      refine ⟨by simp [k1], fun x hx => ?_⟩
      rcases List.mem_cons.1 hx with rfl | hx
      · exact valueL_rng (hl s (List.mem_cons_self ..)) hs
      · exact k2 x hx
theorem neg_nums (i j P T G q : Nat) (hij : i = P + T + j) (hq : q = T + j) (hj : j < G) (hP : P + T + G ≤ 1000) : ¬ i < P ∧ ¬ ((i : Int) < (P : Int)) ∧ ¬ ((i : Int) < (P : Int) + (T : Int)) ∧ ((i : Int) - (P : Int)) = (q : Int) ∧ ((q : Int) - (T : Int)) = (j : Int) ∧ (j : Int) ≤ 9223372036854775807 ∧ (0 : Int) ≤ (j : Int) ∧ (j : Int) < (G : Int) ∧ (P : Int) + (T : Int) ≤ (i : Int) ∧ (P : Int) ≤ (i : Int) ∧ i ≤ 1000 ∧ q ≤ 1000 ∧ P + T ≤ 1000 :=
  ⟨by omega, by omega, by omega, by omega, by omega, by omega, by omega, by omega, by omega, by omega, by omega, by omega, by omega⟩
set_option linter.unusedSimpArgs false in
set_option maxHeartbeats 16000000 in
set_option maxRecDepth 100000 in
theorem down_neg (D : SrchD) (C : SrchIn D) (i j : Nat) (p : Pat) (rest : List Cd) (ht : D.R.neg[j]? = some p) (hij : i = D.R.pos.length + D.R.tests.length + j) (hi : i < D.last) (ih : Goes D (i + 1) rest) : Goes D i (.neg p :: rest) := by
  intro W a c sub v acc A O hI hnil hs hsr hn
  obtain ⟨n, hnl⟩ : ∃ n, n = sub.length := ⟨_, rfl⟩
  rw [← hnl] at hs ⊢
  have Hnl := Lib.hid hnl
  have HC := Lib.hid C
  have Hsr := Lib.hid hsr
  have Hnil := Lib.hid hnil
  have Hih := Lib.hid ih
  obtain ⟨res, hres⟩ : ∃ r, r = resL D.σ.rows D.cs (.neg p :: rest) sub := ⟨_, rfl⟩
  rw [← hres] at hn ⊢
  have Hres := Lib.hid hres
  have hjG : j < D.R.neg.length := (List.getElem?_eq_some_iff.1 ht).1
  have hPl := C.ok.conds
  have Hp := Lib.hid ht
  clear hnl C hsr hnil hres ih ht
  obtain ⟨b3, h3⟩ : ∃ b, b = W.heap.size := ⟨_, rfl⟩
  obtain ⟨b4, h4⟩ : ∃ b, b = W.heap.size + 1 := ⟨_, rfl⟩
  obtain ⟨b5, h5⟩ : ∃ b, b = W.heap.size + 1 + 1 := ⟨_, rfl⟩
  obtain ⟨b6, h6⟩ : ∃ b, b = W.heap.size + 1 + 1 + 1 := ⟨_, rfl⟩
  obtain ⟨W0, hW0⟩ : ∃ V, V = (((W.alloc (.cells #[.pointer (some ⟨D.qb, 0, none⟩)] 94)).alloc (.cells #[.int .i64 i] 3)).alloc (.cells #[.slice a n c] 22)).alloc (.cells #[.bool false] 4) := ⟨_, rfl⟩
  obtain ⟨hb0, hs0, g3, g4, g5, g6⟩ := four_boxes W _ _ _ _ _ _ _ _ b3 b4 b5 b6 W0 h3 h4 h5 h6 hW0
  have A0 := A.below O hb0
  have O0 := O.below hb0
  have I0 := hI.grew (Grew.below hb0 O.lt)
  have HG0 := Lib.hid (Grew.below hb0 O.lt)
  have HA0 := Lib.hid A0
  have HO0 := Lib.hid O0
  have HI0 := Lib.hid I0
  have y3 : W0.cell? ⟨b3, 0, none⟩ = some (.pointer (some ⟨D.qb, 0, none⟩)) := by simp [World.cell?, g3]
  have y4 : W0.cell? ⟨b4, 0, none⟩ = some (.int .i64 i) := by simp [World.cell?, g4]
  have y5 : W0.cell? ⟨b5, 0, none⟩ = some (.slice a n c) := by simp [World.cell?, g5]
  have hqc : ∀ (j : Nat) y, (srchCells D.sb D.ob D.ca D.cs.length D.cc D.R D.last)[j]? = some y → W0.cell? ⟨D.qb, j, none⟩ = some y := fun j y hj => by
    have hq := A0.q
    simp [World.cell?, hq, hj]
  have yl : W0.cell? ⟨D.qb, 9, none⟩ = some (.int .i64 D.last) := hqc 9 _ rfl
  have yf : W0.cell? ⟨D.qb, 10, none⟩ = some (.func (.func 48) #[] #[.pointer (some ⟨D.ob, 0, none⟩)]) := hqc 10 _ rfl
  have hlt := O.lt
  have hrow : ∀ g, GOf D.ob W = some g → g < W.heap.size := fun g e => (O.rowLt (O.gof ▸ e)).2
  have hq6 : D.qb ≠ b6 := by have := (Array.getElem?_eq_some_iff.1 A.q).1; omega
  have ho6 : D.ob ≠ b6 := by omega
  have hdist : b3 ≠ b6 ∧ b4 ≠ b6 ∧ b5 ≠ b6 := ⟨by omega, by omega, by omega⟩
  obtain ⟨f3, f4, f5⟩ := hdist
  have Hrow := Lib.hid hrow
  have Hqo := Lib.hid A.qo
  have hgV : GOf D.ob W = v.ownBlock := O.gof
  have Hqg : Hid (v.ownBlock ≠ some D.qb) := Lib.hid (by rw [← hgV]; exact A.qg)
  have Hfar : Hid (∀ b, W.heap.size ≤ b → v.ownBlock ≠ some b) := Lib.hid (fun b hb e => by rw [← hgV] at e; have := hrow _ e; omega)
  have Hlo : Hid (W.heap.size ≤ b3 ∧ W.heap.size ≤ b4 ∧ W.heap.size ≤ b5 ∧ W.heap.size ≤ b6) := Lib.hid ⟨by omega, by omega, by omega, by omega⟩
  have Hb6o : Hid (W.heap.size ≤ b6 ∧ D.ob ≠ b6 ∧ v.ownBlock ≠ some b6) := Lib.hid ⟨by omega, by omega, Hfar.out _ (by omega)⟩
  clear hgV
  have Hb6 : Hid (W.heap.size ≤ b6 ∧ b6 < W0.heap.size) := Lib.hid ⟨by omega, by omega⟩
  have HW0 := Lib.hid hW0
  have H3 := Lib.hid h3
  have H4 := Lib.hid h4
  have H5 := Lib.hid h5
  have H6 := Lib.hid h6
  have Hqc := Lib.hid hqc
  have Hg := Lib.hid (⟨g3, g4, g5, g6⟩ : _ ∧ _ ∧ _ ∧ _)
  clear hqc g3 g4 g5 g6 hs0 A0 O0 I0 A O hI hrow hW0 h3 h4 h5 h6
  have hne : ((i : Int) == (D.last : Int)) = false := by simp; omega
  have e0 : W0.cell? ⟨D.qb, 0, none⟩ = some (.pointer (some ⟨D.sb, 0, none⟩)) := Hqc.out 0 _ rfl
  have e2 : W0.cell? ⟨D.qb, 2, none⟩ = some (.int .i64 D.R.hp) := Hqc.out 2 _ rfl
  have e3 : W0.cell? ⟨D.qb, 3, none⟩ = some (.slice D.R.ha D.R.hn D.R.hc) := Hqc.out 3 _ rfl
  have e4 : W0.cell? ⟨D.qb, 4, none⟩ = some (.slice D.R.pa D.R.pos.length D.R.pc) := Hqc.out 4 _ rfl
  have e5 : W0.cell? ⟨D.qb, 5, none⟩ = some (.slice D.R.ta D.R.tests.length D.R.tc) := Hqc.out 5 _ rfl
  have e6 : W0.cell? ⟨D.qb, 6, none⟩ = some (.slice D.R.na D.R.neg.length D.R.nc) := Hqc.out 6 _ rfl
  have e7 : W0.cell? ⟨D.qb, 7, none⟩ = some (.slice D.R.va D.R.nv D.R.vc) := Hqc.out 7 _ rfl
  have e8 : W0.cell? ⟨D.qb, 8, none⟩ = some (.int .i64 D.R.cl) := Hqc.out 8 _ rfl
  obtain ⟨q, hq⟩ : ∃ q, q = D.R.tests.length + j := ⟨_, rfl⟩
  have HNUM := Lib.hid (neg_nums i j D.R.pos.length D.R.tests.length D.R.neg.length q hij hq hjG (by omega))
  clear hij hq
  go_enter Try.func49, Try.ntmps49
  go_upto_region 1 with fail
  rw [← HW0.out, ← H6.out, ← H5.out, ← H4.out, ← H3.out]
  go_quiet (fail)
  obtain ⟨V0, hV0⟩ : ∃ V, V = W0.drewN nq := ⟨_, rfl⟩
  have hbV : Below W0.heap.size W0 V0 := by rw [hV0]; exact below_drewN (Below.refl _ _) _
  rw [← hV0]
  have y3 := on_cell hbV y3
  have y4 := on_cell hbV y4
  have y5 := on_cell hbV y5
  have e0 := on_cell hbV e0
  have e2 := on_cell hbV e2
  have e3 := on_cell hbV e3
  have e4 := on_cell hbV e4
  have e5 := on_cell hbV e5
  have e6 := on_cell hbV e6
  have e7 := on_cell hbV e7
  have e8 := on_cell hbV e8
  have HbV := Lib.hid hbV
  clear hV0 hbV yl yf hne
  go_upto_region 8 with fail
  obtain ⟨b7, hb7⟩ : ∃ b, b = V0.heap.size := ⟨_, rfl⟩
  obtain ⟨V1, hV1⟩ : ∃ V, V = V0.alloc (.cells #[.int .i64 D.R.hp, .slice D.R.ha D.R.hn D.R.hc, .slice D.R.pa D.R.pos.length D.R.pc, .slice D.R.ta D.R.tests.length D.R.tc, .slice D.R.na D.R.neg.length D.R.nc, .slice D.R.va D.R.nv D.R.vc, .int .i64 D.R.cl] 32) := ⟨_, rfl⟩
  have hbV1 : Below V0.heap.size V0 V1 := by rw [hV1]; exact (Below.refl _ _).alloc (Nat.le_refl _) _
  have z2 : V1.cell? ⟨b7, 2, none⟩ = some (.slice D.R.pa D.R.pos.length D.R.pc) := by rw [hV1, hb7]; simp
  have z3 : V1.cell? ⟨b7, 3, none⟩ = some (.slice D.R.ta D.R.tests.length D.R.tc) := by rw [hV1, hb7]; simp
  have z4 : V1.cell? ⟨b7, 4, none⟩ = some (.slice D.R.na D.R.neg.length D.R.nc) := by rw [hV1, hb7]; simp
  have y3 := on_cell hbV1 y3
  have y4 := on_cell hbV1 y4
  have y5 := on_cell hbV1 y5
  have e0 := on_cell hbV1 e0
  have hb01 : Below W0.heap.size W0 V1 := HbV.out.trans (hbV1.mono HbV.out.size)
  rw [← hV1, ← hb7]
  have hO1 : OutV D.ob v acc V1 := HO0.out.below hb01
  have hA1 : SrchAt D V1 := HA0.out.below HO0.out hb01
  obtain ⟨bp, op, p', hpa, hp', c0, sa, sc, c1, hSl⟩ := pats_at HC.out.rule.neg hjG
  have hpp : p' = p := by have := Hp.out; rw [hp'] at this; exact Option.some.inj this
  subst hpp
  have hPO := HC.out.ok.neg p' (List.mem_of_getElem? hp')
  have hpr := HC.out.preds.2 p' (List.mem_of_getElem? hp')
  have c0 : V1.cell? ⟨bp, op + j * 2, none⟩ = some (.int .i64 p'.1) := below_cell hA1.old (Nat.le_refl _) c0
  have c1 : V1.cell? ⟨bp, op + j * 2 + 1, none⟩ = some (.slice sa p'.2.length sc) := below_cell hA1.old (Nat.le_refl _) c1
  have hI1 := HI0.out.grew (Grew.below hb01 HO0.out.lt)
  have hvR : D.R.nv ≤ 16 := HC.out.ok.vars
  have hcR : D.cs.length ≤ 65536 := HC.out.cok.many
  have hlr : ∀ s ∈ p'.2, Rng s.2 := fun s hs => by
    obtain ⟨k1, k2⟩ := hPO.2.2 s hs
    refine ⟨by omega, ?_⟩
    split at k2 <;> omega
  obtain ⟨b8, hb8⟩ : ∃ b, b = V1.heap.size := ⟨_, rfl⟩
  obtain ⟨V2, hV2⟩ : ∃ V, V = V1.alloc (.cells #[.int .i64 p'.1, .slice sa p'.2.length sc] 27) := ⟨_, rfl⟩
  have hb2 : Below V1.heap.size V1 V2 := by rw [hV2]; exact (Below.refl _ _).alloc (Nat.le_refl _) _
  have hA2 := hA1.below hO1 hb2
  have hO2 := hO1.below hb2
  have hI2 := hI1.grew (Grew.below hb2 hO1.lt)
  have cG := Lib.hid (groundZ_any p'.1 sa a sc c p'.2 sub V2 (hSl.below hA2.old (Nat.le_refl _)) hI2.ints (by have := hPO.2.1; omega) (by rw [← Hnl.out]; omega))
  have HX : Hid ((∀ xs, groundL sub p'.2 = some xs → xs.length = p'.2.length ∧ ∀ x ∈ xs, Rng x) ∧ p'.2.length ≤ 8 ∧ Rng p'.1) := Lib.hid ⟨fun xs h => ground_rng h hlr Hsr.out, hPO.2.1, hpr⟩
  have q0 : V2.cell? ⟨b8, 0, none⟩ = some (.int .i64 p'.1) := by rw [hV2, hb8]; simp
  have q1 : V2.cell? ⟨b8, 1, none⟩ = some (.slice sa p'.2.length sc) := by rw [hV2, hb8]; simp
  rw [hpa] at z4 ⊢
  obtain ⟨pp, sl⟩ := p'
  simp only at c0 c1 cG q0 q1 HX
  rw [← Hnl.out] at cG
  have Hsl : Hid (sl.length ≤ 8) := Lib.hid HX.out.2.1
  obtain ⟨sn, hsn⟩ : ∃ m, m = sl.length := ⟨_, rfl⟩
  rw [← hsn] at c1 cG q1
  obtain ⟨GL, hGL⟩ : ∃ g, g = groundL sub sl := ⟨_, rfl⟩
  rw [← hGL] at HX
  unfold GroundZ at cG
  rw [← hGL] at cG
  have HGL := Lib.hid hGL
  have HA2 := Lib.hid hA2
  have HO2 := Lib.hid hO2
  have HI2 := Lib.hid hI2
  have HB2 : Hid (Below W0.heap.size W0 V2) := Lib.hid (hb01.trans (hb2.mono hb01.size))
  have HV2 : Hid (V2 = V1.alloc (.cells #[.int .i64 pp, .slice sa sn sc] 27)) := Lib.hid (by rw [hV2, hsn])
  have Hb8 := Lib.hid hb8
  have HB12 := Lib.hid hb2
  clear hV1 hb7 hbV1 hb01 hA1 hO1 hI1 hp' hpa hSl hPO hpr hlr hvR hcR hV2 hb8 hb2 hA2 hO2 hI2 hGL hsn e2 e3 e4 e5 e6 e7 e8
  obtain ⟨x8', x8i, x15i, hsub1, hsub2, hj9, hj1, hj2, hge1, hge2, hi1k, hq1k, hPT1k⟩ := HNUM.out
  go_upto_region 5 with fail
  clear x8' x8i x15i hsub1 hsub2 hj9 hj1 hj2 hge1 hge2 hi1k hq1k hPT1k
  rw [← Hb8.out]
  rw [← HV2.out]
  have y3 := on_cell HB12.out y3
  have y4 := on_cell HB12.out y4
  have y5 := on_cell HB12.out y5
  have e0 := on_cell HB12.out e0
  cases GL with
  | none =>
    have hres0 : res = [] := by
      rw [Hres.out]
      simp only [resL]
      rw [← HGL.out]
    simp only [Option.getD_none, Option.isSome_none, List.length_nil] at cG
    go_upto_region 6 with (first | (go_at_call 29; (with_reducible refine cG.out.mono ?_); rintro e V3 ⟨a2, c2, rfl, hI3, hb3⟩))
    have O3 := HO2.out.below hb3
    have HO3 := Lib.hid O3
    have HB3 := Lib.hid hb3
    clear hI3 O3 hb3
    go_quiet (fail)
    obtain ⟨V4, hV4⟩ : ∃ V, V = V3.drewN nq := ⟨_, rfl⟩
    have hb34 : Below V3.heap.size V3 V4 := by rw [hV4]; exact below_drewN (Below.refl _ _) _
    rw [← hV4]
    clear hV4
    have O4 := HO3.out.below hb34
    have gr4 : Grew D.ob W V4 := (HG0.out.trans (Grew.below HB2.out HO0.out.lt)).trans ((Grew.below HB3.out HO2.out.lt).trans (Grew.below hb34 HO3.out.lt))
    have g6 : V4.heap[b6]? = some (.cells #[.bool false] 4 (0, 0)) := (hb34.block b6 (Nat.lt_of_lt_of_le Hb6.out.2 (Nat.le_trans HB2.out.size HB3.out.size))).trans ((HB3.out.block b6 (Nat.lt_of_lt_of_le Hb6.out.2 HB2.out.size)).trans ((HB2.out.block b6 Hb6.out.2).trans Hg.out.2.2.2))
    have hn6 : GOf D.ob V4 ≠ some b6 := by rw [O4.gof]; exact Hb6o.out.2.2
    have k7 : V4.cell? ⟨b6, 0, none⟩ = some (.bool false) := by simp [World.cell?, g6]
    have k8 : V4.frozen? ⟨b6, 0, none⟩ = false := by simp [World.frozen?, g6]
    have k9 : (V4.setCell ⟨b6, 0, none⟩ (.bool true)).cell? ⟨b6, 0, none⟩ = some (.bool true) := World.cell?_setCell_same' _ _ _ (by rw [k7]; rfl)
    subst hres0
    have HF : Hid (DownEnd D.ob acc [] W (.returned (.bool true)) (V4.setCell ⟨b6, 0, none⟩ (.bool true))) := Lib.hid (by
      obtain ⟨q1, q2⟩ := grew_own gr4 O4 g6 ⟨Hb6o.out.1, Hb6o.out.2.1, hn6⟩ ⟨by decide, by decide⟩ (.bool true)
      exact ⟨rfl, q1, v, by rw [List.append_nil]; exact q2⟩)
    clear O4 gr4 g6 hn6
    go_wp2_with fail
    refine bodyPost_ret (v := .bool true) (by simp [results, Try.results49, go_sem, k9]) rfl ?_
    exact HF.out
  | some xs =>
    simp only [Option.getD_some, Option.isSome_some] at cG
    obtain ⟨hxl, hxr⟩ := HX.out.1 xs rfl
    have hx8 : xs.length ≤ 8 := by have := Hsl.out; omega
    obtain ⟨hv, hhv⟩ : ∃ b, b = decide (0 ≤ numI D.σ.rows (pp, xs)) := ⟨_, rfl⟩
    have hresX : res = if hv = true then [] else resL D.σ.rows D.cs rest sub := by
      rw [Hres.out, hhv]
      simp only [resL]
      rw [← HGL.out]
      simp only [decide_eq_true_eq]
    have HresX := Lib.hid hresX
    have Hxr := Lib.hid hxr
    have Hhv := Lib.hid hhv
    clear hresX hxr hxl hhv
    obtain ⟨xn, hxn⟩ : ∃ m, m = xs.length := ⟨_, rfl⟩
    rw [← hxn] at cG
    have Hxn := Lib.hid hxn
    clear hxn
    go_upto_region 6 with (first | (go_at_call 29; (with_reducible refine cG.out.mono ?_); rintro e V3 ⟨a2, c2, rfl, hI3, hb3⟩))
    have O3 := HO2.out.below hb3
    have A3 := HA2.out.below HO2.out hb3
    have I3 := HI2.out.grew (Grew.below hb3 HO2.out.lt)
    have y3 := on_cell hb3 y3
    have y4 := on_cell hb3 y4
    have y5 := on_cell hb3 y5
    have e0 := on_cell hb3 e0
    have q0 := on_cell hb3 q0
    have cH := Lib.hid (has_all (HC.out.store.below (A3.below O3 (Below.refl _ _).drew).old) pp a2 c2 xs (hI3.below (Below.refl _ _).drew (Nat.le_refl _)) HX.out.2.2 Hxr.out (by omega))
    rw [← Hhv.out, ← Hxn.out] at cH
    have HO3 := Lib.hid O3
    have HA3 := Lib.hid A3
    have HI3 := Lib.hid I3
    have HB3 := Lib.hid hb3
    clear hI3 O3 A3 I3 hb3 cG
    go_region_held3 (fun w' => w'.cell? ⟨b3, 0, none⟩ = some (.pointer (some ⟨D.qb, 0, none⟩)) ∧ w'.cell? ⟨D.qb, 0, none⟩ = some (.pointer (some ⟨D.sb, 0, none⟩)) ∧ w'.cell? ⟨b8, 0, none⟩ = some (.int .i64 pp)) (first | assumption | exact ⟨y3, e0, q0⟩ | go_keep) (first
      | (go_at_call 19
         with_reducible refine cH.out.mono ?_
         rintro e V4 ⟨rfl, hb4⟩
         have hS : V4.cell? ⟨b3, 0, none⟩ = some (.pointer (some ⟨D.qb, 0, none⟩)) ∧ V4.cell? ⟨D.qb, 0, none⟩ = some (.pointer (some ⟨D.sb, 0, none⟩)) ∧ V4.cell? ⟨b8, 0, none⟩ = some (.int .i64 pp) := ⟨on_cell hb4 y3, on_cell hb4 e0, on_cell hb4 q0⟩))
    have O3d : OutV D.ob v acc V3.drew := HO3.out.below (Below.refl _ _).drew
    have A3d : SrchAt D V3.drew := HA3.out.below HO3.out (Below.refl _ _).drew
    have I3d := HI3.out.grew (Grew.below (Below.refl _ _).drew HO3.out.lt)
    have s3 := on_cell hb4 y3
    have s4 := on_cell hb4 y4
    have s5 := on_cell hb4 y5
    have O4 := O3d.below hb4
    have gr4 : Grew D.ob W V4 := (HG0.out.trans (Grew.below HB2.out HO0.out.lt)).trans ((Grew.below HB3.out HO2.out.lt).trans ((Grew.below (Below.refl _ _).drew HO3.out.lt).trans (Grew.below hb4 O3d.lt)))
    have g6 : V4.heap[b6]? = some (.cells #[.bool false] 4 (0, 0)) := (hb4.block b6 (Nat.lt_of_lt_of_le Hb6.out.2 (Nat.le_trans HB2.out.size HB3.out.size))).trans ((HB3.out.block b6 (Nat.lt_of_lt_of_le Hb6.out.2 HB2.out.size)).trans ((HB2.out.block b6 Hb6.out.2).trans Hg.out.2.2.2))
    have hn6 : GOf D.ob V4 ≠ some b6 := by rw [O4.gof]; exact Hb6o.out.2.2
    have k7 : V4.cell? ⟨b6, 0, none⟩ = some (.bool false) := by simp [World.cell?, g6]
    have k8 : V4.frozen? ⟨b6, 0, none⟩ = false := by simp [World.frozen?, g6]
    have k9 : (V4.setCell ⟨b6, 0, none⟩ (.bool true)).cell? ⟨b6, 0, none⟩ = some (.bool true) := World.cell?_setCell_same' _ _ _ (by rw [k7]; rfl)
    have A4 := A3d.below O3d hb4
    have I4 := I3d.grew (Grew.below hb4 O3d.lt)
    clear y3 y4 y5 e0 q0 hS hb4 cH O3d A3d I3d
    cases hv with
    | true =>
      have hres0 : res = [] := HresX.out
      clear A4 I4 s3 s4 s5
      subst hres0
      have HF : Hid (DownEnd D.ob acc [] W (.returned (.bool true)) (V4.setCell ⟨b6, 0, none⟩ (.bool true))) := Lib.hid (by
        obtain ⟨q1, q2⟩ := grew_own gr4 O4 g6 ⟨Hb6o.out.1, Hb6o.out.2.1, hn6⟩ ⟨by decide, by decide⟩ (.bool true)
        exact ⟨rfl, q1, v, by rw [List.append_nil]; exact q2⟩)
      clear O4 gr4 g6 hn6
      go_wp2_with fail
      refine bodyPost_ret (v := .bool true) (by simp [results, Try.results49, go_sem, k9]) rfl ?_
      exact HF.out
    | false =>
      have hres1 : res = resL D.σ.rows D.cs rest sub := HresX.out
      have cD := Lib.hid (Hih.out V4 a c sub v acc A4 O4 I4 Hnil.out (by rw [← Hnl.out]; exact hs) Hsr.out (by rw [← hres1]; exact hn))
      rw [← Hnl.out, ← hres1, show ((i + 1 : Nat) : Int) = (i : Int) + 1 from by omega] at cD
      have Hg6 := Lib.hid g6
      have Hn6 := Lib.hid hn6
      have Hgr4 := Lib.hid gr4
      have HO4 := Lib.hid O4
      have HF : Hid (∀ V', DownEnd D.ob acc res V4 (.returned (.bool true)) V' → DownEnd D.ob acc res W (.returned (.bool true)) (V'.setCell ⟨b6, 0, none⟩ (.bool true)) ∧ V'.cell? ⟨b6, 0, none⟩ = some (.bool false) ∧ V'.frozen? ⟨b6, 0, none⟩ = false ∧ V'.cell? ⟨b3, 0, none⟩ = some (.pointer (some ⟨D.qb, 0, none⟩)) ∧ V'.cell? ⟨b4, 0, none⟩ = some (.int .i64 i) ∧ V'.cell? ⟨b5, 0, none⟩ = some (.slice a n c)) := Lib.hid (fun V' hD => by
        obtain ⟨-, gD, v2, oD⟩ := hD
        have gT := Hgr4.out.trans gD
        have x6 : V'.heap[b6]? = some (.cells #[.bool false] 4 (0, 0)) := (gD.keep b6 (Array.getElem?_eq_some_iff.1 Hg6.out).1 (Ne.symm ho6) Hn6.out).trans Hg6.out
        have n6 : GOf D.ob V' ≠ some b6 := by
          rcases gD.row with e | e
          · rw [e]; exact Hn6.out
          · intro e'
            have := e _ e'
            have h6 := (Array.getElem?_eq_some_iff.1 Hg6.out).1
            omega
        obtain ⟨q1, q2⟩ := grew_own gT oD x6 ⟨Hb6o.out.1, Hb6o.out.2.1, n6⟩ ⟨by decide, by decide⟩ (.bool true)
        have far : ∀ {b : Nat}, W.heap.size ≤ b → b ≠ D.ob ∧ GOf D.ob V4 ≠ some b := fun {b} hb => ⟨by omega, by rw [HO4.out.gof]; exact Hfar.out _ hb⟩
        exact ⟨⟨rfl, q1, v2, q2⟩, by simp [World.cell?, x6], by simp [World.frozen?, x6], gD.cell s3 (far Hlo.out.1).1 (far Hlo.out.1).2, gD.cell s4 (far Hlo.out.2.1).1 (far Hlo.out.2.1).2, gD.cell s5 (far Hlo.out.2.2.1).1 (far Hlo.out.2.2.1).2⟩)
      have hi1k : i ≤ 1000 := HNUM.out.2.2.2.2.2.2.2.2.2.2.1
      clear O4 gr4 g6 hn6 A4 I4 k7 k8 k9
      go_upto_region 19 with fail
      go_wp2_with (first | (go_at_call 49; (with_reducible refine cD.out.mono ?_); rintro e V5 ⟨rfl, hD⟩; obtain ⟨HF3, k7, k8, t3, t4, t5⟩ := HF.out V5 ⟨rfl, hD⟩; have HF3 := Lib.hid HF3; have K9 : Hid ((V5.setCell ⟨b6, 0, none⟩ (.bool true)).cell? ⟨b6, 0, none⟩ = some (.bool true)) := Lib.hid (World.cell?_setCell_same' _ _ _ (by rw [k7]; rfl)); clear hD))
      have k9 := K9.out
      refine bodyPost_ret (v := .bool true) (by simp [results, Try.results49, go_sem, k9]) rfl ?_
      exact HF3.out
end Mt
end Go.Proofs.Ytkejjiohkhlnnaa

namespace Go.Proofs.Ytkejjiohkhlnnaa
open Go.RowKit
namespace Mt

theorem conds_at {r : RuleV} {i : Nat} {c : Cd} (h : (condsL r)[i]? = some c) : (∃ p, c = .pos p ∧ r.pos[i]? = some p) ∨ (∃ t j, c = .tst t ∧ r.tests[j]? = some t ∧ i = r.pos.length + j) ∨ (∃ p j, c = .neg p ∧ r.neg[j]? = some p ∧ i = r.pos.length + r.tests.length + j) := by
  unfold condsL at h
  by_cases h1 : i < r.pos.length
  · rw [List.append_assoc, List.getElem?_append_left (by simpa using h1), List.getElem?_map] at h
    obtain ⟨p, hp, rfl⟩ := Option.map_eq_some_iff.1 h
    exact .inl ⟨p, rfl, hp⟩
  · by_cases h2 : i < r.pos.length + r.tests.length
    · rw [List.getElem?_append_left (by simp; omega), List.getElem?_append_right (by simp; omega), List.getElem?_map] at h
      obtain ⟨t, ht, rfl⟩ := Option.map_eq_some_iff.1 h
      simp only [List.length_map] at ht
      exact .inr (.inl ⟨t, _, rfl, ht, by omega⟩)
    · rw [List.getElem?_append_right (by simp; omega), List.getElem?_map] at h
      obtain ⟨p, hp, rfl⟩ := Option.map_eq_some_iff.1 h
      simp only [List.length_append, List.length_map] at hp
      exact .inr (.inr ⟨p, _, rfl, hp, by omega⟩)
theorem goes_any (D : SrchD) (C : SrchIn D) : ∀ m i, i + m = D.last → Goes D i (((condsL D.R).take D.last).drop i) := by
  have hl : (condsL D.R).length = D.R.pos.length + D.R.tests.length + D.R.neg.length := by simp [condsL]; omega
  have hc := C.ok.conds
  have hk := C.last
  intro m
  induction m with
  | zero =>
    intro i hi
    rw [List.drop_of_length_le (by simp; omega)]
    intro W a c sub v acc A O hI hnil hs hsr hn
    have := down_nil D C i (by omega) W a c sub v acc A O hI hnil hs hsr (by simp [resL] at hn; omega)
    simpa [resL] using this
  | succ m ih =>
    intro i hi
    have hi2 : i < (condsL D.R).length := by omega
    obtain ⟨cd, hcd⟩ : ∃ cd, (condsL D.R)[i]? = some cd := ⟨_, List.getElem?_eq_getElem hi2⟩
    have e : ((condsL D.R).take D.last).drop i = cd :: ((condsL D.R).take D.last).drop (i + 1) := drop_at (by rw [List.getElem?_take_of_lt (by omega)]; exact hcd)
    have ih1 := ih (i + 1) (by omega)
    rw [e]
    rcases conds_at hcd with ⟨p, rfl, hp⟩ | ⟨t, j, rfl, ht, hij⟩ | ⟨p, j, rfl, hp, hij⟩
    · exact down_pos D C i p _ hp (by omega) (by omega) ih1
    · exact down_tst D C i j t _ ht hij (by omega) ih1
    · exact down_neg D C i j p _ hp hij (by omega) ih1
end Mt
end Go.Proofs.Ytkejjiohkhlnnaa

namespace Go.Proofs.Ytkejjiohkhlnnaa
open Go.RowKit
namespace Mt

theorem chk_next {l : List Sl} {args : List Int} {m n L : Nat} (hl : l.length = args.length) (h : chkL badP m (l.zip args) = some n) (hn : nextL l m = some L) : n = L ∧ ∀ z ∈ l.zip args, z.1.1 = true → 0 ≤ z.1.2 := by
  induction l generalizing args m with
  | nil =>
    simp [chkL] at h
    simp [nextL] at hn
    exact ⟨by omega, fun z hz => by simp at hz⟩
  | cons s r ih =>
    cases args with
    | nil => simp at hl
    | cons x xs =>
      simp only [List.zip_cons_cons, chkL] at h
      split at h
      · cases h
      · rename_i hb
        have h0 : 0 ≤ s.2 := by
          simp [badP] at hb
          omega
        simp only [nextL] at hn
        cases hs : s.1 with
        | true =>
          rw [hs] at h hn
          simp only [if_true] at h hn
          split at hn
          · cases hn
          · rename_i h1
            split at hn
            · rename_i h2
              have e : max m (s.2.toNat + 1) = m + 1 := by omega
              rw [e] at h
              obtain ⟨k1, k2⟩ := ih (by simpa using hl) h hn
              exact ⟨k1, fun z hz hz1 => by
                rcases List.mem_cons.1 hz with rfl | hz
                · exact h0
                · exact k2 z hz hz1⟩
            · rename_i h2
              have e : max m (s.2.toNat + 1) = m := by omega
              rw [e] at h
              obtain ⟨k1, k2⟩ := ih (by simpa using hl) h hn
              exact ⟨k1, fun z hz hz1 => by
                rcases List.mem_cons.1 hz with rfl | hz
                · exact h0
                · exact k2 z hz hz1⟩
        | false =>
          rw [hs] at h hn
          simp only [Bool.false_eq_true, if_false] at h hn
          obtain ⟨k1, k2⟩ := ih (by simpa using hl) h hn
          exact ⟨k1, fun z hz hz1 => by
            rcases List.mem_cons.1 hz with rfl | hz
            · exact h0
            · exact k2 z hz hz1⟩
theorem rowL_get {zs : List Z} {ys ys' : List Int} (h : rowL ys zs = some ys') (hz : ∀ z ∈ zs, z.1.1 = true → 0 ≤ z.1.2) (i : Nat) (hi : i < ys.length) :
    (∃ z ∈ zs, z.1.1 = true ∧ z.1.2 = i ∧ ys'[i]? = some z.2) ∨ (ys'[i]? = ys[i]? ∧ ∀ z ∈ zs, z.1.1 = true → z.1.2 ≠ i) := by
  induction zs generalizing ys with
  | nil => simp [rowL] at h; subst h; exact .inr ⟨rfl, fun z hz => by cases hz⟩
  | cons z r ih =>
    simp only [rowL] at h
    have hz0 := hz z (List.mem_cons_self ..)
    split at h
    · rename_i hv
      split at h
      · cases h
      · rcases ih h (fun q hq => hz q (List.mem_cons_of_mem _ hq)) (by simpa using hi) with ⟨q, k1, k2, k3, k4⟩ | ⟨k1, k2⟩
        · exact .inl ⟨q, List.mem_cons_of_mem _ k1, k2, k3, k4⟩
        · by_cases e : z.1.2 = i
          · refine .inl ⟨z, List.mem_cons_self .., hv, e, ?_⟩
            rw [k1, List.getElem?_set]
            have : z.1.2.toNat = i := by omega
            simp [this, hi]
          · refine .inr ⟨?_, fun q hq hq1 => ?_⟩
            · rw [k1, List.getElem?_set]
              have := hz0 hv
              have : z.1.2.toNat ≠ i := by omega
              simp [this]
            · rcases List.mem_cons.1 hq with rfl | hq
              · exact e
              · exact k2 q hq hq1
    · rename_i hv
      split at h
      · rcases ih h (fun q hq => hz q (List.mem_cons_of_mem _ hq)) hi with ⟨q, k1, k2, k3, k4⟩ | ⟨k1, k2⟩
        · exact .inl ⟨q, List.mem_cons_of_mem _ k1, k2, k3, k4⟩
        · refine .inr ⟨k1, fun q hq hq1 => ?_⟩
          rcases List.mem_cons.1 hq with rfl | hq
          · exact absurd hq1 hv
          · exact k2 q hq hq1
      · cases h
theorem next_new {l : List Sl} {m L : Nat} (h : nextL l m = some L) : m ≤ L ∧ ∀ i : Nat, m ≤ i → i < L → ∃ s ∈ l, s.1 = true ∧ s.2 = i := by
  induction l generalizing m with
  | nil => simp [nextL] at h; subst h; exact ⟨Nat.le_refl _, fun i h1 h2 => by omega⟩
  | cons s r ih =>
    simp only [nextL] at h
    split at h
    · rename_i hs
      split at h
      · cases h
      · split at h
        · rename_i h2
          obtain ⟨k1, k2⟩ := ih h
          refine ⟨by omega, fun i h3 h4 => ?_⟩
          by_cases e : i = m
          · exact ⟨s, List.mem_cons_self .., hs, by omega⟩
          · obtain ⟨q, q1, q2⟩ := k2 i (by omega) h4
            exact ⟨q, List.mem_cons_of_mem _ q1, q2⟩
        · obtain ⟨k1, k2⟩ := ih h
          exact ⟨k1, fun i h3 h4 => by
            obtain ⟨q, q1, q2⟩ := k2 i h3 h4
            exact ⟨q, List.mem_cons_of_mem _ q1, q2⟩⟩
    · obtain ⟨k1, k2⟩ := ih h
      exact ⟨k1, fun i h3 h4 => by
        obtain ⟨q, q1, q2⟩ := k2 i h3 h4
        exact ⟨q, List.mem_cons_of_mem _ q1, q2⟩⟩
/-- ids of constants (as in the order's text) -/
def IdsIn (n : Nat) (xs : List Int) : Prop := ∀ x ∈ xs, 0 ≤ x ∧ x < n
theorem rowL_length {ys zs' : List Int} {zs : List Z} (h : rowL ys zs = some zs') : zs'.length = ys.length := (rowL_ok (P := fun _ => True) h (fun _ _ => trivial) (fun _ _ => trivial)).1
theorem ext_ok {d L : Nat} {l : List Sl} {args sub ys : List Int} (h : extL l args sub = some ys) (hn : nextL l sub.length = some L) (hs : IdsIn d sub) (ha : IdsIn d args) : ys.length = L ∧ IdsIn d ys := by
  unfold extL at h
  split at h
  · rename_i hl
    obtain ⟨n, h1, h2⟩ := Option.bind_eq_some_iff.1 h
    obtain ⟨rfl, hz⟩ := chk_next hl h1 hn
    have hlen := rowL_length h2
    have hb : (baseL sub n).length = n := by simp [baseL]
    refine ⟨by omega, fun x hx => ?_⟩
    obtain ⟨i, hi⟩ := List.mem_iff_getElem?.1 hx
    have hin : i < n := by have := (List.getElem?_eq_some_iff.1 hi).1; omega
    rcases rowL_get h2 hz i (by omega) with ⟨z, k1, k2, k3, k4⟩ | ⟨k1, k2⟩
    · rw [hi] at k4
      cases k4
      exact ha _ (List.of_mem_zip k1).2
    · by_cases hiL : i < sub.length
      · rw [hi] at k1
        have e : (baseL sub n)[i]? = some (boundL sub i) := by simp [baseL, hin]
        rw [e] at k1
        cases k1
        have ho := hs sub[i] (List.getElem_mem _)
        have e2 : boundL sub (i : Int) = sub[i] := by
          unfold boundL
          rw [if_neg (by omega), Int.toNat_natCast, List.getElem?_eq_getElem hiL]
          simp only
          rw [if_neg (by omega)]
        rw [e2]
        exact ho
      · obtain ⟨s, q1, q2, q3⟩ := (next_new hn).2 i (by omega) hin
        obtain ⟨k, hk⟩ := List.mem_iff_getElem?.1 q1
        obtain ⟨hk1, hk2⟩ := List.getElem?_eq_some_iff.1 hk
        have hza : (s, args[k]'(by omega)) ∈ l.zip args := by
          rw [List.mem_iff_getElem?]
          exact ⟨k, by rw [List.getElem?_zip_eq_some]; exact ⟨hk, List.getElem?_eq_getElem (by omega)⟩⟩
        exact absurd q3 (k2 _ hza q2)
  · cases h
/-- how many variables there are behind some conditions -/
def nextC : List Cd → Nat → Option Nat
  | [], n => some n
  | .pos p :: r, n => (nextL p.2 n).bind (nextC r)
  | _ :: r, n => nextC r n
theorem step_mem {rows : List Row} {p : Pat} {sub x : List Int} (h : x ∈ stepL rows p sub) : ∃ r ∈ rows, extL p.2 r.2 sub = some x := by
  unfold stepL at h
  obtain ⟨n, hn, hx⟩ := List.mem_filterMap.1 h
  obtain ⟨r, hr, he⟩ := Option.bind_eq_some_iff.1 hx
  exact ⟨r, List.mem_of_getElem? hr, he⟩
theorem res_ok {rows : List Row} {cs : List C3} {d : Nat} (hr : ∀ r ∈ rows, IdsIn d r.2) : ∀ (c : List Cd) (sub : List Int) (L : Nat), IdsIn d sub → nextC c sub.length = some L → ∀ x ∈ resL rows cs c sub, x.length = L ∧ IdsIn d x
  | [], sub, L, hs, hn, x, hx => by
    simp [resL] at hx
    simp [nextC] at hn
    subst hx
    exact ⟨hn, hs⟩
  | .pos p :: c, sub, L, hs, hn, x, hx => by
    simp only [resL] at hx
    simp only [nextC] at hn
    obtain ⟨m, h1, h2⟩ := Option.bind_eq_some_iff.1 hn
    obtain ⟨y, hy, hxy⟩ := List.mem_flatMap.1 hx
    obtain ⟨r, hr1, he⟩ := step_mem hy
    obtain ⟨k1, k2⟩ := ext_ok he h1 hs (hr r hr1)
    exact res_ok hr c y L k2 (by rw [k1]; exact h2) x hxy
  | .tst t :: c, sub, L, hs, hn, x, hx => by
    simp only [resL] at hx
    split at hx
    · exact res_ok hr c sub L hs hn x hx
    · cases hx
  | .neg p :: c, sub, L, hs, hn, x, hx => by
    simp only [resL] at hx
    split at hx
    · cases hx
    · split at hx
      · cases hx
      · exact res_ok hr c sub L hs hn x hx
/-- how many positive patterns there are -/
def posN : List Cd → Nat
  | [] => 0
  | .pos _ :: r => posN r + 1
  | _ :: r => posN r
theorem flatMap_le {α β : Type} (f : α → List β) (B : Nat) : ∀ (l : List α), (∀ x ∈ l, (f x).length ≤ B) → (l.flatMap f).length ≤ l.length * B
  | [], _ => by simp
  | x :: l, h => by
    have h1 := h x (List.mem_cons_self ..)
    have h2 := flatMap_le f B l (fun y hy => h y (List.mem_cons_of_mem _ hy))
    rw [List.flatMap_cons, List.length_append, List.length_cons, Nat.add_mul]
    omega
theorem step_len {rows : List Row} {p : Pat} {sub : List Int} : (stepL rows p sub).length ≤ rows.length := by
  unfold stepL
  exact Nat.le_trans (List.length_filterMap_le _ _) numsL_len
theorem res_len {rows : List Row} {cs : List C3} : ∀ (c : List Cd) (sub : List Int), (resL rows cs c sub).length ≤ rows.length ^ posN c
  | [], sub => by simp [resL, posN]
  | .pos p :: c, sub => by
    simp only [resL, posN]
    refine Nat.le_trans (flatMap_le _ (rows.length ^ posN c) _ (fun y _ => res_len c y)) ?_
    rw [Nat.pow_succ, Nat.mul_comm (rows.length ^ posN c)]
    exact Nat.mul_le_mul_right _ step_len
  | .tst t :: c, sub => by
    simp only [resL, posN]
    split
    · exact res_len c sub
    · simp
  | .neg p :: c, sub => by
    simp only [resL, posN]
    split
    · simp
    · split
      · simp
      · exact res_len c sub
end Mt
end Go.Proofs.Ytkejjiohkhlnnaa

namespace Go.Proofs.Ytkejjiohkhlnnaa
open Go.RowKit
namespace Mt

theorem nextC_split : ∀ (a b : List Cd) (m L : Nat), nextC (a ++ b) m = some L → ∃ n, nextC a m = some n ∧ nextC b n = some L
  | [], b, m, L, h => ⟨m, rfl, h⟩
  | .pos p :: a, b, m, L, h => by
    simp only [List.cons_append, nextC] at h ⊢
    obtain ⟨k, h1, h2⟩ := Option.bind_eq_some_iff.1 h
    obtain ⟨n, q1, q2⟩ := nextC_split a b k L h2
    exact ⟨n, by rw [h1]; exact q1, q2⟩
  | .tst _ :: a, b, m, L, h => by simp only [List.cons_append, nextC] at h ⊢; exact nextC_split a b m L h
  | .neg _ :: a, b, m, L, h => by simp only [List.cons_append, nextC] at h ⊢; exact nextC_split a b m L h
theorem nextC_mono : ∀ (a : List Cd) (m L : Nat), nextC a m = some L → m ≤ L
  | [], m, L, h => by simp [nextC] at h; omega
  | .pos p :: a, m, L, h => by
    simp only [nextC] at h
    obtain ⟨k, h1, h2⟩ := Option.bind_eq_some_iff.1 h
    have := (next_new h1).1
    have := nextC_mono a k L h2
    omega
  | .tst _ :: a, m, L, h => nextC_mono a m L h
  | .neg _ :: a, m, L, h => nextC_mono a m L h
theorem nextC_pos : ∀ (l : List Pat) (m : Nat), nextC (l.map .pos) m = nextP l m
  | [], m => rfl
  | p :: l, m => by
    simp only [List.map_cons, nextC, nextP]
    congr 1
    funext n
    exact nextC_pos l n
theorem nextC_rest : ∀ (b : List Cd), (∀ c ∈ b, ∀ p, c ≠ .pos p) → ∀ n, nextC b n = some n
  | [], _, _ => rfl
  | .pos p :: _, h, _ => absurd rfl (h _ (List.mem_cons_self ..) p)
  | .tst _ :: b, h, n => nextC_rest b (fun c hc => h c (List.mem_cons_of_mem _ hc)) n
  | .neg _ :: b, h, n => nextC_rest b (fun c hc => h c (List.mem_cons_of_mem _ hc)) n
theorem nextC_app : ∀ (a b : List Cd) (m n : Nat), nextC a m = some n → nextC (a ++ b) m = nextC b n
  | [], b, m, n, h => by simp [nextC] at h; subst h; rfl
  | .pos p :: a, b, m, n, h => by
    simp only [List.cons_append, nextC] at h ⊢
    obtain ⟨k, h1, h2⟩ := Option.bind_eq_some_iff.1 h
    rw [h1]
    exact nextC_app a b k n h2
  | .tst _ :: a, b, m, n, h => nextC_app a b m n h
  | .neg _ :: a, b, m, n, h => nextC_app a b m n h
theorem conds_next {R : RuleV} {d : Nat} (ok : RuleOk R d) : nextC (condsL R) 0 = some R.nv := by
  unfold condsL
  rw [List.append_assoc, nextC_app _ _ 0 R.nv (by rw [nextC_pos]; exact ok.next)]
  refine nextC_rest _ (fun c hc p => ?_) _
  rcases List.mem_append.1 hc with hc | hc
  · obtain ⟨t, -, rfl⟩ := List.mem_map.1 hc
    simp
  · obtain ⟨t, -, rfl⟩ := List.mem_map.1 hc
    simp
/-- the width behind k conditions -/
def wid (R : RuleV) (k : Nat) : Nat := (nextC ((condsL R).take k) 0).getD 0
theorem wid_is {R : RuleV} {d : Nat} (ok : RuleOk R d) (k : Nat) : nextC ((condsL R).take k) 0 = some (wid R k) ∧ wid R k ≤ R.nv := by
  have h := conds_next ok
  rw [← List.take_append_drop k (condsL R)] at h
  obtain ⟨n, h1, h2⟩ := nextC_split _ _ _ _ h
  have := nextC_mono _ _ _ h2
  unfold wid
  rw [h1]
  exact ⟨rfl, this⟩
theorem wid_all {R : RuleV} {d : Nat} (ok : RuleOk R d) {k : Nat} (hk : (condsL R).length ≤ k) : wid R k = R.nv := by
  have := (wid_is ok k).1
  rw [List.take_of_length_le hk, conds_next ok] at this
  simpa using this.symm
theorem posN_le : ∀ (a b : List Cd), posN a ≤ posN (a ++ b)
  | [], b => Nat.zero_le _
  | .pos p :: a, b => by simp only [List.cons_append, posN]; have := posN_le a b; omega
  | .tst _ :: a, b => by simp only [List.cons_append, posN]; exact posN_le a b
  | .neg _ :: a, b => by simp only [List.cons_append, posN]; exact posN_le a b
theorem posN_app : ∀ (a b : List Cd), posN (a ++ b) = posN a + posN b
  | [], b => by simp [posN]
  | .pos p :: a, b => by simp only [List.cons_append, posN]; have := posN_app a b; omega
  | .tst _ :: a, b => by simp only [List.cons_append, posN]; exact posN_app a b
  | .neg _ :: a, b => by simp only [List.cons_append, posN]; exact posN_app a b
theorem posN_conds (R : RuleV) : posN (condsL R) = R.pos.length := by
  have h1 : ∀ (l : List Pat), posN (l.map .pos) = l.length := fun l => by
    induction l with
    | nil => rfl
    | cons x l ih => simp [posN, ih]
  have h2 : ∀ (l : List Tst), posN (l.map .tst) = 0 := fun l => by
    induction l with
    | nil => rfl
    | cons x l ih => simp [posN, ih]
  have h3 : ∀ (l : List Pat), posN (l.map .neg) = 0 := fun l => by
    induction l with
    | nil => rfl
    | cons x l ih => simp [posN, ih]
  unfold condsL
  rw [posN_app, posN_app, h1, h2, h3]
  omega
/-- the plain answer of Prefix -/
noncomputable def pre (rows : List Row) (cs : List C3) (R : RuleV) (k : Nat) : List (List Int) := srtL cs (wid R k) (resL rows cs ((condsL R).take k) [])
theorem res_some {rows : List Row} {cs : List C3} {R : RuleV} (ok : RuleOk R cs.length) (hall : ∀ r ∈ rows, IdsIn cs.length r.2) (k : Nat) : ∀ x ∈ resL rows cs ((condsL R).take k) [], x.length = wid R k ∧ IdsIn cs.length x :=
  res_ok hall _ [] (wid R k) (fun x hx => by cases hx) (wid_is ok k).1
theorem res_few {rows : List Row} {cs : List C3} {R : RuleV} (h1 : rows.length ≤ 30) (h2 : R.pos.length ≤ 4) (k : Nat) : (resL rows cs ((condsL R).take k) []).length ≤ 810000 := by
  have h3 := res_len (rows := rows) (cs := cs) ((condsL R).take k) []
  have h4 : posN ((condsL R).take k) ≤ 4 := by
    have := posN_le ((condsL R).take k) ((condsL R).drop k)
    rw [List.take_append_drop, posN_conds] at this
    omega
  refine Nat.le_trans h3 (Nat.le_trans (Nat.pow_le_pow_left h1 _) ?_)
  have h5 : (30 : Nat) ^ posN ((condsL R).take k) ≤ 30 ^ 4 := Nat.pow_le_pow_right (by omega) h4
  have h6 : (30 : Nat) ^ 4 = 810000 := by decide
  omega
section
variable {s sb : Nat} {σ : St} {h : Hd} {τ : Own} {w : World}
theorem prefix_full (hs : StoreAt s sb σ h τ w) (R : RuleV) (hr : RuleIn w R) (ca : Option Addr) (cc : Nat) (cs : List C3) (hc : Consts w ca cs) (ok : RuleOk R cs.length) (cok : ConstsOk cs) (hrows : σ.rows.length ≤ 30) (hpos : R.pos.length ≤ 4) (hall : ∀ r ∈ σ.rows, IdsIn cs.length r.2)
    (hpr : (∀ p ∈ R.pos, Rng p.1) ∧ ∀ p ∈ R.neg, Rng p.1) (k : Nat) (hk : k ≤ (condsL R).length) :
    Calls Try.prog 15 #[.pointer (some ⟨sb, 0, none⟩), .slice ca cs.length cc, .agg R.cells, .int .i64 k] w (AllEnd (pre σ.rows cs R k) w) := by
  have hf := res_few (cs := cs) hrows hpos k
  have hso := res_some ok hall k
  have hw := (wid_is ok k).2
  have hv := ok.vars
  refine prefix_any hs R hr ca cc cs hc ok cok (by omega) (fun r hr x hx => (hall r hr x hx).2) hpr k hk _ _ rfl ?_ (by omega) ?_
  · intro D h1 h2 h3 h4 I
    have := goes_any D I D.last 0 (by omega)
    rw [h2, h4] at this
    simpa using this
  · intro ob v V O hb ho
    exact sortSubs_any ob v _ ca cc cs (wid R k) V O hb ho hc cok.once (fun x hx => (hso x hx).1) (by omega) (fun x hx => (hso x hx).2) (by omega)
theorem all_full (hs : StoreAt s sb σ h τ w) (R : RuleV) (hr : RuleIn w R) (ca : Option Addr) (cc : Nat) (cs : List C3) (hc : Consts w ca cs) (ok : RuleOk R cs.length) (cok : ConstsOk cs) (hrows : σ.rows.length ≤ 30) (hpos : R.pos.length ≤ 4) (hall : ∀ r ∈ σ.rows, IdsIn cs.length r.2)
    (hpr : (∀ p ∈ R.pos, Rng p.1) ∧ ∀ p ∈ R.neg, Rng p.1) :
    Calls Try.prog 14 #[.pointer (some ⟨sb, 0, none⟩), .slice ca cs.length cc, .agg R.cells] w (AllEnd (pre σ.rows cs R (condsL R).length) w) := by
  have hf := res_few (cs := cs) hrows hpos (condsL R).length
  have hso := res_some ok hall (condsL R).length
  have hw := (wid_is ok (condsL R).length).2
  have hv := ok.vars
  have e : (condsL R).take (condsL R).length = condsL R := List.take_of_length_le (Nat.le_refl _)
  rw [e] at hf hso
  unfold pre
  rw [e]
  refine all_any hs R hr ca cc cs hc ok cok (by omega) (fun r hr x hx => (hall r hr x hx).2) hpr _ _ rfl ?_ (by omega) ?_
  · intro D h1 h2 h3 h4 I
    have := goes_any D I D.last 0 (by omega)
    rw [h2, h4, e] at this
    simpa using this
  · intro ob v V O hb ho
    exact sortSubs_any ob v _ ca cc cs (wid R (condsL R).length) V O hb ho hc cok.once (fun x hx => (hso x hx).1) (by omega) (fun x hx => (hso x hx).2) (by omega)
end
end Mt
end Go.Proofs.Ytkejjiohkhlnnaa
