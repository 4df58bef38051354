/-
  Extend on lists: what the reference reckons and what the program reckons is one. No program in sight.
-/
import Derived.Test.YtkejjiohkhlnnaaValue
namespace Go.Proofs.Ytkejjiohkhlnnaa
open Go.RowKit
namespace Mt

abbrev Z := (Bool × Int) × Int
def badP (z : Z) : Bool := decide (z.1.2 < 0) || decide (z.2 < 0) || (z.1.1 && decide (16 ≤ z.1.2))
def cst (z : Z) : Bool := z.1.1 || decide (z.1.2 = z.2)
def badR (z : Z) : Bool := badP z || !cst z
/-- the size after the slots zs, if none is bad -/
def chkL (bad : Z → Bool) (m : Nat) : List Z → Option Nat
  | [] => some m
  | z :: r => if bad z then none else chkL bad (if z.1.1 then max m (z.1.2.toNat + 1) else m) r
/-- the id at place i, x being there before -/
def colL (i : Nat) (x : Int) : List Z → Option Int
  | [] => some x
  | z :: r => if z.1.1 = true ∧ z.1.2 = i then (if 0 ≤ x ∧ x ≠ z.2 then none else colL i z.2 r) else colL i x r
def tabL (f : Nat → Option Int) : Nat → Option (List Int)
  | 0 => some []
  | n + 1 => (tabL f n).bind fun xs => (f n).map fun x => xs ++ [x]
def rowL (ys : List Int) : List Z → Option (List Int)
  | [] => some ys
  | z :: r => if z.1.1 = true then (if 0 ≤ ys.getD z.1.2.toNat 0 ∧ ys.getD z.1.2.toNat 0 ≠ z.2 then none else rowL (ys.set z.1.2.toNat z.2) r)
    else if z.1.2 = z.2 then rowL ys r else none
def baseL (sub : List Int) (n : Nat) : List Int := (List.range n).map fun (i : Nat) => boundL sub (i : Int)
def refExtL (l : List (Bool × Int)) (args sub : List Int) : Option (List Int) :=
  if l.length = args.length then (chkL badR sub.length (l.zip args)).bind fun n => tabL (fun (i : Nat) => colL i (boundL sub (i : Int)) (l.zip args)) n else none
def extL (l : List (Bool × Int)) (args sub : List Int) : Option (List Int) :=
  if l.length = args.length then (chkL badP sub.length (l.zip args)).bind fun n => rowL (baseL sub n) (l.zip args) else none

theorem drop_at {α : Type} {l : List α} {k : Nat} {z : α} (h : l[k]? = some z) : l.drop k = z :: l.drop (k + 1) := by
  obtain ⟨hk, rfl⟩ := List.getElem?_eq_some_iff.1 h
  exact List.drop_eq_getElem_cons hk
theorem zip_at {l : List (Bool × Int)} {args : List Int} {k : Nat} {s : Bool × Int} {a : Int} (h1 : l[k]? = some s) (h2 : args[k]? = some a) : (l.zip args)[k]? = some (s, a) := by
  rw [List.getElem?_zip_eq_some]; exact ⟨h1, h2⟩

theorem tab_none {f : Nat → Option Int} {k n : Nat} (h : f k = none) (hk : k < n) : tabL f n = none := by
  induction n with
  | zero => omega
  | succ n ih =>
    rcases Nat.lt_or_ge k n with hlt | hge
    · simp [tabL, ih hlt]
    · have : k = n := by omega
      subst this
      simp [tabL, h]
theorem tab_congr {f g : Nat → Option Int} {n : Nat} (h : ∀ i, i < n → f i = g i) : tabL f n = tabL g n := by
  induction n with
  | zero => rfl
  | succ n ih => simp only [tabL, ih (fun i hi => h i (by omega)), h n (by omega)]
theorem tab_length {f : Nat → Option Int} {n : Nat} {xs : List Int} (h : tabL f n = some xs) : xs.length = n := by
  induction n generalizing xs with
  | zero => simp [tabL] at h; subst h; rfl
  | succ n ih =>
    simp only [tabL, Option.bind_eq_some_iff, Option.map_eq_some_iff] at h
    obtain ⟨ys, h1, x, _, rfl⟩ := h
    simp [ih h1]
theorem tab_some (ys : List Int) : tabL (fun i => some (ys.getD i 0)) ys.length = some ys := by
  suffices h : ∀ n, n ≤ ys.length → tabL (fun i => some (ys.getD i 0)) n = some (ys.take n) by
    rw [h _ (Nat.le_refl _), List.take_of_length_le (l := ys) (Nat.le_refl _)]
  intro n hn
  induction n with
  | zero => rfl
  | succ n ih =>
    rw [tabL, ih (by omega)]
    have h1 : ys.getD n 0 = ys[n] := by rw [List.getD_eq_getElem?_getD, List.getElem?_eq_getElem (by omega)]; rfl
    simp only [Option.bind_some, Option.map_some, h1]
    rw [List.take_add_one, List.getElem?_eq_getElem (by omega)]
    rfl

theorem row_tab (zs : List Z) (ys : List Int) (h : ∀ z ∈ zs, z.1.1 = true → 0 ≤ z.1.2 ∧ z.1.2 < ys.length) :
    rowL ys zs = if zs.all cst then tabL (fun i => colL i (ys.getD i 0) zs) ys.length else none := by
  induction zs generalizing ys with
  | nil => simp only [rowL, colL, List.all_nil, if_true]; exact (tab_some ys).symm
  | cons z r ih =>
    have hr := fun y hy => h y (List.mem_cons_of_mem z hy)
    have hz := h z (List.mem_cons_self ..)
    rw [rowL]
    cases hv : z.1.1 with
    | false =>
      have hc : ∀ i x, colL i x (z :: r) = colL i x r := by intro i x; simp [colL, hv]
      simp only [Bool.false_eq_true, if_false, hc]
      by_cases he : z.1.2 = z.2
      · have : cst z = true := by simp [cst, he]
        rw [if_pos he, ih ys hr, List.all_cons, this, Bool.true_and]
      · have : cst z = false := by simp [cst, he, hv]
        rw [if_neg he, List.all_cons, this, Bool.false_and]; simp
    | true =>
      obtain ⟨h0, h1⟩ := hz hv
      obtain ⟨N, hN⟩ := Int.eq_ofNat_of_zero_le h0
      have hNl : N < ys.length := by omega
      have hcs : cst z = true := by simp [cst, hv]
      rw [hN]
      simp only [if_true, Int.toNat_natCast, List.all_cons, hcs, Bool.true_and]
      by_cases hc : 0 ≤ ys.getD N 0 ∧ ys.getD N 0 ≠ z.2
      · rw [if_pos hc]
        split
        · rw [tab_none (k := N) _ hNl]
          simp only [colL]
          rw [if_pos ⟨hv, hN⟩, if_pos hc]
        · rfl
      · rw [if_neg hc, ih (ys.set N z.2) (by intro y hy hyv; rw [List.length_set]; exact hr y hy hyv)]
        split
        · rw [List.length_set]
          refine tab_congr fun i hi => ?_
          simp only [colL]
          by_cases hiN : i = N
          · subst hiN
            rw [if_pos ⟨hv, hN⟩, if_neg hc]
            congr 1
            simp [List.getD_eq_getElem?_getD, hNl]
          · rw [if_neg (by rintro ⟨_, h⟩; rw [hN] at h; exact hiN (by omega))]
            congr 1
            simp [List.getD_eq_getElem?_getD, Ne.symm hiN]
        · rfl

theorem chk_le {bad : Z → Bool} {m n : Nat} {zs : List Z} (h : chkL bad m zs = some n) : m ≤ n := by
  induction zs generalizing m with
  | nil => simp [chkL] at h; omega
  | cons z r ih =>
    simp only [chkL] at h
    split at h
    · cases h
    · have := ih h
      split at this <;> omega
theorem chk_in {m n : Nat} {zs : List Z} (h : chkL badP m zs = some n) : ∀ z ∈ zs, z.1.1 = true → 0 ≤ z.1.2 ∧ z.1.2 < n := by
  induction zs generalizing m with
  | nil => intro z hz; cases hz
  | cons y r ih =>
    simp only [chkL] at h
    split at h
    · cases h
    · rename_i hb
      intro z hz hv
      rcases List.mem_cons.1 hz with rfl | hz
      · rw [if_pos hv] at h
        have := chk_le h
        simp [badP] at hb
        omega
      · exact ih h z hz hv
theorem chk_max {bad : Z → Bool} (hbad : ∀ z, bad z = false → badP z = false) {m n : Nat} {zs : List Z} (h : chkL bad m zs = some n) : n ≤ max m 16 := by
  induction zs generalizing m with
  | nil => simp [chkL] at h; omega
  | cons z r ih =>
    simp only [chkL] at h
    split at h
    · cases h
    · rename_i hb
      have := ih h
      have hP := hbad z (by simpa using hb)
      simp [badP] at hP
      split at this
      · rename_i hv
        have := hP.2 hv
        omega
      · exact this
theorem chk_ref (m : Nat) (zs : List Z) : chkL badR m zs = if zs.all cst then chkL badP m zs else none := by
  induction zs generalizing m with
  | nil => rfl
  | cons z r ih =>
    simp only [chkL, badR, ih]
    by_cases hC : cst z = true
    · have hA : (z :: r).all cst = r.all cst := by rw [List.all_cons, hC, Bool.true_and]
      rw [hA, hC]
      by_cases hP : badP z = true
      · simp [hP]
      · simp [hP]
    · have hA : (z :: r).all cst = false := by rw [List.all_cons]; simp [hC]
      rw [hA]
      simp [hC]
theorem ext_same (l : List (Bool × Int)) (args sub : List Int) : refExtL l args sub = extL l args sub := by
  unfold refExtL extL
  split
  · rw [chk_ref]
    cases hc : chkL badP sub.length (l.zip args) with
    | none => split <;> rfl
    | some n =>
      simp only [Option.bind_some]
      have hl : (baseL sub n).length = n := by simp [baseL]
      rw [row_tab _ _ (by rw [hl]; exact chk_in hc), hl]
      split
      · simp only [Option.bind_some]
        refine tab_congr fun i hi => ?_
        congr 1
        simp [baseL, List.getD_eq_getElem?_getD, hi]
      · rfl
  · rfl
theorem ext_length {l : List (Bool × Int)} {args sub xs : List Int} (h : extL l args sub = some xs) : xs.length ≤ max sub.length 16 := by
  rw [← ext_same] at h
  unfold refExtL at h
  split at h
  · obtain ⟨n, h1, h2⟩ := Option.bind_eq_some_iff.1 h
    rw [tab_length h2]
    exact chk_max (fun z hz => by simp [badR] at hz; exact hz.1) h1
  · cases h
end Mt
end Go.Proofs.Ytkejjiohkhlnnaa
