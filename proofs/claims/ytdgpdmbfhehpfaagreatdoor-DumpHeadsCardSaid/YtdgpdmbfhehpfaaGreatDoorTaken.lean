/-
  The run of 'taken' in every world that bears the two variables.
-/
import Derived.Test.YtdgpdmbfhehpfaaGreatDoorTakR
import Derived.Test.YtdgpdmbfhehpfaaGreatDoorTakP
import Derived.LaidMore
import Derived.FnData
import Derived.ChangeArms
namespace Go.Proofs.YtdgpdmbfhehpfaaGreatDoor
open Go.RowKit Ev

/-- what the run reads of the variables -/
structure Reads (W : World) : Prop where
  table : ∀ k, k < 16 → W.cell? ⟨0, 0 + k, none⟩ = tabV[k]?
  signs : ∃ B o cap, W.cell? ⟨2, 0, none⟩ = some (.slice (some ⟨B, o, none⟩) 11 cap) ∧ 11 ≤ cap ∧ ∀ k, k < 33 → W.cell? ⟨B, o + k, none⟩ = signV[k]?

theorem row_of_cells {W : World} {B o n : Nat} {vs : List Value} (hn : n = vs.length) (h0 : 0 < n) (h : ∀ k, k < n → W.cell? ⟨B, o + k, none⟩ = vs[k]?) :
    ∃ C E fr, W.heap[B]? = some (.cells C E fr) ∧ (C.toList.drop o).take n = vs ∧ o + n ≤ C.size := by
  subst hn
  have hk : ∀ k, k < vs.length → ∃ C E fr, W.heap[B]? = some (.cells C E fr) ∧ C[o + k]? = vs[k]? ∧ o + k < C.size := fun k hk => by
    have := h k hk
    unfold World.cell? at this
    split at this
    · rename_i C E fr hC
      simp only [Option.isSome_none, Bool.false_eq_true, if_false] at this
      refine ⟨C, E, fr, hC, this, ?_⟩
      rcases Nat.lt_or_ge (o + k) C.size with h' | h'
      · exact h'
      · rw [Array.getElem?_eq_none h', List.getElem?_eq_getElem hk] at this
        cases this
    · rw [List.getElem?_eq_getElem hk] at this
      cases this
  obtain ⟨C, E, fr, hC, _, _⟩ := hk 0 h0
  have hk' : ∀ k, k < vs.length → C[o + k]? = vs[k]? ∧ o + k < C.size := fun k h' => by
    obtain ⟨C', E', fr', hC', h1, h2⟩ := hk k h'
    rw [hC] at hC'
    cases hC'
    exact ⟨h1, h2⟩
  have hsz : o + vs.length ≤ C.size := by
    have := (hk' (vs.length - 1) (by omega)).2
    omega
  refine ⟨C, E, fr, hC, ?_, hsz⟩
  apply List.ext_getElem?
  intro k
  rcases Nat.lt_or_ge k vs.length with h' | h'
  · rw [List.getElem?_take_of_lt h', List.getElem?_drop]
    have := (hk' k h').1
    simpa using this
  · rw [List.getElem?_eq_none h', List.getElem?_eq_none]
    simp
    omega

def rho0 (B o cap : Nat) : Env := ⟨fun b => if b = 0 then some (0, 0) else if b = 2 then some (2, 0) else if b = 8 then some (B, cap) else none, fun b => if b = 8 then o else 0⟩

theorem get_h0 {b : Nat} {o : AObj} (h : h0.get b = some o) : (b = 8 ∧ o = .cells signA 479 true false) ∨ (b = 2 ∧ o = .cells [.slice 8 0 11 (.rest 0)] 477 true false) ∨ (b = 0 ∧ o = .cells tabA 117 true false) := by
  rcases Heap.get_put h with h | ⟨_, h⟩
  · exact .inl h
  · rcases Heap.get_put h with h | ⟨_, h⟩
    · exact .inr (.inl h)
    · rcases Heap.get_put h with h | ⟨_, h⟩
      · exact .inr (.inr h)
      · unfold Heap.get at h
        rw [T.getF_eq, T.get_e] at h
        cases h

theorem not_turns {b : Nat} {o : AObj} (h : h0.get b = some o) : o.turns = false := by
  rcases get_h0 h with ⟨_, rfl⟩ | ⟨_, rfl⟩ | ⟨_, rfl⟩ <;> rfl

theorem lt_of_heap {W : World} {b : Nat} {O : Obj} (h : W.heap[b]? = some O) : b < W.heap.size := by
  rcases Nat.lt_or_ge b W.heap.size with h' | h'
  · exact h'
  · rw [Array.getElem?_eq_none h'] at h; cases h

theorem holds_h0 {W : World} (hR : Reads W) : ∃ ρ, GOk prm ρ ∧ Holds Tryz.prog W.heap.size ρ h0 W := by
  obtain ⟨B, o, cap, hs, hcap, hcells⟩ := hR.signs
  obtain ⟨C0, E0, fr0, hC0, hv0, hz0⟩ := row_of_cells (vs := tabV) rfl (by decide) hR.table
  obtain ⟨C8, E8, fr8, hC8, hv8, hz8⟩ := row_of_cells (vs := signV) rfl (by decide) hcells
  obtain ⟨C2, E2, fr2, hC2, hv2, hz2⟩ := row_of_cells (W := W) (B := 2) (o := 0) (n := 1) (vs := [.slice (some ⟨B, o, none⟩) 11 cap]) rfl (by decide) (fun k hk => by
    have : k = 0 := by omega
    subst this
    exact hs)
  refine ⟨rho0 B o cap, ?_, ?_⟩
  · intro g hg
    have : g = 0 ∨ g = 2 := by simpa [prm] using hg
    rcases this with rfl | rfl
    · exact ⟨⟨0, rfl⟩, rfl⟩
    · exact ⟨⟨0, rfl⟩, rfl⟩
  · refine ⟨?_, ?_, ?_, ?_, ?_, Nat.le_refl _, ?_⟩
    · intro b x hx
      rcases get_h0 hx with ⟨rfl, rfl⟩ | ⟨rfl, rfl⟩ | ⟨rfl, rfl⟩
      · refine ⟨B, cap, _, rfl, hC8, C8, E8, fr8, rfl, ?_, hz8, fun e => (by cases e), fun _ e => (by cases e), fun e => (by cases e)⟩
        have : (C8.toList.drop ((rho0 B o cap).β 8)).take signA.length = signV := hv8
        rw [this]
        exact ofAtoms_ok rfl
      · refine ⟨2, 0, _, rfl, hC2, C2, E2, fr2, rfl, ?_, hz2, fun e => (by cases e), fun _ e => (by cases e), fun e => (by cases e)⟩
        have : (C2.toList.drop ((rho0 B o cap).β 2)).take 1 = [.slice (some ⟨B, o, none⟩) 11 cap] := hv2
        refine Eq.mpr (congrArg (VRels (rho0 B o cap) [.slice 8 0 11 (.rest 0)]) this) (.cons ?_ .nil)
        have h8 := VRel.sliceR (ρ := rho0 B o cap) (b := 8) (o := 0) (n := 11) (k := 0) (B := B) (c := cap) rfl hcap
        exact h8
      · refine ⟨0, 0, _, rfl, hC0, C0, E0, fr0, rfl, ?_, hz0, fun e => (by cases e), fun _ e => (by cases e), fun e => (by cases e)⟩
        have : (C0.toList.drop ((rho0 B o cap).β 0)).take tabA.length = tabV := hv0
        rw [this]
        exact ofAtoms_ok rfl
    · intro b b' x x' _ _ _ hx _ ht
      rw [not_turns hx] at ht
      cases ht
    · intro b hb
      have hb : 9 ≤ b := hb
      have h1 : b ≠ 0 := by omega
      have h2 : b ≠ 2 := by omega
      have h3 : b ≠ 8 := by omega
      simp [rho0, h1, h2, h3]
    · intro b B' c hb
      simp only [rho0] at hb
      split at hb
      · cases hb; exact lt_of_heap hC0
      · split at hb
        · cases hb; exact lt_of_heap hC2
        · split at hb
          · cases hb; exact lt_of_heap hC8
          · cases hb
    · intro b x _ _ hx ht
      rw [not_turns hx] at ht
      cases ht
    · intro b hb
      simp only [rho0] at hb ⊢
      split
      · rename_i e; subst e; cases hb
      · rfl

/-- 'taken' returns true -/
theorem taken_any {W : World} (hR : Reads W) : Calls Tryz.prog 6 #[] W fun e W' => e = .returned (.bool true) ∧ Below W.heap.size W W' := by
  obtain ⟨ρ, hG, H⟩ := holds_h0 hR
  obtain ⟨h', e⟩ := isTrue_some run_taken
  refine (sound prmOk prmOk2 e hG H .nil).mono fun x W' ⟨V, ρ', hx, M, _, hV⟩ => ?_
  subst hx
  cases hV
  exact ⟨rfl, M.below⟩

#print axioms taken_any
end Go.Proofs.YtdgpdmbfhehpfaaGreatDoor
