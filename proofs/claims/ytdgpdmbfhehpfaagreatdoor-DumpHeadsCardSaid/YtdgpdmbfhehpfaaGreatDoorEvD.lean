/-
  The evaluator's operations are sound: what lies beneath.
-/
import Derived.Test.YtdgpdmbfhehpfaaGreatDoorEvC
import Derived.Calls
import Derived.Laws.Tables
set_option linter.all false
namespace Go.Proofs.YtdgpdmbfhehpfaaGreatDoor.Ev
open Go.RowKit

def GOk (gs : Prm) (ρ : Env) : Prop := ∀ g, gs.vars.elem g = true → (∃ c, ρ g = some (g, c)) ∧ ρ.β g = 0

theorem GOk.mono {gs : Prm} {ρ ρ' : Env} (h : GOk gs ρ) (hl : ρ.le ρ') : GOk gs ρ' := fun g hg => let ⟨⟨c, hc⟩, h0⟩ := h g hg; ⟨⟨c, hl _ _ hc⟩, by rw [hl.same]; exact h0⟩

def DRel (ρ : Env) (d : ADef) (D : Deferred) : Prop := ∃ cap vs, D = { target := .fn d.fn ⟨cap⟩, args := ⟨vs⟩ } ∧ VRels ρ d.captured cap ∧ VRels ρ d.args vs

def NRel (ρ : Env) : ANext → Next → Prop
  | .value a, N => ∃ v, N = .value v ∧ VRel ρ a v
  | .skip, N => N = .skip
  | .enter f as, N => ∃ vs, N = .enter f ⟨vs⟩ ∧ VRels ρ as vs
  | .defer d, N => ∃ D, N = .defer D ∧ DRel ρ d D
  | .recover, N => N = .recover

def Good (P : Program) (N0 : Nat) (K : Nat → Prop) (ρ : Env) (w : World) (h' : Heap) (n : ANext) (r : Result Next) : Prop :=
  ∃ N w' ρ', r = .ok N w' ∧ Mov N0 K ρ w ρ' w' ∧ Holds P N0 ρ' h' w' ∧ NRel ρ' n N

variable {gs : Prm} {P : Program} {N0 : Nat} {K : Nat → Prop} {ρ : Env} {h h' : Heap} {w : World}

theorem ofAtom_ok {v : Value} {a : AVal} (h : ofAtom v = some a) : VRel ρ a v := by
  unfold ofAtom at h
  split at h <;> cases h <;> constructor

theorem ofAtoms_ok {vs : List Value} {as : List AVal} (h : ofAtoms vs = some as) : VRels ρ as vs := by
  induction vs generalizing as with
  | nil => simp [ofAtoms] at h; subst h; exact .nil
  | cons v vs ih =>
    simp only [ofAtoms, Option.bind_eq_some_iff] at h
    obtain ⟨a, ha, as', has, he⟩ := h
    cases he
    exact .cons (ofAtom_ok ha) (ih has)

theorem ofVal_ok {v : Value} {a : AVal} (h : ofVal v = some a) : VRel ρ a v := by
  unfold ofVal at h
  split at h
  · rename_i cs
    obtain ⟨cs⟩ := cs
    simp only [Option.map_eq_some_iff] at h
    obtain ⟨as, has, rfl⟩ := h
    exact .agg (ofAtoms_ok has)
  · rename_i cs
    obtain ⟨cs⟩ := cs
    simp only [Option.map_eq_some_iff] at h
    obtain ⟨as, has, rfl⟩ := h
    exact .tup (ofAtoms_ok has)
  · simp only [Option.map_eq_some_iff] at h
    obtain ⟨a, ha, rfl⟩ := h
    exact .iface _ (ofAtom_ok ha)
  · exact ofAtom_ok h

theorem ev_ok {ts : List AVal} {a : Act} (hG : GOk gs ρ) (hts : VRels ρ ts a.tmps.toList) {x : Operand} {v : AVal} (h : aev gs ts x = some v) : VRel ρ v (a.eval x) := by
  cases x with
  | tmp t =>
    simp only [aev, Option.some.injEq] at h
    subst h
    rw [lget_eq]
    have := hts.getD t
    simpa [Act.eval, Array.getD_eq_getD_getElem?, List.getD] using this
  | const v => exact ofVal_ok h
  | global g =>
    simp only [aev] at h
    split at h
    · rename_i hg
      cases h
      obtain ⟨⟨c, hc⟩, h0⟩ := hG g hg
      exact .ptr0 hc h0
    · cases h
  | func f =>
    simp only [aev, Option.some.injEq] at h
    subst h
    exact .func _ .nil .nil

theorem evs_ok {ts : List AVal} {a : Act} (hG : GOk gs ρ) (hts : VRels ρ ts a.tmps.toList) : ∀ {xs : List Operand} {vs : List AVal}, aevs gs ts xs = some vs → VRels ρ vs (xs.map a.eval)
  | [], vs, h => by simp [aevs] at h; subst h; exact .nil
  | x :: xs, vs, h => by
    simp only [aevs, Option.bind_eq_some_iff] at h
    obtain ⟨v, hv, vs', hvs, he⟩ := h
    cases he
    exact .cons (ev_ok hG hts hv) (evs_ok hG hts hvs)

/-- what a value alone gives -/
theorem Good.val (H : Holds P N0 ρ h w) {a : AVal} {v : Value} {r : Result Next} (hr : r = .ok (.value v) w) (hv : VRel ρ a v) : Good P N0 K ρ w h (.value a) r :=
  ⟨_, _, _, hr, Mov.refl _ _ _ _, H, v, rfl, hv⟩

theorem und_ok {t : TypeId} {d : TypeDesc} (h : P.underlying t = some d) : (underlying t).run P w = .ok d w := run_underlying h w

theorem size_ok {t n : Nat} (h : tsize P t = some n) : (sizeOf t).run P w = .ok n w := by
  simp only [tsize, Option.map_eq_some_iff] at h
  obtain ⟨i, hi, rfl⟩ := h
  simp [sizeOf, typeInfo, hi]

theorem zero_ok {t : Nat} {z : AVal} (h : tzero P t = some z) : ∃ v, (zeroValue t).run P w = .ok v w ∧ VRel ρ z v := by
  simp only [tzero, Option.bind_eq_some_iff] at h
  obtain ⟨v, ⟨i, hi, hz⟩, hv⟩ := h
  refine ⟨v, ?_, ofVal_ok hv⟩
  simp [zeroValue, typeInfo, hi, hz]

/-- cells that are known -/
theorem Holds.cells (H : Holds P N0 ρ h w) {b : Nat} {cs : List AVal} {e : Nat} {x wr : Bool} (hg : h.get b = some (.cells cs e x wr)) {B c : Nat} (hB : ρ b = some (B, c)) :
    ∃ C E fr, w.heap[B]? = some (.cells C E fr) ∧ VRels ρ cs ((C.toList.drop (ρ.β b)).take cs.length) ∧ ρ.β b + cs.length ≤ C.size ∧ (wr = true → ρ.β b = 0 ∧ E = e ∧ fr = (0, 0)) ∧
      (x = true → wr = true → cs.length = C.size) ∧ (x = false → ∃ i, P.info? e = some i ∧ C.size = c * i.size) := by
  obtain ⟨B', c', O, h1, h2, C, E, fr, rfl, h3⟩ := H.obj _ _ hg
  rw [hB] at h1; cases h1
  exact ⟨C, E, fr, h2, h3⟩

theorem rds_ok (H : Holds P N0 ρ h w) {b o n B c : Nat} {vs : List AVal} (hr : rds h b o n = some vs) (hB : ρ b = some (B, c)) :
    ∃ us : List Value, us.length = n ∧ VRels ρ vs us ∧ ∀ j u, us[j]? = some u → w.cell? ((⟨B, ρ.β b + o, none⟩ : Addr).add j) = some u := by
  unfold rds at hr
  split at hr
  · rename_i cs e x wr hg
    split at hr
    · rename_i hle
      have hle := Nat.le_of_ble_eq_true hle
      cases hr
      obtain ⟨C, E, fr, hC, hv, hl, _⟩ := H.cells hg hB
      refine ⟨(((C.toList.drop (ρ.β b)).take cs.length).drop o).take n, ?_, (hv.drop o).take n, ?_⟩
      · have := hv.length
        simp at this ⊢
        omega
      · intro j u hu
        have hadd : (⟨B, ρ.β b + o, none⟩ : Addr).add j = ⟨B, ρ.β b + (o + j), none⟩ := by
          rw [← Nat.add_assoc]
          unfold Addr.add; split <;> simp_all
        rw [hadd]
        simp only [World.cell?, hC]
        have hj : j < n := by
          rcases Nat.lt_or_ge j n with h | h
          · exact h
          · rw [List.getElem?_eq_none (by simp; omega)] at hu; cases hu
        have : C.toList[ρ.β b + (o + j)]? = some u := by
          rw [List.getElem?_take_of_lt hj, List.getElem?_drop] at hu
          rw [List.getElem?_take_of_lt (by omega), List.getElem?_drop] at hu
          exact hu
        simpa using this
    · cases hr
  · cases hr

theorem rd_ok (H : Holds P N0 ρ h w) {b o B c : Nat} {v : AVal} (hr : rd h b o = some v) (hB : ρ b = some (B, c)) :
    ∃ u : Value, VRel ρ v u ∧ w.cell? (⟨B, ρ.β b + o, none⟩ : Addr) = some u := by
  unfold rd at hr
  split at hr
  · rename_i cs e x wr hg
    obtain ⟨C, E, fr, hC, hv, hl, _⟩ := H.cells hg hB
    obtain ⟨u, hu, hr⟩ := hv.get hr
    refine ⟨u, hr, ?_⟩
    simp only [World.cell?, hC]
    have ho : o < cs.length := by
      rcases Nat.lt_or_ge o cs.length with h | h
      · exact h
      · rw [List.getElem?_eq_none (by simp; omega)] at hu; cases hu
    rw [List.getElem?_take_of_lt ho, List.getElem?_drop] at hu
    simpa using hu
  · cases hr

theorem isAgg_ok {t : Nat} {g : Bool} (h : isAgg P t = some g) : (Go.isAgg t).run P w = .ok g w := by
  simp only [isAgg, Option.map_eq_some_iff] at h
  obtain ⟨d, hd, rfl⟩ := h
  simp only [Go.isAgg, Sem.run_bind, und_ok hd, Result.andThen_ok]
  cases d <;> rfl

theorem loadA_ok (H : Holds P N0 ρ h w) {t : Nat} {a v : AVal} {p : Value} (hr : loadA P h t a = some v) (ha : VRel ρ a p) :
    ∃ u, (Instr.loadAt t p).run P w = .ok u w ∧ VRel ρ v u := by
  unfold loadA at hr
  split at hr
  · rename_i b o
    cases ha with
    | @ptr _ _ B c hB =>
    simp only [Option.bind_eq_some_iff] at hr
    obtain ⟨g, hg, hr⟩ := hr
    cases g with
    | true =>
      simp only [Option.bind_eq_some_iff, Option.map_eq_some_iff] at hr
      obtain ⟨n, hn, vs, hvs, rfl⟩ := hr
      obtain ⟨us, hl, hu, hc⟩ := rds_ok H hvs hB
      refine ⟨.agg ⟨us⟩, ?_, .agg hu⟩
      simp only [Instr.loadAt, Instr.sureAddr, Sem.run_bind, Sem.run_pure, Go.loadVar, isAgg_ok hg, Result.andThen_ok, if_true, size_ok hn]
      rw [← hl, run_loadCells_list w _ us hc]
      rfl
    | false =>
      obtain ⟨u, hu, hc⟩ := rd_ok H hr hB
      refine ⟨u, ?_, hu⟩
      simp only [Instr.loadAt, Instr.sureAddr, Sem.run_bind, Sem.run_pure, Go.loadVar, isAgg_ok hg, Result.andThen_ok, Bool.false_eq_true, if_false, run_load, hc]
  · cases hr

end Go.Proofs.YtdgpdmbfhehpfaaGreatDoor.Ev
