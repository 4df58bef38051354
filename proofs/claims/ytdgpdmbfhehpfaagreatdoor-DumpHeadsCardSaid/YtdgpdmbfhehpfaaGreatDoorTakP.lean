/-
  What the evaluator asks of the program.
-/
import Derived.Test.YtdgpdmbfhehpfaaGreatDoorTakB
import Derived.Test.YtdgpdmbfhehpfaaGreatDoorEvT
import Derived.Lib.Builder
import Derived.Laws.Externs
import Derived.KernelRfl
namespace Go.Proofs.YtdgpdmbfhehpfaaGreatDoor
open Ev

def plansOk (P : Program) (pl : Nat → Nat → Plan) : List Func → Nat → Bool
  | [], _ => true
  | fn :: fns, i => (match fn.body with | some c => regionsOk P (pl i) c | none => true) && plansOk P pl fns (i + 1)

theorem plansOk_get {P : Program} {pl : Nat → Nat → Plan} : ∀ {fns : List Func} {i : Nat}, plansOk P pl fns i = true → ∀ (j : Nat) (fn : Func) (c : Code), fns[j]? = some fn → fn.body = some c → regionsOk P (pl (i + j)) c = true
  | [], _, _, j, fn, c, hj, _ => by simp at hj
  | g :: fns, i, h, 0, fn, c, hj, hc => by
    simp only [plansOk, Bool.and_eq_true] at h
    simp only [List.getElem?_cons_zero, Option.some.injEq] at hj
    subst hj
    rw [hc] at h
    exact h.1
  | g :: fns, i, h, j + 1, fn, c, hj, hc => by
    simp only [plansOk, Bool.and_eq_true] at h
    simp only [List.getElem?_cons_succ] at hj
    have := plansOk_get h.2 j fn c hj hc
    rwa [show i + 1 + j = i + (j + 1) by omega] at this

def namesOk : List Func → Bool
  | [] => true
  | fn :: fns => (match fn.body with | some _ => !(fn.name == "runtime.NumGoroutine") | none => true) && namesOk fns

theorem namesOk_get : ∀ {fns : List Func}, namesOk fns = true → ∀ (j : Nat) (fn : Func), fns[j]? = some fn → fn.body.isSome = true → (fn.name == "runtime.NumGoroutine") = false
  | [], _, j, fn, hj, _ => by simp at hj
  | g :: fns, h, 0, fn, hj, hc => by
    simp only [namesOk, Bool.and_eq_true] at h
    simp only [List.getElem?_cons_zero, Option.some.injEq] at hj
    subst hj
    obtain ⟨c, hc⟩ := Option.isSome_iff_exists.1 hc
    rw [hc] at h
    simpa using h.1
  | g :: fns, h, j + 1, fn, hj, hc => by
    simp only [namesOk, Bool.and_eq_true] at h
    simp only [List.getElem?_cons_succ] at hj
    exact namesOk_get h.2 j fn hj hc

set_option maxRecDepth 1000000 in
theorem plans_ok : plansOk Tryz.prog plansT Tryz.prog.funcs.toList 0 = true := by kernel_rfl
set_option maxRecDepth 1000000 in
theorem names_ok : namesOk Tryz.prog.funcs.toList = true := by kernel_rfl

theorem prmOk2 : PrmOk2 Tryz.prog prm := ⟨fun f fn c hf hc => by
  have := plansOk_get plans_ok f fn c (by simpa using hf) hc
  rwa [Nat.zero_add] at this, by kernel_rfl⟩

theorem prmOk : PrmOk Tryz.prog prm := ⟨fun f fn hf hc => namesOk_get names_ok f fn (by simpa using hf) hc, fun f hf x w => by
  have : f = 92 := by simpa [prm] using hf
  subst this
  rw [run_callFunc_extern Tryz.func92 (by kernel_rfl) (by kernel_rfl) (by kernel_rfl) (e := Extern.AbiNoEscape.same) (by kernel_rfl)]
  rfl⟩

end Go.Proofs.YtdgpdmbfhehpfaaGreatDoor
