/-
  The law DumpHeads is proved, tied to the program's text: for every string of bytes the call returns true. The card's own condition: the listed variables read as their initialisers lay them.
-/
import Derived.Test.YtdgpdmbfhehpfaaGreatDoorHLaw
import Derived.Test.YtdgpdmbfhehpfaaGreatDoorHDoor
import Derived.Test.YtdgpdmbfhehpfaaGreatDoorHFacts
import Derived.Test.YtdgpdmbfhehpfaaGreatDoorHFactJ
namespace Go.Proofs.YtdgpdmbfhehpfaaGreatDoor
open Go.ChangeShapes Go.WideShapes Go.ChangeAt Go.RowKit
open Go.ChangeMaps (open_string shut_string)
set_option linter.all false

namespace Heads
set_option maxRecDepth 100000 in
theorem lifted (os : Os) (started : os.Started) (H : Type) (enc : TypeId × Value → H) :
    ReturnsInHanded {} Tryz.checked os 3 .any (fun w args => (Rows.dumpHeadsSpec.pre enc Tryz.prog Tryz.f3 [] false w args ∧ laidMetH Tryz.prog laidL w) ∧ sizedMet enc Tryz.prog Tryz.f3 (OpenSpec.ofChange Rows.dumpHeadsSpec) false w args)
      (Rows.dumpHeadsSpec.post enc Tryz.prog Tryz.f3 false true false false) := by
  refine returnsInHanded_of_change_and (C := Tryz.checked) (X := fun w _ => laidMetH Tryz.prog laidL w) (fun _ _ _ hh h => h.of_heap hh) factOwn started factInit Tryz.func3
    (door_witness os H enc) ?_
  intro W base args ds gs before hval0 hW _ hsz0 hL _
  have hval : ∀ (j : Nat) t v, Tryz.f3.params[j]? = some t → args[j]? = some v → Value.okWide Tryz.prog W .any base t v := hval0
  have hsz : (DataW.weightsEach Tryz.prog (Tryz.f3.params.toList ++ Rows.dumpHeadsSpec.plain.varTypes Tryz.prog) (ds ++ gs)).all (· ≤ reachBytes) = true := hsz0
  have hW' := hW
  obtain ⟨p, q, hA0, hV, rfl, hfz, hnd⟩ := hW
  have hA : DataW.TrodAll enc Tryz.prog W 0 (fun _ => true) true Tryz.f3.params.toList args.toList ds p := hA0
  rw [Tryz.params3] at hA hval hsz
  obtain ⟨v0, vs0, d0, ds0, p0, q0, hargs, rfl, rfl, h0, r0⟩ := trodAll_cons hA
  obtain ⟨rfl, rfl, rfl⟩ := trodAll_nil r0
  obtain rfl : args = #[v0] := by cases args; simp_all
  obtain ⟨rfl, rfl⟩ := trodVars_none hV
  obtain ⟨a0, rfl, rfl, rfl, w0⟩ := open_string Tryz.underlying9 (hval 0 9 v0 rfl rfl) h0
  have hs0 : a0.size ≤ 140737488351232 := by
    have := sized_string (j := 0) (t := 9) (bytes := a0.data.toList) hsz rfl rfl
    simpa [reachBytes] using this
  have hR := reads_of_laid hL
  clear hA0 hval0
  simp only [List.append_nil] at hW'
  refine (law_any a0 W hs0 hR).mono fun e W' ⟨he, bel⟩ => ?_
  subst he
  exact ⟨_, rfl, _, _, _, [], _, [], hW', trodAll_mk1 (shut_bool Tryz.underlying4 _), (trodAll_cons_mk (shut_string Tryz.underlying9 w0) trodAll_mk0), rfl, bel.frame _, fun h => by cases h⟩

theorem said : Rows.DumpHeadsSaid :=
  OpenClaim.holds_of_wide 3 Tryz.f3 rfl rfl rfl rfl rfl rfl rfl ⟨rfl, rfl, rfl, rfl, rfl⟩ rfl rfl rfl rfl rfl factName Tryz.func3 factJoined factInst factWrap
    (fun os started H enc _ => lifted os started H enc)

theorem proved : Rows.DumpHeadsCardSaid :=
  Claim7.holds_tied_plain_at .later [] [.data, .data, .data, .sentinel, .sentinel, .data, .data] true (true, "5ded5503961dbc8819df286d3f9d1ef494a4dd03984ef1cf3d5c12c32c21d9df") true
    said (fun _ h => by cases h) factWf (fun _ h => by cases h) dumpHeads_row_tie rfl ⟨rfl, rfl⟩ factMain rfl
    (fun f fn hf hfn => by
      obtain rfl : f = 3 := Option.some.inj (factName.symm.trans hf) |>.symm
      obtain rfl : fn = Tryz.f3 := (Option.some.inj (Tryz.func3.symm.trans hfn)).symm
      exact ⟨factLooks, fun j t ht => by
        rw [Tryz.params3] at ht
        have hm : t ∈ [9] := by simpa using Array.mem_of_getElem? ht
        exact (show Tryz.prog.wantsStandIn t = false by simpa using List.all_eq_true.1 factStand t hm)⟩)
    factGoes
#print axioms proved
end Heads
end Go.Proofs.YtdgpdmbfhehpfaaGreatDoor
