/-
  The law MatchExtends is proved: for every input the call returns true, and its arguments read behind it as they read before. No condition.
-/
import Derived.Test.YtglnbcjffhfaaaaExtendsLaw
import Derived.ProofKit
import Derived.OpenShut
import Derived.ShutString
import Derived.ChangeOld
import Derived.Below
import Derived.SizedLaws
import Derived.Lib.SmallJoins
import Derived.Test.YtglnbcjffhfaaaaOpen
namespace Go.Proofs.Ytglnbcjffhfaaaa.matchExtendsLaw
open Go.ChangeShapes Go.WideShapes Go.ChangeAt Go.RowKit Go.Joins
open Go.ChangeMaps (open_string shut_string)

theorem own : ownKnob Try.prog.godebug = none := by kernel_rfl
theorem laidOut : laidOutB Try.prog = true := by kernel_rfl

theorem cells2 : Try.prog.cellsOf 24 = 2 := by kernel_rfl

set_option maxRecDepth 100000 in
theorem lifted (os : Os) (started : os.Started) (H : Type) (enc : TypeId × Value → H) :
    ReturnsInHanded {} Try.checked os 4 .any (Rows.matchExtendsSpec.pre6 enc Try.prog Try.f4 Rows.matchExtendsRow.domain false) (Rows.matchExtendsSpec.post enc Try.prog Try.f4 false true false false) := by
  refine returnsInHanded_of_change_sized (C := Try.checked) own started (by kernel_rfl) Try.func4
    (ChangeSpec.witness6 (enc := enc) (C := Try.checked) false ⟨#[], #[.agg #[.int .i64 0, .slice none 0 0], .slice none 0 0, .slice none 0 0], []⟩ 8 (by kernel_rfl) (by kernel_rfl) (by kernel_rfl) (by kernel_rfl)) ?_
  intro W base args ds gs before hval0 hW _ hsz0 _
  have hsz : (DataW.weightsEach Try.prog (Try.f4.params.toList ++ Rows.matchExtendsSpec.plain.varTypes Try.prog) (ds ++ gs)).all (· ≤ reachBytes) = true := hsz0
  clear hsz0
  have hval : ∀ (j : Nat) t v, Try.f4.params[j]? = some t → args[j]? = some v → Value.okWide Try.prog W .any base t v := hval0
  have hW' := hW
  obtain ⟨p, q, hA0, hV, rfl, hfz, hnd⟩ := hW
  have hA : DataW.TrodAll enc Try.prog W 0 (fun _ => true) true Try.f4.params.toList args.toList ds p := hA0
  rw [Try.params4] at hA hval hsz
  obtain ⟨v0, vs0, d0, ds0, p0, q0, hargs, rfl, rfl, h0, r0⟩ := trodAll_cons hA
  obtain ⟨v1, vs1, d1, ds1, p1, q1, rfl, rfl, rfl, h1, r1⟩ := trodAll_cons r0
  obtain ⟨v2, vs2, d2, ds2, p2, q2, rfl, rfl, rfl, h2, r2⟩ := trodAll_cons r1
  obtain ⟨rfl, rfl, rfl⟩ := trodAll_nil r2
  obtain rfl : args = #[v0, v1, v2] := by cases args; simp_all
  obtain ⟨rfl, rfl⟩ := trodVars_none hV
  have k0 := h0
  have lt0 : ∀ x ∈ p0, x.block < W.heap.size := by obtain ⟨m, hm⟩ := k0; exact DataW.trod_lt m _ _ _ hm
  have k1 := h1
  have lt1 : ∀ x ∈ p1, x.block < W.heap.size := by obtain ⟨m, hm⟩ := k1; exact DataW.trod_lt m _ _ _ hm
  have k2 := h2
  have lt2 : ∀ x ∈ p2, x.block < W.heap.size := by obtain ⟨m, hm⟩ := k2; exact DataW.trod_lt m _ _ _ hm
  obtain ⟨c0a, c0b, y0a, y0b, m0, rfl, hd0, _, e0a, e0b⟩ := open_agg2 Try.underlying24 (by kernel_rfl) cells2 (hval 0 24 v0 rfl rfl) h0
  obtain ⟨n0, g0a, _, _⟩ := DataW.trod_int Try.underlying3 e0a
  simp at g0a
  subst g0a
  obtain ⟨a0, cp0, l0, rfl, S0, F0, Z0⟩ := Mt.open_slotSlice e0b
  have B0 : l0.length * 16 ≤ 140737488351232 := by
    rcases Z0 with ⟨_, rfl⟩ | ⟨els, sp, hd, hel, hlen⟩
    · simp
    · rw [hd] at hd0
      have := Mt.sized_pattern hsz (j := 0) rfl (congrArg some hd0)
      omega
  obtain ⟨fu1, hf1⟩ := h1
  obtain ⟨ao1, av1, ac1, rfl⟩ := okWide_slice Try.underlying25 (hval 1 25 v1 rfl rfl)
  obtain ⟨a1, cp1, l1, ev1, S1, F1, Z1⟩ := Mt.open_intSlice (by simpa [Value.cells] using hf1)
  rw [ev1] at hf1 k1 hW' ⊢
  have B1 : l1.length * 8 ≤ 140737488351232 := by
    rcases Z1 with ⟨_, rfl⟩ | ⟨els, sp, hd, hel, hlen, _⟩
    · simp
    · simp only at hd
      have := sized_slice hsz (j := 1) (t := 25) (e := 3) rfl (congrArg some hd) Try.underlying25
      rw [Mt.bytesInt] at this
      simp only [reachBytes] at this
      omega
  obtain ⟨fu2, hf2⟩ := h2
  obtain ⟨ao2, av2, ac2, rfl⟩ := okWide_slice Try.underlying25 (hval 2 25 v2 rfl rfl)
  obtain ⟨a2, cp2, l2, ev2, S2, F2, Z2⟩ := Mt.open_intSlice (by simpa [Value.cells] using hf2)
  rw [ev2] at hf2 k2 hW' ⊢
  have B2 : l2.length * 8 ≤ 140737488351232 := by
    rcases Z2 with ⟨_, rfl⟩ | ⟨els, sp, hd, hel, hlen, _⟩
    · simp
    · simp only at hd
      have := sized_slice hsz (j := 2) (t := 25) (e := 3) rfl (congrArg some hd) Try.underlying25
      rw [Mt.bytesInt] at this
      simp only [reachBytes] at this
      omega
  clear hA0 hval0
  simp only [List.append_nil] at hW'
  refine (Mt.matchExtends_any n0 a0 cp0 l0 a1 cp1 l1 a2 cp2 l2 W S0 B0 S1 B1 S2 B2).mono fun e W' ⟨he, bel⟩ => ?_
  subst he
  exact ⟨_, rfl, _, _, _, [], _, [], hW', trodAll_mk1 (shut_bool Try.underlying4 _), (trodAll_cons_mk (Below.trod laidOut (by kernel_rfl) (of_decide_eq_true (by kernel_rfl)) k0 bel lt0) (trodAll_cons_mk (Below.trod laidOut (by kernel_rfl) (of_decide_eq_true (by kernel_rfl)) k1 bel lt1) (trodAll_cons_mk (Below.trod laidOut (by kernel_rfl) (of_decide_eq_true (by kernel_rfl)) k2 bel lt2) trodAll_mk0))), rfl, bel.frame _, fun h => by cases h⟩

theorem proved : Rows.MatchExtendsSaid :=
  OpenClaim.holds_of_wide 4 Try.f4 rfl rfl rfl rfl rfl rfl rfl ⟨rfl, rfl, rfl, rfl, rfl⟩ rfl rfl rfl rfl rfl (by kernel_rfl) Try.func4 (by kernel_rfl)
    (of_decide_eq_true (by kernel_rfl)) (by unfold Func.isWrapper; first | (rw [if_pos (by decide +kernel)]; kernel_rfl) | (rw [if_neg (by decide +kernel)]; exact ⟨rfl, rfl⟩))
    (fun os started H enc _ => lifted os started H enc)
#print axioms proved
end Go.Proofs.Ytglnbcjffhfaaaa.matchExtendsLaw
