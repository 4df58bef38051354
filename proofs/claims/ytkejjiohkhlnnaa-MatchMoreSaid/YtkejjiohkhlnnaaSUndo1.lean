/-
  What the closure does that push leaves behind: the last row is taken out again.
-/
import Derived.Test.YtkejjiohkhlnnaaSPop
import Derived.Deep.Cut
import Derived.Deep.DeepCutAuto
namespace Go.Proofs.Ytkejjiohkhlnnaa
open Go.RowKit
open Go.Maps (Keyed)

/-- dropLast -/
theorem dropLast_any (g cap n : Nat) (w : World) (hn : n ≤ 100000000000) (hcap : n + 1 ≤ cap) :
    Calls Try.prog 77 #[.slice (some ⟨g, 0, none⟩) (n + 1) cap] w fun e w' => e = .returned (.slice (some ⟨g, 0, none⟩) n cap) ∧ w' = w := by
  go_enter Try.func77, Try.ntmps77
  have hc1 : (n : Int) ≤ cap := by omega
  go_wp2
  go_ret
  exact ⟨rfl, rfl⟩

set_option linter.unusedSimpArgs false in
set_option maxHeartbeats 8000000 in
set_option maxRecDepth 8000 in
theorem undo1_any {s sb : Nat} {ar : List Int} {rR : List Row} {bs : List Int} {bt : Int} {rU : List Row} {births mN mO mW : Nat} {ls : List (Nat × Int)} {h : Hd} {τ : Own} {w : World} (p : Int) (xs : List Int)
    (P : PartsAt s sb ar (rR ++ [(p, xs)]) (bs ++ [bt]) rU (rR ++ [(p, xs)]) (ofK (rR ++ [(p, xs)])) (whK (rR ++ [(p, xs)])) births mN mO mW ls h τ w) (hlen : bs.length = rR.length) (hf : ∀ r' ∈ rR ++ [(p, xs)], FitsRow ar r') (hp : ar.length ≤ 128) (hno : (p, xs) ∉ rR) (hsz : rR.length ≤ 100000000000)
    {b1 b2 b3 b4 : Nat} {a : Option Addr} {c : Nat} {k0 k1 k2 k3 k4 k5 k6 k7 k8 : Int} (hkv : keyV (p, xs) = .agg #[.int .i64 k0, .int .i64 k1, .int .i64 k2, .int .i64 k3, .int .i64 k4, .int .i64 k5, .int .i64 k6, .int .i64 k7, .int .i64 k8]) (t1 : Still s τ b1) (t2 : Still s τ b2) (t3 : Still s τ b3) (t4 : Still s τ b4)
    (hL : Loc sb b1 b2 b3 b4 rR.length p a c xs.length k0 k1 k2 k3 k4 k5 k6 k7 k8 w) (hI : IntsZ (Still s τ) w a c xs) :
    Calls Try.prog 76 #[.pointer (some ⟨b1, 0, none⟩), .pointer (some ⟨b2, 0, none⟩), .pointer (some ⟨b3, 0, none⟩), .pointer (some ⟨b4, 0, none⟩)] w fun e w' => e = .returned (.tuple #[]) ∧ ∃ h', PartsAt s sb ar rR bs rU rR (ofK rR) (whK rR) births mN mO mW ls h' τ w' ∧ Turn s Moves τ τ w w' := by
  have hx8 : xs.length ≤ 8 := (hf (p, xs) (by simp)).2.2.2.1
  have hpR : Rng p := by
    have h1 := (hf (p, xs) (by simp)).1
    have h2 := (hf (p, xs) (by simp)).2.1
    simp only at h1 h2
    exact ⟨by omega, by omega⟩
  have HX := Lib.hid ((hf (p, xs) (by simp)).2.2.2.2)
  have HF := Lib.hid hf
  have HNO := Lib.hid hno
  have HKV := Lib.hid hkv
  have HLen := Lib.hid hlen
  clear hf hno hkv hlen
  go_enter Try.func76, Try.ntmps76
  obtain ⟨es, clock, hrun, P1, T1⟩ := P.popNum HF.out hp HNO.out 0 (wA := w.drew) ((Below.refl _ _).drew)
  rw [HKV.out] at hrun
  have hL1 := hL.turn T1 not_moves t1 t2 t3 t4
  have hI1 := still_turn T1 not_moves hI
  have nN1 : ¬ b1 = h.bN := other_block t1 P.num.1 (by intro h; cases h)
  have nN2 : ¬ b2 = h.bN := other_block t2 P.num.1 (by intro h; cases h)
  have nNs : ¬ sb = h.bN := other_block P.mine P.num.1 (by intro h; cases h)
  obtain ⟨c0, c1, c2, c3, c4, c5, c6, c7⟩ := P.head.cells
  obtain ⟨hl1, -, -, hl4, q0, q1, q2, q3, q4, q5, q6, q7, q8⟩ := id hL
  have hrange : w.rangeAt b2 0 [.int .i64 k0, .int .i64 k1, .int .i64 k2, .int .i64 k3, .int .i64 k4, .int .i64 k5, .int .i64 k6, .int .i64 k7, .int .i64 k8] := by
    intro j v hj
    have hz : 0 + j = j := Nat.zero_add j
    rw [hz]
    match j, hj with
    | 0, hj => simp at hj; subst hj; exact q0
    | 1, hj => simp at hj; subst hj; exact q1
    | 2, hj => simp at hj; subst hj; exact q2
    | 3, hj => simp at hj; subst hj; exact q3
    | 4, hj => simp at hj; subst hj; exact q4
    | 5, hj => simp at hj; subst hj; exact q5
    | 6, hj => simp at hj; subst hj; exact q6
    | 7, hj => simp at hj; subst hj; exact q7
    | 8, hj => simp at hj; subst hj; exact q8
  have hu79 := Try.underlying111
  have hi79 : (Try.prog.info? 111).map (·.size) = some 9 := by kernel_rfl
  clear c0 c1 c2 c4 c5 c6 c7 q0 q1 q2 q3 q4 q5 q6 q7 q8 hl4
  have HI := Lib.hid (And.intro hI hI1)
  have HP := Lib.hid P
  have HL := Lib.hid hL
  have HT1 := Lib.hid T1
  clear hI hI1 P T1
  go_upto_region 0 with fail
  go_region_held3 (fun w' => w'.cell? ⟨b1, 0, none⟩ = some (.pointer (some ⟨sb, 0, none⟩)) ∧ w'.cell? ⟨sb, 3, none⟩ = some (.map (some h.bN)) ∧ w'.rangeAt b2 0 [.int .i64 k0, .int .i64 k1, .int .i64 k2, .int .i64 k3, .int .i64 k4, .int .i64 k5, .int .i64 k6, .int .i64 k7, .int .i64 k8]) (first | assumption | exact ⟨hl1, c3, hrange⟩ | exact ⟨(cell_setBlock nN1).trans hl1, (cell_setBlock nNs).trans c3, fun j v hj => (cell_setBlock nN2).trans (hrange j v hj)⟩ | go_keep) (fail)
  clear hrun nN1 nN2 nNs c3 hl1 hrange hu79 hi79 hL
  have hI1 := HI.out.2
  have t1 := still_on HT1.out t1 (HL.out.l1)
  have t2 := still_on HT1.out t2 (HL.out.l20)
  have t3 := still_on HT1.out t3 (HL.out.l30)
  have t4 := still_on HT1.out t4 (HL.out.l4)
  clear HI HP HL
  generalize ChangeMaps.setBlock w.drew h.bN (.map es clock) = W1 at *
  -- the predicate's list
  have hn1 : (ofK (rR ++ [(p, xs)]) (.int .i64 p)).length = (ofK rR (.int .i64 p)).length + 1 := by rw [ofK_snoc]; simp [updL]
  have hlenO : (ofK rR (.int .i64 p)).length ≤ rR.length := idxL_length (fun r => Value.int .i64 p = .int .i64 r.1) rR
  obtain ⟨g1, cap1, hcap1, hlook, hput⟩ := P1.popOf hpR hn1
  obtain ⟨es2, clock2, hrun2, P2, T2⟩ := hput W1.drew (Below.refl _ _).drew
  have hlk := hlook W1.drew (Below.refl _ _).drew
  rw [ofK_snoc, popL_updL] at P2
  have cD := Lib.hid (dropLast_any g1 cap1 (ofK rR (.int .i64 p)).length W1.drew (by omega) hcap1)
  clear hput hlook
  have c4 := P1.head.cells.2.2.2.2.1
  have nO1 : ¬ b1 = h.bO := other_block t1 P1.of.1 (by intro h; cases h)
  have nO3 : ¬ b3 = h.bO := other_block t3 P1.of.1 (by intro h; cases h)
  have nOs : ¬ sb = h.bO := other_block P1.mine P1.of.1 (by intro h; cases h)
  have hL2 := Lib.hid (hL1.turn T2 not_moves t1 t2 t3 t4)
  have hI2 := still_turn T2 not_moves hI1
  have hl1 := hL1.l1
  have hl30 := hL1.l30
  have HP2 := Lib.hid P2
  have HT2 := Lib.hid T2
  have HL1 := Lib.hid hL1
  clear P1 P2 T2 hL1 hI1 hn1
  go_upto_region 1 with fail
  go_region_held3 (fun w' => w'.cell? ⟨b1, 0, none⟩ = some (.pointer (some ⟨sb, 0, none⟩)) ∧ w'.cell? ⟨sb, 4, none⟩ = some (.map (some h.bO)) ∧ w'.cell? ⟨b3, 0, none⟩ = some (.int .i64 p)) (first | assumption | exact ⟨hl1, c4, hl30⟩ | exact ⟨(cell_setBlock nO1).trans hl1, (cell_setBlock nOs).trans c4, (cell_setBlock nO3).trans hl30⟩ | go_keep) (first
    | (go_at_call 77; with_reducible refine cD.out.mono ?_; rintro e w5 ⟨rfl, rfl⟩))
  clear hrun2 hlk cD c4 nO1 nO3 nOs hl1 hl30 hcap1 hlenO
  have t1 := still_on HT2.out t1 (HL1.out.l1)
  have t2 := still_on HT2.out t2 (HL1.out.l20)
  have t3 := still_on HT2.out t3 (HL1.out.l30)
  have t4 := still_on HT2.out t4 (HL1.out.l4)
  have P2 := HP2.out
  have hL2 := hL2.out
  rw [whDown_zero] at P2
  have HT12 := Lib.hid (HT1.out.trans HT2.out)
  clear HP2 HL1 HT1 HT2
  generalize ChangeMaps.setBlock W1.drew h.bO (.map es2 clock2) = W2 at *
  clear W1
  have hz2 := hL2.l31
  go_wp2_with fail
  go_loopw [29] (fun i wr => ∃ (k : Nat), k ≤ xs.length ∧ i = .int .i64 k ∧ Hid (PartsAt s sb ar (rR ++ [(p, xs)]) (bs ++ [bt]) rU rR (ofK rR) (whDown rR (p, xs) k) births mN mO mW ls h τ wr ∧ Turn s Moves τ τ W2 wr)) (fun i _ => xs.length - (intOf i).toNat)
  case atStart => exact ⟨0, Nat.zero_le _, rfl, Lib.hid ⟨P2, Turn.refl P2.fresh⟩⟩
  case round =>
    obtain ⟨k, hk, rfl, hPT⟩ := hrel
    have Pr := hPT.out.1
    have Tr := hPT.out.2
    have hLr := hL2.turn Tr not_moves t1 t2 t3 t4
    have hIr := still_turn Tr not_moves hI2
    have t1 := still_on Tr t1 hL2.l1
    have t2 := still_on Tr t2 hL2.l20
    have t3 := still_on Tr t3 hL2.l30
    have t4 := still_on Tr t4 hL2.l4
    clear hPT
    by_cases hlt : k < xs.length
    · rcases hIr.1 with hn | ⟨ba, oa, rfl, _, hca⟩
      · rw [hn] at hlt; simp at hlt
      · have hxk := hca k hlt
        obtain ⟨x, hx⟩ : ∃ x, xs[k]? = some x := ⟨xs[k], List.getElem?_eq_getElem hlt⟩
        rw [List.getElem?_eq_getElem hlt] at hx
        rw [Option.some.inj hx] at hxk
        have hx : xs[k]? = some x := by rw [List.getElem?_eq_getElem hlt]; exact hx
        have HXk := Lib.hid hx
        have hxR : Rng x := by
          have := HX.out x (List.mem_of_getElem? hx)
          exact ⟨by omega, by omega⟩
        have hl30 := hLr.l30
        clear hca hx
        go_upto_region 6 with fail
        have hbb : Below wr.heap.size wr (wr.alloc (.cells #[.int .i64 p, .int .i64 (k : Int), .int .i64 x] 138)) := (Below.refl _ _).alloc (Nat.le_refl _) _
        have Tb : Turn s (fun _ => False) τ τ wr (wr.alloc (.cells #[.int .i64 p, .int .i64 (k : Int), .int .i64 x] 138)) := Turn.of_below hbb Pr.fresh
        have Pb := Pr.stay hbb
        have hLb := hLr.turn Tb (fun h => h) t1 t2 t3 t4
        have z0 : (wr.alloc (.cells #[.int .i64 p, .int .i64 (k : Int), .int .i64 x] 138)).cell? ⟨wr.heap.size, 0, none⟩ = some (.int .i64 p) := by simp
        have z1 : (wr.alloc (.cells #[.int .i64 p, .int .i64 (k : Int), .int .i64 x] 138)).cell? ⟨wr.heap.size, 1, none⟩ = some (.int .i64 (k : Int)) := by simp
        have z2 : (wr.alloc (.cells #[.int .i64 p, .int .i64 (k : Int), .int .i64 x] 138)).cell? ⟨wr.heap.size, 2, none⟩ = some (.int .i64 x) := by simp
        have hfr : τ wr.heap.size = none := Pr.fresh _ (Nat.le_refl _)
        obtain ⟨Wb, hWb⟩ : ∃ Wb, Wb = wr.alloc (.cells #[.int .i64 p, .int .i64 (k : Int), .int .i64 x] 138) := ⟨_, rfl⟩
        obtain ⟨b8, hb8⟩ : ∃ b8, b8 = wr.heap.size := ⟨_, rfl⟩
        rw [← hWb, ← hb8] at z0 z1 z2
        rw [← hWb] at Pb hLb Tb ⊢
        rw [← hb8] at hfr ⊢
        clear hbb hWb hb8
        have HTb := Lib.hid (Tr.trans (Tb.mono (R' := Moves) (fun _ h => h.elim)))
        have hkR : Rng (k : Int) := ⟨by omega, by omega⟩
        have hnW : (whDown rR (p, xs) k (placeV p k x)).length = (whK rR (placeV p k x)).length + 1 := by rw [show placeV p k x = placeV ((p, xs) : Row).1 k x from rfl, whDown_here rR (p, xs) HXk.out]; simp
        have hlenW : (whK rR (placeV p k x)).length ≤ rR.length := idxL_length _ _
        obtain ⟨g1, cap1, hcap1, hlook, hput⟩ := Pb.popWh hpR hkR hxR hnW
        obtain ⟨es3, clock3, hrun3, P3, T3, hlook3⟩ := hput Wb.drew (Below.refl _ _).drew
        have hlk := hlook Wb.drew (Below.refl _ _).drew
        rw [show popL (whDown rR (p, xs) k) (placeV p k x) = whDown rR (p, xs) (k + 1) from whDown_succ rR (p, xs) HXk.out] at P3
        have cD := Lib.hid (dropLast_any g1 cap1 (whK rR (placeV p k x)).length Wb.drew (by omega) hcap1)
        clear hput hlook hnW
        have c5 := Pb.head.cells.2.2.2.2.2.1
        have nW1 : ¬ b1 = h.bW := other_block t1 Pb.wh.1 (by intro h; cases h)
        have nWs : ¬ sb = h.bW := other_block Pb.mine Pb.wh.1 (by intro h; cases h)
        have nW8 : ¬ b8 = h.bW := fun e => by rw [e, Pb.wh.1] at hfr; cases hfr
        have hl1 := hLb.l1
        have HP3 := Lib.hid (And.intro P3 (And.intro T3 hlook3))
        have HLb := Lib.hid hLb
        obtain ⟨nW, hnW⟩ : ∃ nW, (whK rR (placeV p k x)).length = nW := ⟨_, rfl⟩
        rw [hnW] at hrun3 hlk cD hlenW hcap1 HP3
        have HnW := Lib.hid hnW
        simp only [placeV] at hrun3 hlk
        clear P3 T3 hlook3 hLb Pr Tr Tb hLr hIr hnW
        go_region_held3 (fun w' => w'.cell? ⟨b1, 0, none⟩ = some (.pointer (some ⟨sb, 0, none⟩)) ∧ w'.cell? ⟨sb, 5, none⟩ = some (.map (some h.bW)) ∧ w'.cell? ⟨b8, 0, none⟩ = some (.int .i64 p) ∧ w'.cell? ⟨b8, 1, none⟩ = some (.int .i64 (k : Int)) ∧ w'.cell? ⟨b8, 2, none⟩ = some (.int .i64 x)) (first | assumption | exact ⟨hl1, c5, z0, z1, z2⟩ | exact ⟨(cell_setBlock nW1).trans hl1, (cell_setBlock nWs).trans c5, (cell_setBlock nW8).trans z0, (cell_setBlock nW8).trans z1, (cell_setBlock nW8).trans z2⟩ | go_keep) (first
          | (go_at_call 77; with_reducible refine cD.out.mono ?_; rintro e w5 ⟨rfl, rfl⟩))
        clear hlk hrun3 cD nWs nW1 c5 z0 z1 z2 hl1
        have e1 := ‹_ ∧ _ ∧ _ ∧ _ ∧ _›.1
        have e2 := ‹_ ∧ _ ∧ _ ∧ _ ∧ _›.2.1
        have e3 := ‹_ ∧ _ ∧ _ ∧ _ ∧ _›.2.2.1
        have e4 := ‹_ ∧ _ ∧ _ ∧ _ ∧ _›.2.2.2.1
        have e5 := ‹_ ∧ _ ∧ _ ∧ _ ∧ _›.2.2.2.2
        have hlk4 := HP3.out.2.2 (ChangeMaps.setBlock Wb.drew h.bW (.map es3 clock3)).drew ((Below.refl _ _).drew)
        simp only [placeV] at hlk4
        have HP4 := Lib.hid (And.intro (HP3.out.1.stay ((Below.refl _ _).drew)) (HTb.out.trans (HP3.out.2.1.trans (Turn.of_below (R := Moves) ((Below.refl _ _).drew) HP3.out.1.fresh))))
        clear HP3 HTb HLb Pb P2
        generalize ChangeMaps.setBlock Wb.drew h.bW (.map es3 clock3) = W3 at *
        by_cases hz : nW = 0
        · subst hz
          obtain ⟨es5, clock5, hrun5, P5, T5⟩ := HP4.out.1.goneWh hpR hkR hxR (by rw [show placeV p (k : Int) x = placeV ((p, xs) : Row).1 (k : Int) x from rfl, whDown_gone]; exact List.eq_nil_of_length_eq_zero HnW.out) 0 (wA := W3.drew.drew) ((Below.refl _ _).drew)
          simp only [placeV] at hrun5
          have HP5 := Lib.hid (And.intro P5 (HP4.out.2.trans T5))
          have nW1 : ¬ b1 = h.bW := other_block t1 HP4.out.1.wh.1 (by intro h; cases h)
          have nWs : ¬ sb = h.bW := other_block HP4.out.1.mine HP4.out.1.wh.1 (by intro h; cases h)
          clear P5 T5 HP4
          go_upto_region 7 with fail
          go_region_held3 (fun w' => w'.cell? ⟨b1, 0, none⟩ = some (.pointer (some ⟨sb, 0, none⟩)) ∧ w'.cell? ⟨sb, 5, none⟩ = some (.map (some h.bW)) ∧ w'.cell? ⟨b8, 0, none⟩ = some (.int .i64 p) ∧ w'.cell? ⟨b8, 1, none⟩ = some (.int .i64 (k : Int)) ∧ w'.cell? ⟨b8, 2, none⟩ = some (.int .i64 x)) (first | assumption | exact ⟨e1, e2, e3, e4, e5⟩ | go_keep) (fail)
          clear hlk4
          go_upto_region 8 with fail
          go_region_held3 (fun w' => w'.cell? ⟨b1, 0, none⟩ = some (.pointer (some ⟨sb, 0, none⟩)) ∧ w'.cell? ⟨sb, 5, none⟩ = some (.map (some h.bW)) ∧ w'.cell? ⟨b8, 0, none⟩ = some (.int .i64 p) ∧ w'.cell? ⟨b8, 1, none⟩ = some (.int .i64 (k : Int)) ∧ w'.cell? ⟨b8, 2, none⟩ = some (.int .i64 x)) (first | assumption | exact ⟨e1, e2, e3, e4, e5⟩ | exact ⟨(cell_setBlock nW1).trans e1, (cell_setBlock nWs).trans e2, (cell_setBlock nW8).trans e3, (cell_setBlock nW8).trans e4, (cell_setBlock nW8).trans e5⟩ | go_keep) (fail)
          all_goals
            clear hrun5
            go_wp2_with fail
            go_roundw
            case rel => exact ⟨k + 1, by omega, by go_num, Lib.hid HP5.out⟩
            case measure => simp [intOf]; omega
        · have hz1 : ((nW : Int) == 0) = false := by simpa using hz
          have hz2 : ¬ (nW : Int) = 0 := by omega
          go_upto_region 7 with fail
          go_region_held3 (fun w' => w'.cell? ⟨b1, 0, none⟩ = some (.pointer (some ⟨sb, 0, none⟩)) ∧ w'.cell? ⟨sb, 5, none⟩ = some (.map (some h.bW)) ∧ w'.cell? ⟨b8, 0, none⟩ = some (.int .i64 p) ∧ w'.cell? ⟨b8, 1, none⟩ = some (.int .i64 (k : Int)) ∧ w'.cell? ⟨b8, 2, none⟩ = some (.int .i64 x)) (first | assumption | exact ⟨e1, e2, e3, e4, e5⟩ | go_keep) (fail)
          all_goals
            clear hlk4
            go_wp2_with fail
            go_roundw
            case rel => exact ⟨k + 1, by omega, by go_num, Lib.hid HP4.out⟩
            case measure => simp [intOf]; omega
    · have hke : k = xs.length := by omega
      subst hke
      rw [whDown_end] at Pr
      have hl1 := hLr.l1
      have hl4 := hLr.l4
      obtain ⟨g1, cap1, hv, hcap1, hput⟩ := Pr.popRow HLen.out
      obtain ⟨P9, T9⟩ := hput wr.drew ((Below.refl _ _).drew)
      have c1 := Pr.head.cells.2.1
      rw [hv] at c1
      have fz := Pr.head.frozen 1
      have hi0 : (0 : Int) ≤ (rR.length : Int) := by omega
      have hi1 : (rR.length : Int) ≤ (cap1 : Int) := by omega
      have ns1 : ¬ sb = b1 := other_block Pr.mine t1 (by intro h; cases h)
      have ns4 : ¬ sb = b4 := other_block Pr.mine t4 (by intro h; cases h)
      have HP9 := Lib.hid (And.intro P9 (HT12.out.trans (Tr.trans T9)))
      clear hput P9 T9 Pr Tr hv hLr hIr P2 hL2
      go_upto_region 10 with fail
      refine wp_region_noPanic ?_
      refine wp_region_held_drew (S := (fun w' => w'.cell? ⟨b1, 0, none⟩ = some (.pointer (some ⟨sb, 0, none⟩)) ∧ w'.cell? ⟨b4, 0, none⟩ = some (.int .i64 (rR.length : Int)))) (by kernel_rfl) ?_ (fun hHeld => ?_)
      · first | assumption | exact ⟨hl1, hl4⟩ | go_keep
      refine wpAnyH_take (i := 0) (oi := _) (v := (.pointer (some ⟨sb, 0, none⟩))) rfl (by kernel_rfl) (by kernel_rfl) (by kernel_rfl) (fun _ _ _ h => h) (Or.inl ⟨by rfl, ?_⟩) (by assumption) ?_
      · intro w hSw
        (try dsimp only at hSw)
        go_simp
      (try simp only [Act.put, List.setIfInBounds_toArray, List.set_cons_zero, List.set_cons_succ])
      refine wpAnyH_take (i := 1) (oi := _) (v := (.pointer (some ⟨sb, 0, none⟩))) rfl (by kernel_rfl) (by kernel_rfl) (by kernel_rfl) (fun _ _ _ h => h) (Or.inl ⟨by rfl, ?_⟩) (by assumption) ?_
      · intro w hSw
        (try dsimp only at hSw)
        go_simp
      (try simp only [Act.put, List.setIfInBounds_toArray, List.set_cons_zero, List.set_cons_succ])
      refine wpAnyH_take (i := 2) (oi := _) (v := (.pointer (some ⟨sb, 0, none⟩))) rfl (by kernel_rfl) (by kernel_rfl) (by kernel_rfl) (fun _ _ _ h => h) (Or.inl ⟨by rfl, ?_⟩) (by assumption) ?_
      · intro w hSw
        (try dsimp only at hSw)
        go_simp
      (try simp only [Act.put, List.setIfInBounds_toArray, List.set_cons_zero, List.set_cons_succ])
      refine wpAnyH_take (i := 3) (oi := _) (v := (.pointer (some ⟨sb, 1, none⟩))) rfl (by kernel_rfl) (by kernel_rfl) (by kernel_rfl) (fun _ _ _ h => h) (Or.inl ⟨by rfl, ?_⟩) (by assumption) ?_
      · intro w hSw
        (try dsimp only at hSw)
        go_simp
      (try simp only [Act.put, List.setIfInBounds_toArray, List.set_cons_zero, List.set_cons_succ])
      refine wpAnyH_take (i := 5) (oi := _) (v := (.int .i64 (rR.length : Int))) rfl (by kernel_rfl) (by kernel_rfl) (by kernel_rfl) (fun _ _ _ h => h) (Or.inl ⟨by rfl, ?_⟩) (by assumption) ?_
      · intro w hSw
        (try dsimp only at hSw)
        go_simp
      (try simp only [Act.put, List.setIfInBounds_toArray, List.set_cons_zero, List.set_cons_succ])
      refine wpAnyH_ready (rs := [4]) (by kernel_rfl) (by simp) ?_
      refine AllReadyH.cons (o := _) rfl (fun K hK => ?_) ?_
      · go_simp
        refine hK.out _ _ ?_ (fun hHeld => ?_)
        · first | assumption | exact hHeld | go_keep
        clear hK K
        (try simp only [Act.put, List.setIfInBounds_toArray, List.set_cons_zero, List.set_cons_succ])
        refine wpAnyH_ready (rs := [6]) (by kernel_rfl) (by simp) ?_
        refine AllReadyH.cons (o := _) rfl (fun K hK => ?_) ?_
        · go_simp
          refine hK.out _ _ ?_ (fun hHeld => ?_)
          · first | assumption | exact hHeld | go_keep
          clear hK K
          (try simp only [Act.put, List.setIfInBounds_toArray, List.set_cons_zero, List.set_cons_succ])
          refine wpAnyH_take (i := 7) (oi := _) (v := (.pointer (some ⟨sb, 0, none⟩))) rfl (by kernel_rfl) (by kernel_rfl) (by kernel_rfl) (fun _ _ _ h => h) (Or.inl ⟨by rfl, ?_⟩) (by assumption) ?_
          · intro w hSw
            (try dsimp only at hSw)
            go_simp
          (try simp only [Act.put, List.setIfInBounds_toArray, List.set_cons_zero, List.set_cons_succ])
          refine wpAnyH_take (i := 8) (oi := _) (v := (.pointer (some ⟨sb, 1, none⟩))) rfl (by kernel_rfl) (by kernel_rfl) (by kernel_rfl) (fun _ _ _ h => h) (Or.inl ⟨by rfl, ?_⟩) (by assumption) ?_
          · intro w hSw
            (try dsimp only at hSw)
            go_simp
          (try simp only [Act.put, List.setIfInBounds_toArray, List.set_cons_zero, List.set_cons_succ])
          refine wpAnyH_ready (rs := [9]) (by kernel_rfl) (by simp) ?_
          refine AllReadyH.cons (o := _) rfl (fun K hK => ?_) ?_
          · go_simp
            refine hK.out _ _ ?_ (fun hHeld => ?_)
            · exact ⟨(World.cell?_setCell_far _ _ _ _ ns1).trans hl1, (World.cell?_setCell_far _ _ _ _ ns4).trans hl4⟩
            clear hK K
            (try simp only [Act.put, List.setIfInBounds_toArray, List.set_cons_zero, List.set_cons_succ])
            refine wpAnyH_done (by kernel_rfl) ?_ _
            refine NoPanic.normal ?_
            go_wp2_with fail
            first
              | refine bodyPost_end (v := .tuple #[]) (results_none Try.results76 _ _ _) rfl ?_
              | refine bodyPost_ret (v := .tuple #[]) (results_none Try.results76 _ _ _) rfl ?_
            exact ⟨rfl, _, HP9.out⟩
          exact AllReadyH.nil
        exact AllReadyH.nil
      exact AllReadyH.nil
end Go.Proofs.Ytkejjiohkhlnnaa
