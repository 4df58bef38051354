/-
  The law MatchExtends, walked.
-/
import Derived.Test.YtglnbcjffhfaaaaExt
namespace Go.Proofs.Ytglnbcjffhfaaaa
open Go.RowKit
namespace Mt

theorem extD_length (l : List (Bool × Int)) (args sub : List Int) : ((extL l args sub).getD []).length ≤ max sub.length 16 := by
  cases h : extL l args sub with
  | none => simp
  | some xs => rw [Option.getD_some]; exact ext_length h

set_option maxRecDepth 8000 in
set_option maxHeartbeats 4000000 in
theorem matchExtends_any (pred : Int) (ap : Option Addr) (cp : Nat) (l : List (Bool × Int)) (aa : Option Addr) (ca : Nat) (xs : List Int) (ab : Option Addr) (cb : Nat) (zs : List Int) (w : World) (hp : SlotSlice w ap cp l)
    (hl : l.length * 16 ≤ 140737488351232) (ha : IntSlice w aa ca xs) (hx : xs.length * 8 ≤ 140737488351232) (hb : IntSlice w ab cb zs) (hz : zs.length * 8 ≤ 140737488351232) :
    Calls Try.prog 4 #[.agg #[.int .i64 pred, .slice ap l.length cp], .slice aa xs.length ca, .slice ab zs.length cb] w fun e w' => e = .returned (.bool true) ∧ Below w.heap.size w w' := by
  have HP := Lib.hid hp
  have HA := Lib.hid ha
  have HB := Lib.hid hb
  clear hp ha hb
  have cR := fun (a : Option Addr) (c : Nat) (a' : Option Addr) (c' : Nat) (b' : Option Addr) (d' : Nat) (W : World) (h1 : Slots W a l) (h2 : Ints W a' xs) (h3 : Ints W b' zs) => Lib.hid (refExtend_any pred a a' b' c c' d' l xs zs W h1 h2 h3 hl hz)
  have cG := fun (a : Option Addr) (c : Nat) (a' : Option Addr) (c' : Nat) (b' : Option Addr) (d' : Nat) (W : World) (h1 : Slots W a l) (h2 : Ints W a' xs) (h3 : Ints W b' zs) => Lib.hid (extend_any pred a a' b' c c' d' l xs zs W h1 h2 h3 hl hz)
  have hyl := extD_length l xs zs
  rw [ext_same] at cR
  unfold ExtEnd at cR cG
  generalize (extL l xs zs).getD [] = ys at *
  generalize (extL l xs zs).isSome = bs at *
  have beq : (bs == bs) = true := by simp
  go_enter Try.func4, Try.ntmps4
  go_wp2_with fail
  have b0 : Below w.heap.size w (w.alloc (.cells #[.int .i64 pred, .slice ap l.length cp] 24)) := (Below.refl _ _).alloc (Nat.le_refl _) _
  refine (roomy_any aa ca xs _ (HA.out.below b0) hx).mono ?_
  rintro e w1 ⟨g, cg, rfl, hr, hg, hb1⟩
  have P1 := (atP_new w 24 pred ap l.length cp).below hb1 (by simp)
  have b1 : Below w.heap.size w w1 := b0.trans (hb1.mono (by simp))
  have s1 : w.heap.size < w1.heap.size := by have := hb1.size; simp at this; omega
  have HR1 := Lib.hid hr
  clear hb1 b0 hr hg
  go_wp2_with fail
  refine (roomy_any ab cb zs _ (HB.out.below b1) hz).mono ?_
  rintro e w2 ⟨g2, cg2, rfl, hr2, hg2, hb2⟩
  have P2 := P1.below hb2 s1
  have HR2 := Lib.hid (HR1.out.below hb2)
  have HT2 := Lib.hid hr2
  have b2 : Below w.heap.size w w2 := b1.trans (hb2.mono b1.size)
  have s2 : w.heap.size < w2.heap.size := Nat.lt_of_lt_of_le s1 hb2.size
  clear hb2 P1 HR1 hr2 hg2 b1
  obtain ⟨p0, p1⟩ := id P2
  go_wp2_with fail
  refine (copyPattern_any pred ap cp l _ (HP.out.below b2 (Nat.le_refl _)) hl).mono ?_
  rintro e w3 ⟨aq, cq, rfl, hq, hb3⟩
  have P3 := P2.below hb3 s2
  have HR3 := Lib.hid (HR2.out.below hb3)
  have HT3 := Lib.hid (HT2.out.below hb3)
  have HQ3 := Lib.hid hq
  have b3 : Below w.heap.size w w3 := b2.trans (hb3.mono b2.size)
  have s3 : w.heap.size < w3.heap.size := Nat.lt_of_lt_of_le s2 hb3.size
  clear hb3 P2 p0 p1 b2 HR2 HT2 hq
  obtain ⟨p0, p1⟩ := id P3
  go_wp2_with fail
  have b4 : Below w3.heap.size w3 (w3.alloc (.cells #[.int .i64 pred, .slice aq l.length cq] 24)) := (Below.refl _ _).alloc (Nat.le_refl _) _
  have b5 : Below w.heap.size w (w3.alloc (.cells #[.int .i64 pred, .slice aq l.length cq] 24)) := b3.trans (b4.mono b3.size)
  refine (cR ap cp aa ca ab cb _ (HP.out.1.below b5 (Nat.le_refl _)) (HA.out.1.below b5) (HB.out.1.below b5)).out.mono ?_
  rintro e w4 ⟨ay, cy, rfl, hy, hb4⟩
  have Q4 := (atP_new w3 24 pred aq l.length cq).below hb4 (by simp)
  have b6 : Below w3.heap.size w3 w4 := b4.trans (hb4.mono (by simp))
  have P4 := P3.below b6 s3
  have HR4 := Lib.hid (HR3.out.below b6)
  have HT4 := Lib.hid (HT3.out.below b6)
  have HQ4 := Lib.hid (HQ3.out.below b6 (Nat.le_refl _))
  have HY4 := Lib.hid hy
  have b7 : Below w.heap.size w w4 := b3.trans (b6.mono b3.size)
  have s4 : w3.heap.size + 1 ≤ w4.heap.size := by have := hb4.size; simp at this; omega
  clear hb4 b4 b5 b6 P3 HR3 HT3 HQ3 hy b3 cR p0 p1
  obtain ⟨q0, q1⟩ := id Q4
  go_wp2_with fail
  refine (cG aq cq (some ⟨g, 0, none⟩) cg (some ⟨g2, 0, none⟩) cg2 _ HQ4.out.1 HR4.out.ints.1 HT4.out.ints.1).out.mono ?_
  rintro e w5 ⟨ax, cx, rfl, hxx, hb5⟩
  have P5 := P4.below hb5 (by omega)
  have Q5 := Q4.below hb5 (by omega)
  have HR5 := Lib.hid (HR4.out.below hb5)
  have HT5 := Lib.hid (HT4.out.below hb5)
  have HQ5 := Lib.hid (HQ4.out.below hb5 (Nat.le_refl _))
  have HY5 := Lib.hid (HY4.out.below hb5)
  have HX5 := Lib.hid hxx
  have b8 : Below w.heap.size w w5 := b7.trans (hb5.mono b7.size)
  clear hb5 b7 P4 Q4 HR4 HT4 HQ4 HY4 hxx cG q0 q1
  obtain ⟨q0, q1⟩ := id Q5
  obtain ⟨p0, p1⟩ := id P5
  go_wp2_with fail
  have cS := sameInts_any ax ay cx cy ys ys w5 HX5.out HY5.out (by omega)
  rw [decide_eq_true (rfl : ys = ys)] at cS
  refine cS.mono ?_
  rintro e w6 ⟨rfl, n, rfl⟩
  go_wp2_with fail
  refine (untouched_any g cg ca aa xs _ (HR5.out.below (below_drewN (Below.refl _ _) n)) (HA.out.below (below_drewN b8 n)) hx).mono ?_
  rintro e w7 ⟨rfl, m, rfl⟩
  go_wp2_with fail
  refine (untouched_any g2 cg2 cb ab zs _ (HT5.out.below (below_drewN (Below.refl _ _) (n + m))) (HB.out.below (below_drewN b8 (n + m))) hz).mono ?_
  rintro e w8 ⟨rfl, m2, rfl⟩
  go_wp2_with fail
  refine (samePattern_any pred aq ap cq cp l _ ((HQ5.out.1.below (below_drewN (Below.refl _ _) (n + m + m2)) (Nat.le_refl _))) (HP.out.1.below (below_drewN b8 (n + m + m2)) (Nat.le_refl _)) hl).mono ?_
  rintro e w9 ⟨rfl, hb9⟩
  go_wp2
  go_ret
  exact ⟨rfl, (below_drewN b8 (n + m + m2)).trans (hb9.mono (below_drewN b8 (n + m + m2)).size)⟩
end Mt
end Go.Proofs.Ytglnbcjffhfaaaa
