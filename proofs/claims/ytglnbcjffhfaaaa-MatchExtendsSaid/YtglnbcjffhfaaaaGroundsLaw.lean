/-
  The law MatchGrounds, walked.
-/
import Derived.Test.YtglnbcjffhfaaaaCopies
namespace Go.Proofs.Ytglnbcjffhfaaaa
open Go.RowKit
namespace Mt

/-- a pattern's two cells -/
def AtP (w : World) (b : Nat) (pred : Int) (a : Option Addr) (n c : Nat) : Prop := w.cell? ⟨b, 0, none⟩ = some (.int .i64 pred) ∧ w.cell? ⟨b, 1, none⟩ = some (.slice a n c)
theorem AtP.below {w w' : World} {B b n c : Nat} {pred : Int} {a : Option Addr} (h : AtP w b pred a n c) (hb : Below B w w') (hB : b < B) : AtP w' b pred a n c :=
  ⟨(hb.cell (p := ⟨b, 0, none⟩) hB).trans h.1, (hb.cell (p := ⟨b, 1, none⟩) hB).trans h.2⟩
theorem atP_new (w : World) (t : TypeId) (pred : Int) (a : Option Addr) (n c : Nat) : AtP (w.alloc (.cells #[.int .i64 pred, .slice a n c] t)) w.heap.size pred a n c := by
  refine ⟨?_, ?_⟩ <;> go_simp

theorem groundD_length (sub : List Int) (l : List (Bool × Int)) : ((groundL sub l).getD []).length ≤ l.length := by
  cases h : groundL sub l with
  | none => simp
  | some xs => rw [Option.getD_some, ground_length h]; exact Nat.le_refl _
theorem ground_end {l : List (Bool × Int)} {xs ys : List Int} {bs : Bool} {W : World} (hy : (groundL xs l).getD [] = ys) (hb : (groundL xs l).isSome = bs) (e : Ending) (w' : World) (h : GroundEnd l xs W e w') :
    ∃ a c, e = .returned (.tuple #[.slice a ys.length c, .bool bs]) ∧ Ints w' a ys ∧ Below W.heap.size W w' := by
  unfold GroundEnd at h
  rw [hy, hb] at h
  exact h

set_option maxHeartbeats 2000000 in
theorem matchGrounds_any (pred : Int) (ap : Option Addr) (cp : Nat) (l : List (Bool × Int)) (aa : Option Addr) (ca : Nat) (xs : List Int) (w : World) (hp : SlotSlice w ap cp l)
    (hl : l.length * 16 ≤ 140737488351232) (ha : IntSlice w aa ca xs) (hx : xs.length * 8 ≤ 140737488351232) :
    Calls Try.prog 3 #[.agg #[.int .i64 pred, .slice ap l.length cp], .slice aa xs.length ca] w fun e w' => e = .returned (.bool true) ∧ Below w.heap.size w w' := by
  have HP := Lib.hid hp
  have HA := Lib.hid ha
  clear hp ha
  obtain ⟨ys, hys⟩ : ∃ ys, (groundL xs l).getD [] = ys := ⟨_, rfl⟩
  have hyl : ys.length ≤ l.length := by rw [← hys]; exact groundD_length _ _
  obtain ⟨bs, hbs⟩ : ∃ bs, (groundL xs l).isSome = bs := ⟨_, rfl⟩
  have cG := fun (a : Option Addr) (c : Nat) (a' : Option Addr) (c' : Nat) (W : World) (h1 : Slots W a l) (h2 : Ints W a' xs) => Lib.hid ((ground_any pred a a' c c' l xs W h1 h2 hl (by omega)).mono (ground_end hys hbs))
  have cR := fun (a : Option Addr) (c : Nat) (a' : Option Addr) (c' : Nat) (W : World) (h1 : Slots W a l) (h2 : Ints W a' xs) => Lib.hid ((refGround_any pred a a' c c' l xs W h1 h2 hl (by omega)).mono (ground_end hys hbs))
  clear hys hbs
  have beq : (bs == bs) = true := by simp
  go_enter Try.func3, Try.ntmps3
  go_wp2_with fail
  have b0 : Below w.heap.size w (w.alloc (.cells #[.int .i64 pred, .slice ap l.length cp] 24)) := (Below.refl _ _).alloc (Nat.le_refl _) _
  refine (cR ap cp aa ca _ (HP.out.1.below b0 (Nat.le_refl _)) (HA.out.1.below b0)).out.mono ?_
  rintro e w1 ⟨ay, cy, rfl, hy, hb1⟩
  have P1 := (atP_new w 24 pred ap l.length cp).below hb1 (by simp)
  have b1 : Below w.heap.size w w1 := b0.trans (hb1.mono (by simp))
  have s1 : w.heap.size < w1.heap.size := by have := hb1.size; simp at this; omega
  clear hb1 b0 cR
  obtain ⟨p0, p1⟩ := id P1
  go_wp2_with fail
  refine (copyPattern_any pred ap cp l _ (HP.out.below b1 (Nat.le_refl _)) hl).mono ?_
  rintro e w2 ⟨aq, cq, rfl, hq, hb2⟩
  have P2 := P1.below hb2 (by omega)
  have b2 : Below w.heap.size w w2 := b1.trans (hb2.mono b1.size)
  have s2 := hb2.size
  have HY := Lib.hid (hy.below hb2)
  clear hb2 P1 p0 p1 b1 hy
  go_wp2_with fail
  have b3 : Below w2.heap.size w2 (w2.alloc (.cells #[.int .i64 pred, .slice aq l.length cq] 24)) := (Below.refl _ _).alloc (Nat.le_refl _) _
  refine (roomy_any aa ca xs _ ((HA.out.below b2).below b3) hx).mono ?_
  rintro e w3 ⟨g, cg, rfl, hr, hg, hb3⟩
  have Q3 := (atP_new w2 24 pred aq l.length cq).below hb3 (by simp)
  have b3' : Below w2.heap.size w2 w3 := b3.trans (hb3.mono (by simp))
  have P3 := P2.below b3' (by omega)
  have HY3 := Lib.hid (HY.out.below b3')
  have HQ3 := Lib.hid (hq.below b3' (Nat.le_refl _))
  have b4 : Below w.heap.size w w3 := b2.trans (b3'.mono b2.size)
  have s3 : w2.heap.size + 1 ≤ w3.heap.size := by have := hb3.size; simp at this; omega
  clear hb3 b3 b3' P2 HY hq
  obtain ⟨q0, q1⟩ := id Q3
  go_wp2_with fail
  refine (cG aq cq (some ⟨g, 0, none⟩) cg _ HQ3.out.1 hr.ints.1).out.mono ?_
  rintro e w4 ⟨ax, cx, rfl, hxx, hb5⟩
  have hr4 := hr.below hb5
  have P4 := P3.below hb5 (by omega)
  have Q4 := Q3.below hb5 (by omega)
  have HY4 := Lib.hid (HY3.out.below hb5)
  have HQ4 := Lib.hid (HQ3.out.below hb5 (Nat.le_refl _))
  have b5 : Below w.heap.size w w4 := b4.trans (hb5.mono b4.size)
  have HX4 := Lib.hid hxx
  clear hb5 q0 q1 P3 Q3 HY3 HQ3 hr cG hxx
  obtain ⟨q0, q1⟩ := id Q4
  obtain ⟨p0, p1⟩ := id P4
  go_wp2_with fail
  have cS := sameInts_any ax ay cx cy ys ys w4 HX4.out HY4.out (by omega)
  rw [decide_eq_true (rfl : ys = ys)] at cS
  refine cS.mono ?_
  rintro e w5 ⟨rfl, n, rfl⟩
  go_wp2_with fail
  refine (samePattern_any pred aq ap cq cp l _ ((HQ4.out.1.below (below_drewN (Below.refl _ _) n) (Nat.le_refl _))) (HP.out.1.below (below_drewN b5 n) (Nat.le_refl _)) hl).mono ?_
  rintro e w6 ⟨rfl, hb6⟩
  have hr6 := (hr4.below (below_drewN (Below.refl _ _) n)).below hb6
  have b6 : Below w.heap.size w w6 := (below_drewN b5 n).trans (hb6.mono (below_drewN b5 n).size)
  clear hb6 q0 q1 p0 p1
  go_wp2_with fail
  refine (untouched_any g cg ca aa xs _ hr6 (HA.out.below b6) hx).mono ?_
  rintro e w7 ⟨rfl, m, rfl⟩
  go_wp2
  go_ret
  exact ⟨rfl, below_drewN b6 m⟩
end Mt
end Go.Proofs.Ytglnbcjffhfaaaa
