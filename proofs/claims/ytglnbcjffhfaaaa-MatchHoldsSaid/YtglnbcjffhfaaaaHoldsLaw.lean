/-
  The law MatchHolds, walked.
-/
import Derived.Test.YtglnbcjffhfaaaaConsts
namespace Go.Proofs.Ytglnbcjffhfaaaa
open Go.RowKit
namespace Mt

theorem RoomyC.slice {w : World} {g c : Nat} {l : List C3} (h : RoomyC w g c l) : ConstSlice w (some ⟨g, 0, none⟩) c l := ⟨h.2.1, fun h => by cases h⟩

set_option maxHeartbeats 2000000 in
theorem matchHolds_any (ac : Option Addr) (cc : Nat) (cs : List C3) (op : Int) (lv : Bool) (ln : Int) (rv : Bool) (rn : Int) (aa : Option Addr) (ca : Nat) (xs : List Int) (w : World) (hc : ConstSlice w ac cc cs)
    (hl : cs.length * 32 ≤ 140737488351232) (hsz : ∀ c ∈ cs, c.2.2.size ≤ 9223372036854775807) (ha : IntSlice w aa ca xs) (hx : xs.length * 8 ≤ 140737488351232) :
    Calls Try.prog 6 #[.slice ac cs.length cc, .agg #[.int .i64 op, .bool lv, .int .i64 ln, .bool rv, .int .i64 rn], .slice aa xs.length ca] w fun e w' => e = .returned (.bool true) ∧ Below w.heap.size w w' := by
  have HC := Lib.hid hc
  have HA := Lib.hid ha
  clear hc ha
  have cG := fun (a : Option Addr) (c : Nat) (a' : Option Addr) (c' : Nat) (W : World) (h1 : Consts W a cs) (h2 : Ints W a' xs) => Lib.hid (holds_any a a' c c' cs xs op lv ln rv rn W h1 h2 hsz (by omega))
  have cR := fun (a : Option Addr) (c : Nat) (a' : Option Addr) (c' : Nat) (W : World) (h1 : Consts W a cs) (h2 : Ints W a' xs) => Lib.hid (refHolds_any a a' c c' cs xs op lv ln rv rn W h1 h2 hsz (by omega))
  generalize (holdsR cs op (valueL lv ln xs) (valueL rv rn xs)).1 = r1 at *
  generalize (holdsR cs op (valueL lv ln xs) (valueL rv rn xs)).2 = r2 at *
  clear hsz
  have beq : (r1 == r1) = true := by simp
  go_enter Try.func6, Try.ntmps6
  go_wp2_with fail
  have b0 : Below w.heap.size w (w.alloc (.cells #[.int .i64 op, .bool lv, .int .i64 ln, .bool rv, .int .i64 rn] 45)) := (Below.refl _ _).alloc (Nat.le_refl _) _
  refine (cR ac cc aa ca _ (HC.out.1.below b0 (Nat.le_refl _)) (HA.out.1.below b0)).out.mono ?_
  rintro e w1 ⟨rfl, hb1⟩
  have T1 := (at5_new w 45 op lv ln rv rn).below hb1 (by simp)
  have b1 : Below w.heap.size w w1 := b0.trans (hb1.mono (by simp))
  have s1 : w.heap.size < w1.heap.size := by have := hb1.size; simp at this; omega
  clear hb1 b0 cR
  go_wp2_with fail
  refine (roomy_any aa ca xs _ (HA.out.below b1) hx).mono ?_
  rintro e w2 ⟨g, cg, rfl, hr, hg, hb2⟩
  have T2 := T1.below hb2 s1
  have b2 : Below w.heap.size w w2 := b1.trans (hb2.mono b1.size)
  have s2 : w.heap.size < w2.heap.size := Nat.lt_of_lt_of_le s1 hb2.size
  clear hb2 T1 hg
  have HR2 := Lib.hid hr
  clear hr
  go_wp2_with fail
  refine (roomyConsts_any ac cc cs _ (HC.out.below b2 (Nat.le_refl _)) hl).mono ?_
  rintro e w3 ⟨gc, cgc, rfl, hrc, hgc, hb3⟩
  have T3 := T2.below hb3 s2
  have HR3 := Lib.hid (HR2.out.below hb3)
  have HK3 := Lib.hid hrc
  have b3 : Below w.heap.size w w3 := b2.trans (hb3.mono b2.size)
  have s3 : w.heap.size < w3.heap.size := Nat.lt_of_lt_of_le s2 hb3.size
  clear hb3 T2 hgc hrc HR2
  obtain ⟨q0, q1, q2, q3, q4⟩ := id T3
  go_wp2_with fail
  refine (cG (some ⟨gc, 0, none⟩) cgc (some ⟨g, 0, none⟩) cg _ HK3.out.2.1 HR3.out.ints.1).out.mono ?_
  rintro e w4 ⟨rfl, hb4⟩
  have HR4 := Lib.hid (HR3.out.below hb4)
  have HK4 := Lib.hid (HK3.out.below hb4)
  have b4 : Below w.heap.size w w4 := b3.trans (hb4.mono b3.size)
  clear hb4 q0 q1 q2 q3 q4 T3 HR3 HK3 cG
  go_wp2_with fail
  refine (untouched_any g cg ca aa xs _ HR4.out (HA.out.below b4) hx).mono ?_
  rintro e w5 ⟨rfl, n, rfl⟩
  go_wp2_with fail
  refine (untouchedConsts_any gc cgc cc ac cs _ (HK4.out.below (below_drewN (Below.refl _ _) n)) (HC.out.1.below (below_drewN b4 n) (Nat.le_refl _)) hl).mono ?_
  rintro e w6 ⟨rfl, m, rfl⟩
  go_wp2
  go_ret
  exact ⟨rfl, below_drewN b4 (n + m)⟩
end Mt
end Go.Proofs.Ytglnbcjffhfaaaa
