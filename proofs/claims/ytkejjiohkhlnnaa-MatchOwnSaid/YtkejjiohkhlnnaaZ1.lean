/-
  Match: several of its texts in one.
-/
import Derived.Test.YtkejjiohkhlnnaaHolds
import Derived.Test.YtkejjiohkhlnnaaExt
import Derived.Deep.Cut
import Derived.Deep.DeepCutAuto
import Derived.Test.YtkejjiohkhlnnaaSBad
import Derived.DeepKeys4
import Derived.RangeFuncKeeps
import Derived.RangeFuncLeaves
import Derived.RangeFuncCalls
import Derived.Deep.RegionHeld3
import Derived.RangeFuncNested
import Derived.RangeFuncBound
import Derived.Shelf.Abstract
import Derived.Shelf.RegionOpen
import Derived.OwnWalkIn
import Derived.TacticsInMore
import Derived.LoopNIn
import Derived.LoopIn
namespace Go.Proofs.Ytkejjiohkhlnnaa
open Go.RowKit
namespace Mt

abbrev Sl := Bool × Int
abbrev Pat := Int × List Sl
/-- a test: its comparison, its two slots -/
abbrev Tst := Int × Sl × Sl
/-- one of v variables, or of d constants -/
def SlotOk (v d : Nat) (s : Sl) : Prop := 0 ≤ s.2 ∧ s.2 < (if s.1 then (v : Int) else (d : Int))
def PatOk (v d : Nat) (p : Pat) : Prop := 0 ≤ p.1 ∧ p.2.length ≤ 8 ∧ ∀ s ∈ p.2, SlotOk v d s
def TstOk (v d : Nat) (t : Tst) : Prop := 1 ≤ t.1 ∧ t.1 ≤ 6 ∧ SlotOk v d t.2.1 ∧ SlotOk v d t.2.2
/-- the patterns l lie behind the slice's address: two cells each -/
def Pats (w : World) (a : Option Addr) (l : List Pat) : Prop :=
  l = [] ∨ ∃ b off, a = some ⟨b, off, none⟩ ∧ ∀ (i : Nat) (p : Pat), l[i]? = some p → w.cell? ⟨b, off + i * 2, none⟩ = some (.int .i64 p.1) ∧ ∃ sa sc, w.cell? ⟨b, off + i * 2 + 1, none⟩ = some (.slice sa p.2.length sc) ∧ Slots w sa p.2
/-- the tests l lie behind the slice's address: five cells each -/
def Tsts (w : World) (a : Option Addr) (l : List Tst) : Prop :=
  l = [] ∨ ∃ b off, a = some ⟨b, off, none⟩ ∧ ∀ (i : Nat) (t : Tst), l[i]? = some t → w.cell? ⟨b, off + i * 5, none⟩ = some (.int .i64 t.1) ∧ w.cell? ⟨b, off + i * 5 + 1, none⟩ = some (.bool t.2.1.1) ∧ w.cell? ⟨b, off + i * 5 + 2, none⟩ = some (.int .i64 t.2.1.2) ∧ w.cell? ⟨b, off + i * 5 + 3, none⟩ = some (.bool t.2.2.1) ∧ w.cell? ⟨b, off + i * 5 + 4, none⟩ = some (.int .i64 t.2.2.2)
theorem Pats.below {w w' : World} {B : Nat} {a : Option Addr} {l : List Pat} (h : Pats w a l) (hb : Below B w w') (hB : w.heap.size ≤ B) : Pats w' a l := by
  rcases h with h | ⟨b, off, ha, hc⟩
  · exact .inl h
  · refine .inr ⟨b, off, ha, fun i p hp => ?_⟩
    obtain ⟨h1, sa, sc, h2, h3⟩ := hc i p hp
    exact ⟨(hb.cell (Nat.lt_of_lt_of_le (World.block_lt_of_cell? _ _ h1) hB)).trans h1, sa, sc, (hb.cell (Nat.lt_of_lt_of_le (World.block_lt_of_cell? _ _ h2) hB)).trans h2, h3.below hb hB⟩
theorem Tsts.below {w w' : World} {B : Nat} {a : Option Addr} {l : List Tst} (h : Tsts w a l) (hb : Below B w w') (hB : w.heap.size ≤ B) : Tsts w' a l := by
  rcases h with h | ⟨b, off, ha, hc⟩
  · exact .inl h
  · refine .inr ⟨b, off, ha, fun i p hp => ?_⟩
    obtain ⟨h1, h2, h3, h4, h5⟩ := hc i p hp
    have k : ∀ {o : Nat} {v : Value}, w.cell? ⟨b, o, none⟩ = some v → w'.cell? ⟨b, o, none⟩ = some v := fun {o v} h => (hb.cell (Nat.lt_of_lt_of_le (World.block_lt_of_cell? _ _ h) hB)).trans h
    exact ⟨k h1, k h2, k h3, k h4, k h5⟩
/-- a rule's cells -/
structure RuleV where
  hp : Int
  ha : Option Addr
  hn : Nat
  hc : Nat
  pa : Option Addr
  pc : Nat
  pos : List Pat
  ta : Option Addr
  tc : Nat
  tests : List Tst
  na : Option Addr
  nc : Nat
  neg : List Pat
  va : Option Addr
  nv : Nat
  vc : Nat
  cl : Int
def RuleV.cells (r : RuleV) : Array Value := #[.int .i64 r.hp, .slice r.ha r.hn r.hc, .slice r.pa r.pos.length r.pc, .slice r.ta r.tests.length r.tc, .slice r.na r.neg.length r.nc, .slice r.va r.nv r.vc, .int .i64 r.cl]
/-- a rule's lists lie in w -/
structure RuleIn (w : World) (r : RuleV) : Prop where
  pos : Pats w r.pa r.pos
  tests : Tsts w r.ta r.tests
  neg : Pats w r.na r.neg
theorem RuleIn.below {w w' : World} {B : Nat} {r : RuleV} (h : RuleIn w r) (hb : Below B w w') (hB : w.heap.size ≤ B) : RuleIn w' r := ⟨h.pos.below hb hB, h.tests.below hb hB, h.neg.below hb hB⟩

set_option maxHeartbeats 1000000 in
theorem fitSlot_any (b : Bool) (n : Int) (v d : Nat) (w : World) (h : SlotOk v d (b, n)) :
    Calls Try.prog 71 #[.agg #[.bool b, .int .i64 n], .int .i64 v, .int .i64 d] w fun e w' => e = .returned (.bool true) ∧ Below w.heap.size w w' := by
  obtain ⟨k, rfl⟩ := Int.eq_ofNat_of_zero_le h.1
  have h2 := h.2
  clear h
  cases b with
  | true =>
    have hk : k < v := by simpa using h2
    clear h2
    have d1 : decide ((k : Int) < (v : Int)) = true := by simpa using hk
    go_enter Try.func71, Try.ntmps71
    go_wp2
    go_ret
    exact ⟨rfl, (Below.refl _ _).alloc (Nat.le_refl _) _⟩
  | false =>
    have hk : k < d := by simpa using h2
    clear h2
    have d1 : decide ((k : Int) < (d : Int)) = true := by simpa using hk
    go_enter Try.func71, Try.ntmps71
    go_wp2
    go_ret
    exact ⟨rfl, (Below.refl _ _).alloc (Nat.le_refl _) _⟩

set_option maxHeartbeats 2000000 in
set_option maxRecDepth 8000 in
theorem fitPattern_any (p : Int) (sa : Option Addr) (sc : Nat) (l : List Sl) (v d : Nat) (w : World) (h : PatOk v d (p, l)) (hs : Slots w sa l) :
    Calls Try.prog 70 #[.agg #[.int .i64 p, .slice sa l.length sc], .int .i64 v, .int .i64 d] w fun e w' => e = .returned (.bool true) ∧ Below w.heap.size w w' := by
  obtain ⟨h0, h8, hall⟩ := h
  simp only at h0 h8 hall
  have HS := Lib.hid hs
  have HA := Lib.hid hall
  clear hs hall
  have d0 : decide (p < 0) = false := by simpa using h0
  have d8 : decide ((8 : Int) < (l.length : Int)) = false := by simp; omega
  have hb0 : Below w.heap.size w (w.alloc (.cells #[.int .i64 p, .slice sa l.length sc] 27)) := (Below.refl _ _).alloc (Nat.le_refl _) _
  go_enter Try.func70, Try.ntmps70
  go_wp2_with fail
  go_loopw [21] (fun i wr => ∃ k : Nat, k ≤ l.length ∧ i = .int .i64 k ∧ Below w.heap.size w wr) (fun i _ => l.length - (intOf i).toNat)
  case atStart => exact ⟨0, Nat.zero_le _, rfl, hb0⟩
  case round =>
    clear hb0
    obtain ⟨k, hk, rfl, hbel⟩ := hrel
    by_cases hlt : k < l.length
    · rcases HS.out with h | ⟨bp, op, rfl, hp⟩
      · rw [h] at hlt; simp at hlt
      · obtain ⟨v0, n0, c0, c1, HQ⟩ := slots_at hp hlt
        have e0 := (hbel.cell (World.block_lt_of_cell? _ _ c0)).trans c0
        have e1 := (hbel.cell (World.block_lt_of_cell? _ _ c1)).trans c1
        have hbe2 : Below w.heap.size w (wr.alloc (.cells #[.bool v0, .int .i64 n0] 58)) := hbel.alloc hbel.size _
        have cF := Lib.hid (fitSlot_any v0 n0 v d (wr.alloc (.cells #[.bool v0, .int .i64 n0] 58)) (HA.out _ (List.mem_of_getElem? HQ.out)))
        clear hp c0 c1
        go_wp2_with fail
        refine cF.out.mono ?_
        rintro e w1 ⟨rfl, hb1⟩
        have hbe3 : Below w.heap.size w w1 := hbe2.trans (hb1.mono (by have := hbel.size; simp; omega))
        clear hb1 hbe2 e0 e1 HQ cF
        go_wp2
        go_roundw
        case rel => exact ⟨k + 1, by omega, by go_num, hbe3⟩
        case measure => simp [intOf]; omega
    · go_wp2
      go_ret
      exact ⟨rfl, hbel⟩

/-- how many variables there are behind a list of slots, of which each is an old one or the next -/
def nextL : List Sl → Nat → Option Nat
  | [], n => some n
  | s :: r, n => if s.1 then (if (n : Int) < s.2 then none else if s.2 = n then nextL r (n + 1) else nextL r n) else nextL r n
def nextP : List Pat → Nat → Option Nat
  | [], n => some n
  | p :: r, n => (nextL p.2 n).bind (nextP r)
theorem nextL_at {l : List Sl} {k n : Nat} {s : Sl} (h : l[k]? = some s) : nextL (l.drop k) n = if s.1 then (if (n : Int) < s.2 then none else if s.2 = n then nextL (l.drop (k + 1)) (n + 1) else nextL (l.drop (k + 1)) n) else nextL (l.drop (k + 1)) n := by
  obtain ⟨hk, rfl⟩ := List.getElem?_eq_some_iff.1 h
  rw [List.drop_eq_getElem_cons hk, nextL]
theorem nextP_at {l : List Pat} {k n : Nat} {s : Pat} (h : l[k]? = some s) : nextP (l.drop k) n = (nextL s.2 n).bind (nextP (l.drop (k + 1))) := by
  obtain ⟨hk, rfl⟩ := List.getElem?_eq_some_iff.1 h
  rw [List.drop_eq_getElem_cons hk, nextP]
/-- a rule that is fit over d constants -/
structure RuleOk (r : RuleV) (d : Nat) : Prop where
  conds : r.pos.length + r.tests.length + r.neg.length ≤ 16
  vars : r.nv ≤ 16
  pos : ∀ p ∈ r.pos, PatOk r.nv d p
  neg : ∀ p ∈ r.neg, PatOk r.nv d p
  tests : ∀ t ∈ r.tests, TstOk r.nv d t
  next : nextP r.pos 0 = some r.nv

set_option maxHeartbeats 1000000 in
theorem conditions_any (r : RuleV) (w : World) (h : r.pos.length + r.tests.length + r.neg.length ≤ 16) :
    Calls Try.prog 44 #[.agg r.cells] w fun e w' => e = .returned (.int .i64 ((r.pos.length + r.tests.length + r.neg.length : Nat) : Int)) ∧ Below w.heap.size w w' := by
  unfold RuleV.cells
  obtain ⟨hp, ha, hn, hc, pa, pc, pos, ta, tc, tests, na, nc, neg, va, nv, vc, cl⟩ := r
  simp only at h ⊢
  generalize pos.length = p at *
  generalize tests.length = t at *
  generalize neg.length = n at *
  go_enter Try.func44, Try.ntmps44
  go_wp2
  go_ret
  exact ⟨by simp, (Below.refl _ _).alloc (Nat.le_refl _) _⟩
theorem pats_at {w : World} {a : Option Addr} {l : List Pat} (h : Pats w a l) {k : Nat} (hk : k < l.length) : ∃ b off p, a = some ⟨b, off, none⟩ ∧ l[k]? = some p ∧ w.cell? ⟨b, off + k * 2, none⟩ = some (.int .i64 p.1) ∧ ∃ sa sc, w.cell? ⟨b, off + k * 2 + 1, none⟩ = some (.slice sa p.2.length sc) ∧ Slots w sa p.2 := by
  rcases h with h | ⟨b, off, ha, hc⟩
  · rw [h] at hk; simp at hk
  · exact ⟨b, off, l[k], ha, List.getElem?_eq_getElem hk, hc k _ (List.getElem?_eq_getElem hk)⟩
theorem tsts_at {w : World} {a : Option Addr} {l : List Tst} (h : Tsts w a l) {k : Nat} (hk : k < l.length) : ∃ b off t, a = some ⟨b, off, none⟩ ∧ l[k]? = some t ∧ w.cell? ⟨b, off + k * 5, none⟩ = some (.int .i64 t.1) ∧ w.cell? ⟨b, off + k * 5 + 1, none⟩ = some (.bool t.2.1.1) ∧ w.cell? ⟨b, off + k * 5 + 2, none⟩ = some (.int .i64 t.2.1.2) ∧ w.cell? ⟨b, off + k * 5 + 3, none⟩ = some (.bool t.2.2.1) ∧ w.cell? ⟨b, off + k * 5 + 4, none⟩ = some (.int .i64 t.2.2.2) := by
  rcases h with h | ⟨b, off, ha, hc⟩
  · rw [h] at hk; simp at hk
  · exact ⟨b, off, l[k], ha, List.getElem?_eq_getElem hk, hc k _ (List.getElem?_eq_getElem hk)⟩
theorem below_cell {w w' : World} {B : Nat} (hb : Below B w w') (hB : w.heap.size ≤ B) {a : Addr} {v : Value} (h : w.cell? a = some v) : w'.cell? a = some v := (hb.cell (Nat.lt_of_lt_of_le (World.block_lt_of_cell? _ _ h) hB)).trans h

set_option maxHeartbeats 8000000 in
set_option maxRecDepth 100000 in
theorem fitRule_any (r : RuleV) (d : Nat) (w : World) (h : RuleOk r d) (hr : RuleIn w r) :
    Calls Try.prog 45 #[.agg r.cells, .int .i64 d] w fun e w' => e = .returned (.bool true) ∧ Below w.heap.size w w' := by
  have cC := fun W => Lib.hid (conditions_any r W h.conds)
  have H := Lib.hid h
  have HR := Lib.hid hr
  have hconds := h.conds
  have hvars := h.vars
  have hnext := Lib.hid h.next
  clear h hr
  unfold RuleV.cells at cC ⊢
  obtain ⟨hp, ha, hn, hc, pa, pc, pos, ta, tc, tests, na, nc, neg, va, nv, vc, cl⟩ := r
  simp only at cC hconds hvars hnext ⊢
  obtain ⟨P, hP⟩ : ∃ P, P = pos.length := ⟨_, rfl⟩
  obtain ⟨T, hT⟩ : ∃ P, P = tests.length := ⟨_, rfl⟩
  obtain ⟨N, hN⟩ : ∃ P, P = neg.length := ⟨_, rfl⟩
  rw [← hP, ← hT, ← hN] at hconds ⊢
  simp only [← hP, ← hT, ← hN] at cC
  have HP := Lib.hid hP
  have HT := Lib.hid hT
  have HN := Lib.hid hN
  clear hP hT hN
  have d16 : decide ((16 : Int) < ((P + T + N : Nat) : Int)) = false := by simp; omega
  have d17 : decide ((16 : Int) < (nv : Int)) = false := by simp; omega
  obtain ⟨rb, hrb⟩ : ∃ b, b = w.heap.size := ⟨_, rfl⟩
  obtain ⟨W0, hW0⟩ : ∃ W, W = w.alloc (.cells #[.int .i64 hp, .slice ha hn hc, .slice pa P pc, .slice ta T tc, .slice na N nc, .slice va nv vc, .int .i64 cl] 32) := ⟨_, rfl⟩
  have z0 : W0.cell? ⟨rb, 0, none⟩ = some (.int .i64 hp) := by rw [hW0, hrb]; simp
  have z1 : W0.cell? ⟨rb, 1, none⟩ = some (.slice ha hn hc) := by rw [hW0, hrb]; simp
  have z2 : W0.cell? ⟨rb, 2, none⟩ = some (.slice pa P pc) := by rw [hW0, hrb]; simp
  have z3 : W0.cell? ⟨rb, 3, none⟩ = some (.slice ta T tc) := by rw [hW0, hrb]; simp
  have z4 : W0.cell? ⟨rb, 4, none⟩ = some (.slice na N nc) := by rw [hW0, hrb]; simp
  have z5 : W0.cell? ⟨rb, 5, none⟩ = some (.slice va nv vc) := by rw [hW0, hrb]; simp
  have z6 : W0.cell? ⟨rb, 6, none⟩ = some (.int .i64 cl) := by rw [hW0, hrb]; simp
  have HB0 : Hid (Below w.heap.size w W0) := Lib.hid (by rw [hW0]; exact (Below.refl _ _).alloc (Nat.le_refl _) _)
  have HW0 := Lib.hid hW0
  have Hrb := Lib.hid hrb
  clear hW0 hrb
  go_enter Try.func45, Try.ntmps45
  go_upto_region 1 with fail
  rw [← HW0.out, ← Hrb.out]
  go_upto_region 4 with (first | (go_at_call 44; (with_reducible refine (cC _).out.mono ?_); rintro e w1 ⟨rfl, hb1⟩))
  have HB1 : Hid (Below w.heap.size w w1) := Lib.hid (HB0.out.trans (hb1.mono HB0.out.size))
  have z2 := below_cell hb1 (Nat.le_refl _) z2
  have z3 := below_cell hb1 (Nat.le_refl _) z3
  have z4 := below_cell hb1 (Nat.le_refl _) z4
  have Hrbl : Hid (rb < w1.heap.size) := Lib.hid (World.block_lt_of_cell? _ _ z2)
  clear z0 z1 z5 z6 hb1 cC d16 d17
  go_wp2_with fail
  go_loopw [6, 28] (fun n i wr => ∃ (k m : Nat), k ≤ P ∧ i = .int .i64 k ∧ n = .int .i64 m ∧ m ≤ 16 ∧ Below w1.heap.size w1 wr ∧ Hid (nextP (pos.drop k) m = some nv)) (fun _ i _ => P - (intOf i).toNat)
  case atStart => exact ⟨0, 0, Nat.zero_le _, rfl, rfl, Nat.zero_le _, Below.refl _ _, hnext⟩
  case round =>
    clear hnext
    obtain ⟨k, m, hk, rfl, rfl, hm, hbel, HX⟩ := hrel
    by_cases hlt : k < P
    · obtain ⟨b, off, p, e0, HP0, c0, sa, sc, c1, hS⟩ := pats_at HR.out.pos (k := k) (by rw [← HP.out]; exact hlt)
      simp only at e0
      subst e0
      have c0 := below_cell hbel (Nat.le_refl _) (below_cell HB1.out (Nat.le_refl _) c0)
      have c1 := below_cell hbel (Nat.le_refl _) (below_cell HB1.out (Nat.le_refl _) c1)
      have HX2 : Hid ((nextL p.2 m).bind (nextP (pos.drop (k + 1))) = some nv) := Lib.hid (by rw [← nextP_at HP0]; exact HX.out)
      have HS := Lib.hid (hS.below HB1.out (Nat.le_refl _))
      have HPO := Lib.hid (H.out.pos p (List.mem_of_getElem? HP0))
      obtain ⟨pp, sl⟩ := p
      simp only at c0 c1 HX2
      clear HX HP0 hS
      go_upto_region 8 with fail
      obtain ⟨pb, hpb⟩ : ∃ b, b = wr.heap.size := ⟨_, rfl⟩
      obtain ⟨W2, hW2⟩ : ∃ W, W = wr.alloc (.cells #[.int .i64 pp, .slice sa sl.length sc] 27) := ⟨_, rfl⟩
      have y0 : W2.cell? ⟨pb, 0, none⟩ = some (.int .i64 pp) := by rw [hW2, hpb]; simp
      have y1 : W2.cell? ⟨pb, 1, none⟩ = some (.slice sa sl.length sc) := by rw [hW2, hpb]; simp
      have hb2 : Below w1.heap.size w1 W2 := by rw [hW2]; exact hbel.alloc hbel.size _
      have HS2 := HS.out.below hb2 (Nat.le_refl _)
      have cF := Lib.hid (fitPattern_any pp sa sc sl nv d W2 HPO.out HS2)
      rw [← hW2, ← hpb]
      clear hW2 hpb c0 c1 hbel HS2
      go_upto_region 10 with (first | (go_at_call 70; (with_reducible refine cF.out.mono ?_); rintro e w3 ⟨rfl, hb3⟩))
      have y1 := below_cell hb3 (Nat.le_refl _) y1
      have hb3 : Below w1.heap.size w1 w3 := hb2.trans (hb3.mono hb2.size)
      have hS3 := HS.out.below hb3 (Nat.le_refl _)
      clear hb2 y0 cF
      obtain ⟨S, hSl⟩ : ∃ S, S = sl.length := ⟨_, rfl⟩
      rw [← hSl] at y1
      have HSl := Lib.hid hSl
      have hS8 : S ≤ 8 := by rw [hSl]; exact HPO.out.2.1
      have HS3 := Lib.hid hS3
      clear hSl hS3
      go_wp2_with fail
      obtain ⟨wo, hwo⟩ : ∃ wo, wo = w3 := ⟨_, rfl⟩
      subst hwo
      go_loopw [6, 40] (fun n i wr => ∃ (j q : Nat), j ≤ S ∧ i = .int .i64 j ∧ n = .int .i64 q ∧ q ≤ 16 ∧ Below wo.heap.size wo wr ∧ Hid ((nextL (sl.drop j) q).bind (nextP (pos.drop (k + 1))) = some nv)) (fun _ i _ => S - (intOf i).toNat)
      case atStart => exact ⟨0, m, Nat.zero_le _, rfl, rfl, hm, Below.refl _ _, HX2⟩
      case round =>
        clear HX2 y1 hm
        obtain ⟨j, q, hj, rfl, rfl, hq, hbel4, HX4⟩ := hrel
        by_cases hlt4 : j < S
        · rcases HS3.out with h | ⟨bp, op, rfl, hp⟩
          · rw [HSl.out, h] at hlt4; simp at hlt4
          · obtain ⟨v0, n0, c0, c1, HQ⟩ := slots_at hp (k := j) (by rw [← HSl.out]; exact hlt4)
            have c0 := below_cell hbel4 (Nat.le_refl _) c0
            have c1 := below_cell hbel4 (Nat.le_refl _) c1
            have HX5 : Hid _ := Lib.hid (by have := HX4.out; rw [nextL_at HQ.out] at this; exact this)
            have hn0 := (HPO.out.2.2 _ (List.mem_of_getElem? HQ.out)).1
            have hn1 := (HPO.out.2.2 _ (List.mem_of_getElem? HQ.out)).2
            simp only at hn0 hn1 HX5
            obtain ⟨z, rfl⟩ := Int.eq_ofNat_of_zero_le hn0
            clear hn0 HX4 hp HQ
            have hfin : ∀ (n' : Nat) (W : World), n' ≤ 16 → Below wo.heap.size wo W → Hid ((nextL (sl.drop (j + 1)) n').bind (nextP (pos.drop (k + 1))) = some nv) → ∃ (j' q' : Nat), j' ≤ S ∧ (Value.int .i64 ((j : Int) + 1)) = .int .i64 j' ∧ (Value.int .i64 (n' : Int)) = .int .i64 q' ∧ q' ≤ 16 ∧ Below wo.heap.size wo W ∧ Hid ((nextL (sl.drop j') q').bind (nextP (pos.drop (k + 1))) = some nv) := fun n' W h1 h2 h3 => ⟨j + 1, n', by omega, by go_num, rfl, h1, h2, h3⟩
            have Hfin := Lib.hid hfin
            clear hfin
            have hb5 : ∀ o, Below wo.heap.size wo (wr.alloc o) := fun o => hbel4.alloc hbel4.size _
            have Hb5 := Lib.hid hb5
            clear hb5 hbel4
            cases v0 with
            | false =>
              go_wp2
              go_roundw
              case rel => exact Hfin.out q _ hq (Hb5.out _) (Lib.hid (by have := HX5.out; simpa using this))
              case measure => simp [intOf]; omega
            | true =>
              by_cases h1 : q < z
              · exfalso
                have := HX5.out
                simp [h1] at this
              · by_cases h2 : z = q
                · subst h2
                  have hq15 : z + 1 ≤ 16 := by simp at hn1; omega
                  go_wp2
                  go_roundw
                  case rel => exact Hfin.out (z + 1) _ hq15 (Hb5.out _) (Lib.hid (by have := HX5.out; simpa using this))
                  case measure => simp [intOf]; omega
                · have d1 : decide ((q : Int) < (z : Int)) = false := by simp; omega
                  have d2 : ((z : Int) == (q : Int)) = false := by simp; omega
                  go_wp2
                  go_roundw
                  case rel => exact Hfin.out q _ hq (Hb5.out _) (Lib.hid (by have := HX5.out; simpa [h1, h2, show ¬ ((q : Int) < z) by omega, show ¬ ((z : Int) = q) by omega] using this))
                  case measure => simp [intOf]; omega
        · have HX6 : Hid (nextP (pos.drop (k + 1)) q = some nv) := Lib.hid (by have := HX4.out; rw [List.drop_of_length_le (by rw [← HSl.out]; omega)] at this; simpa [nextL] using this)
          go_wp2
          go_roundw
          case rel => exact ⟨k + 1, q, by omega, by go_num, rfl, hq, hb3.trans (hbel4.mono hb3.size), HX6⟩
          case measure => simp [intOf]; omega
    · have hnv : m = nv := by
        have := HX.out
        rw [List.drop_of_length_le (by rw [← HP.out]; omega)] at this
        simpa [nextP] using this
      subst hnv
      have z3 := below_cell hbel (Nat.le_refl _) z3
      have z4 := below_cell hbel (Nat.le_refl _) z4
      have hbw : Below w.heap.size w wr := HB1.out.trans (hbel.mono HB1.out.size)
      obtain ⟨w5, hw5⟩ : ∃ x, x = wr := ⟨_, rfl⟩
      subst hw5
      clear hbel z2 HX
      go_wp2_with fail
      go_loopw [67] (fun i wr => ∃ (k : Nat), k ≤ N ∧ i = .int .i64 k ∧ Below w5.heap.size w5 wr) (fun i _ => N - (intOf i).toNat)
      case atStart => exact ⟨0, Nat.zero_le _, rfl, Below.refl _ _⟩
      case round =>
        obtain ⟨k, hk, rfl, hbel⟩ := hrel
        by_cases hlt : k < N
        · obtain ⟨b, off, p, e0, HP0, c0, sa, sc, c1, hS⟩ := pats_at HR.out.neg (k := k) (by rw [← HN.out]; exact hlt)
          simp only at e0
          subst e0
          have c0 := below_cell hbel (Nat.le_refl _) (below_cell hbw (Nat.le_refl _) c0)
          have c1 := below_cell hbel (Nat.le_refl _) (below_cell hbw (Nat.le_refl _) c1)
          have HPO := Lib.hid (H.out.neg p (List.mem_of_getElem? HP0))
          obtain ⟨pp, sl⟩ := p
          simp only at c0 c1
          have HS := Lib.hid ((hS.below hbw (Nat.le_refl _)).below hbel (Nat.le_refl _))
          clear HP0 hS
          go_upto_region 22 with fail
          have hb2 : Below w5.heap.size w5 (wr.alloc (.cells #[.int .i64 pp, .slice sa sl.length sc] 27)) := hbel.alloc hbel.size _
          have cF := Lib.hid (fitPattern_any pp sa sc sl m d (wr.alloc (.cells #[.int .i64 pp, .slice sa sl.length sc] 27)) HPO.out (HS.out.below ((Below.refl _ wr).alloc (Nat.le_refl _) _) (Nat.le_refl _)))
          clear c0 c1
          go_wp2_with (first | (go_at_call 70; (with_reducible refine cF.out.mono ?_); rintro e w3 ⟨rfl, hb3⟩))
          have hb3 : Below w5.heap.size w5 w3 := hb2.trans (hb3.mono hb2.size)
          go_roundw
          case rel => exact ⟨k + 1, by omega, by go_num, hb3⟩
          case measure => simp [intOf]; omega
        · have z3 := below_cell hbel (Nat.le_refl _) z3
          have hbw : Below w.heap.size w wr := hbw.trans (hbel.mono hbw.size)
          obtain ⟨w6, hw6⟩ : ∃ x, x = wr := ⟨_, rfl⟩
          subst hw6
          clear hbel z4
          go_wp2_with fail
          go_loopw [80] (fun i wr => ∃ (k : Nat), k ≤ T ∧ i = .int .i64 k ∧ Below w6.heap.size w6 wr) (fun i _ => T - (intOf i).toNat)
          case atStart => exact ⟨0, Nat.zero_le _, rfl, Below.refl _ _⟩
          case round =>
            obtain ⟨k, hk, rfl, hbel⟩ := hrel
            by_cases hlt : k < T
            · obtain ⟨b, off, p, e0, HP0, c0, c1, c2, c3, c4⟩ := tsts_at HR.out.tests (k := k) (by rw [← HT.out]; exact hlt)
              simp only at e0
              subst e0
              have lift : ∀ {a : Addr} {v : Value}, w.cell? a = some v → wr.cell? a = some v := fun h => below_cell hbel (Nat.le_refl _) (below_cell hbw (Nat.le_refl _) h)
              have c0 := lift c0
              have c1 := lift c1
              have c2 := lift c2
              have c3 := lift c3
              have c4 := lift c4
              obtain ⟨g1, g2, g3, g4⟩ := H.out.tests p (List.mem_of_getElem? HP0)
              obtain ⟨op, ⟨lv, ln⟩, rv, rn⟩ := p
              simp only at c0 c1 c2 c3 c4 g1 g2 g3 g4
              clear HP0 lift
              go_upto_region 28 with fail
              obtain ⟨pb, hpb⟩ : ∃ b, b = wr.heap.size := ⟨_, rfl⟩
              obtain ⟨W2, hW2⟩ : ∃ W, W = wr.alloc (.cells #[.int .i64 op, .bool lv, .int .i64 ln, .bool rv, .int .i64 rn] 60) := ⟨_, rfl⟩
              have y0 : W2.cell? ⟨pb, 0, none⟩ = some (.int .i64 op) := by rw [hW2, hpb]; simp
              have y1 : W2.cell? ⟨pb, 1, none⟩ = some (.bool lv) := by rw [hW2, hpb]; simp
              have y2 : W2.cell? ⟨pb, 2, none⟩ = some (.int .i64 ln) := by rw [hW2, hpb]; simp
              have y3 : W2.cell? ⟨pb, 3, none⟩ = some (.bool rv) := by rw [hW2, hpb]; simp
              have y4 : W2.cell? ⟨pb, 4, none⟩ = some (.int .i64 rn) := by rw [hW2, hpb]; simp
              have hb2 : Below w6.heap.size w6 W2 := by rw [hW2]; exact hbel.alloc hbel.size _
              rw [← hW2, ← hpb]
              have cL := fun W => Lib.hid (fitSlot_any lv ln m d W g3)
              have cR := fun W => Lib.hid (fitSlot_any rv rn m d W g4)
              have d1 : decide (op < 1) = false := by simp; omega
              have d2 : decide (6 < op) = false := by simp; omega
              clear hW2 hpb c0 c1 c2 c3 c4 hbel g3 g4
              go_wp2_with fail
              refine (cL _).out.mono ?_
              rintro e w7 ⟨rfl, hb7⟩
              have y3 := below_cell hb7 (Nat.le_refl _) y3
              have y4 := below_cell hb7 (Nat.le_refl _) y4
              have hb2 : Below w6.heap.size w6 w7 := hb2.trans (hb7.mono hb2.size)
              clear hb7 y0 y1 y2 cL d1 d2
              go_wp2_with fail
              refine (cR _).out.mono ?_
              rintro e w8 ⟨rfl, hb8⟩
              have hb2 : Below w6.heap.size w6 w8 := hb2.trans (hb8.mono hb2.size)
              clear hb8 y3 y4 cR
              go_wp2
              go_roundw
              case rel => exact ⟨k + 1, by omega, by go_num, hb2⟩
              case measure => simp [intOf]; omega
            · go_wp2
              go_ret
              exact ⟨rfl, hbw.trans (hbel.mono hbw.size)⟩
end Mt
end Go.Proofs.Ytkejjiohkhlnnaa

namespace Go.Proofs.Ytkejjiohkhlnnaa
open Go.RowKit
namespace Mt

section
variable {s sb : Nat} {σ : St} {h : Hd} {τ : Own} {w : World}
set_option maxHeartbeats 2000000 in
set_option maxRecDepth 8000 in
theorem fitStore_any (hs : StoreAt s sb σ h τ w) (n : Nat) (hl : σ.rows.length ≤ 1000000000000) (hall : ∀ r ∈ σ.rows, ∀ x ∈ r.2, x < n) :
    Calls Try.prog 47 #[.pointer (some ⟨sb, 0, none⟩), .int .i64 n] w fun e w' => e = .returned (.bool true) ∧ Below w.heap.size w w' := by
  have HS := Lib.hid hs
  have HA := Lib.hid hall
  have cL := Lib.hid (len_any hs)
  obtain ⟨R, hR⟩ : ∃ R, R = σ.rows.length := ⟨_, rfl⟩
  rw [← hR] at cL hl
  have HR := Lib.hid hR
  clear hs hall hR
  go_enter Try.func47, Try.ntmps47
  go_wp2_with (first | (go_at_call 35; (with_reducible refine cL.out.mono ?_); rintro e w1 ⟨rfl, rfl⟩))
  go_loopw [12] (fun i wr => ∃ k : Nat, k ≤ R ∧ i = .int .i64 k ∧ Below w1.heap.size w1 wr) (fun i _ => R - (intOf i).toNat)
  case atStart => exact ⟨0, Nat.zero_le _, rfl, Below.refl _ _⟩
  case round =>
    obtain ⟨k, hk, rfl, hbel⟩ := hrel
    by_cases hlt : k < R
    · obtain ⟨r, hr⟩ : ∃ r, σ.rows[k]? = some r := ⟨_, List.getElem?_eq_getElem (by rw [← HR.out]; exact hlt)⟩
      have cR := Lib.hid (row_any (HS.out.below hbel) k r hr)
      have hf := HS.out.sound.fits r (List.mem_of_getElem? hr)
      have HAr := Lib.hid (HA.out r (List.mem_of_getElem? hr))
      obtain ⟨p, xs⟩ := r
      have h8 : xs.length ≤ 8 := hf.2.2.2.1
      clear hf hr
      go_upto_region 5 with (first | (go_at_call 36; (with_reducible refine cR.out.mono ?_); rintro e w2 ⟨a, c, rfl, hI, hb2⟩))
      obtain ⟨rb, hrb⟩ : ∃ b, b = w2.heap.size := ⟨_, rfl⟩
      obtain ⟨W2, hW2⟩ : ∃ W, W = w2.alloc (.cells #[.int .i64 p, .slice a xs.length c] 50) := ⟨_, rfl⟩
      have y0 : W2.cell? ⟨rb, 0, none⟩ = some (.int .i64 p) := by rw [hW2, hrb]; simp
      have y1 : W2.cell? ⟨rb, 1, none⟩ = some (.slice a xs.length c) := by rw [hW2, hrb]; simp
      have hb3 : Below w1.heap.size w1 W2 := by rw [hW2]; exact (hbel.trans (hb2.mono hbel.size)).alloc (Nat.le_trans hbel.size hb2.size) _
      have hI2 : Ints W2 a xs := by rw [hW2]; exact hI.ints.below ((Below.refl _ _).alloc (Nat.le_refl _) _) 
      rw [← hW2, ← hrb]
      obtain ⟨X, hX⟩ : ∃ X, X = xs.length := ⟨_, rfl⟩
      rw [← hX] at h8 y1
      have HX := Lib.hid hX
      have HI := Lib.hid hI2
      clear hW2 hrb hI hb2 hbel hI2 hX cR
      go_wp2_with fail
      obtain ⟨wo, hwo⟩ : ∃ wo, wo = W2 := ⟨_, rfl⟩
      subst hwo
      go_loopw [24] (fun i wr => ∃ j : Nat, j ≤ X ∧ i = .int .i64 j ∧ wr = wo) (fun i _ => X - (intOf i).toNat)
      case atStart => exact ⟨0, Nat.zero_le _, rfl, rfl⟩
      case round =>
        obtain ⟨j, hj, rfl, rfl⟩ := hrel
        by_cases hlt4 : j < X
        · obtain ⟨b, o, rfl, x, c1, hx⟩ := ints_some HI.out (k := j) (by rw [← HX.out]; exact hlt4)
          have hxn := HAr.out x (List.mem_of_getElem? hx.out)
          have d1 : decide ((n : Int) ≤ x) = false := by simp; omega
          clear hx
          go_wp2
          go_roundw
          case rel => exact ⟨j + 1, by omega, by go_num, trivial⟩
          case measure => simp [intOf]; omega
        · go_wp2
          go_roundw
          case rel => exact ⟨k + 1, by omega, by go_num, hb3⟩
          case measure => simp [intOf]; omega
    · go_wp2
      go_ret
      exact ⟨rfl, hbel⟩
end
end Mt
end Go.Proofs.Ytkejjiohkhlnnaa

namespace Go.Proofs.Ytkejjiohkhlnnaa
open Go.RowKit
namespace Mt
open Go.Maps (Keyed)

def constV (c : C3) : Value := .agg #[.int .i64 c.1, .int .i64 c.2.1, .string c.2.2]
theorem constV_inj {c d : C3} (h : constV c = constV d) : c = d := by
  obtain ⟨a, b, s⟩ := c
  obtain ⟨a', b', s'⟩ := d
  unfold constV at h
  simp at h
  obtain ⟨h1, h2, h3⟩ := h
  rw [h1, h2, h3]
theorem constLaidOut : laidOutB Try.prog = true := by kernel_rfl
theorem constRow : (65 : TypeId) < Try.prog.types.size := of_decide_eq_true (by kernel_rfl)
theorem constDeep : Try.prog.keyTypeAt 2 65 = true := by kernel_rfl
theorem constLaw : Keyed Try.prog 65 := Keyed.of_law (deep_law_laid constLaidOut (m := 2) (by omega) constRow constDeep (by simp only [Try.underlying65]))
theorem constKeyType : Try.prog.keyType 65 = true := by kernel_rfl
theorem constCells3 : Try.prog.cellsOf 65 = 3 := by kernel_rfl
theorem constSize : ∃ m, Try.prog.types.size = m + 2 := ⟨Try.prog.types.size - 2, by have h : Try.prog.types.size = (Try.prog.types.size - 2) + 2 := (of_decide_eq_true (by kernel_rfl)); exact h⟩
/-- a constant's integers are such, its text is no longer than may be -/
def C3Ok (c : C3) : Prop := Rng c.1 ∧ Rng c.2.1 ∧ c.2.2.size ≤ maxLen
theorem constKey_of {c : C3} (h : C3Ok c) : ∃ l, keyOf Try.prog 65 (constV c) = some l := by
  obtain ⟨m, hm⟩ := constSize
  obtain ⟨h1, h2, h3⟩ := h
  have hs : (Program.keyLits Try.prog (Try.prog.types.size + 1) 65 (constV c).cells.toList).isSome = true := by
    rw [hm]
    unfold Program.keyLits
    simp only [Try.underlying65, constV, Value.cells]
    have ei : ∀ (q : IntKind) (t : TypeId) (n : Int), Try.prog.underlying t = some (.int q) → (Lit.int q n).wf = true → Program.keyLits Try.prog (m + 2) t [.int q n] = some [.int q n] := fun q t n ht hw => by
      unfold Program.keyLits
      simp [ht, hw]
    have es : ∀ (t : TypeId) (s : ByteArray), Try.prog.underlying t = some .string → s.size ≤ maxLen → Program.keyLits Try.prog (m + 2) t [.string s] = some [.string s.data.toList] := fun t s ht hw => by
      unfold Program.keyLits
      simp [ht, hw]
    have k3 : Try.prog.cellsOf 3 = 1 := by kernel_rfl
    have k2 : Try.prog.cellsOf 2 = 1 := by kernel_rfl
    have k9 : Try.prog.cellsOf 9 = 1 := by kernel_rfl
    rw [if_pos ⟨by rw [constCells3]; rfl, by simp⟩]
    simp [k3, k2, k9, ei .i64 3 _ Try.underlying3 (wf_rng h1), ei .i64 2 _ Try.underlying2 (wf_rng h2), es 9 _ Try.underlying9 h3]
  obtain ⟨ls, hl⟩ := Option.isSome_iff_exists.1 hs
  refine ⟨.string (keyBytes ls), ?_⟩
  unfold keyOf
  simp only [Try.underlying65]
  rw [if_pos (by simp [constKeyType, Value.formed, Try.underlying65, constCells3, constV]), hl]
  rfl
theorem zeroInt' (W : World) : (zeroValue 3).run Try.prog W = .ok (.int .i64 0) W := by kernel_rfl
/-- constants that are fit -/
structure ConstsOk (cs : List C3) : Prop where
  many : cs.length ≤ 65536
  ok : ∀ c ∈ cs, C3Ok c
  valid : ∀ c ∈ cs, Sym.validC c.1 c.2.1 c.2.2.data.toList = true
  once : cs.Nodup
/-- the map of the constants so far -/
def Seen (w : World) (b k : Nat) (l : List C3) : Prop := ∃ f, MapIs Try.prog 65 w b k f ∧ ∀ key v, f key = some v → ∃ c ∈ l, key = constV c
theorem Seen.below {w w' : World} {b k : Nat} {l : List C3} (h : Seen w b k l) (hb : Below w.heap.size w w') : Seen w' b k l := by
  obtain ⟨f, h1, h2⟩ := h
  exact ⟨f, h1.kept (hb.block _ h1.lt), h2⟩
theorem Seen.look {w : World} {b k : Nat} {l : List C3} (h : Seen w b k l) {c : C3} (hc : C3Ok c) (hn : c ∉ l) (W : World) (hW : Below w.heap.size w W) : (Instr.lookup 130 (.map (some b)) (constV c) true).run Try.prog W = .ok (.tuple #[.int .i64 0, .bool false]) W := by
  obtain ⟨f, h1, h2⟩ := h
  obtain ⟨kl, hk⟩ := constKey_of hc
  have := (h1.kept (hW.block _ h1.lt)).look constLaw Try.underlying130 (zeroInt' W) hk true
  have hn' : f (constV c) = none := by
    cases hf : f (constV c) with
    | none => rfl
    | some v =>
      obtain ⟨d, hd, he⟩ := h2 _ _ hf
      exact absurd (constV_inj he ▸ hd) hn
  rw [hn'] at this
  exact this
theorem Seen.put {w : World} {b k : Nat} {l : List C3} (h : Seen w b k l) {c : C3} (hc : C3Ok c) (v : Value) : ∃ W, (Instr.mapUpdate 130 (.map (some b)) (constV c) v).run Try.prog w = .ok () W ∧ Seen W b (k + 1) (l ++ [c]) ∧ Below b w W := by
  obtain ⟨f, h1, h2⟩ := h
  obtain ⟨kl, hk⟩ := constKey_of hc
  obtain ⟨es, clock, hrun, hm⟩ := h1.update constLaw Try.underlying130 hk v
  refine ⟨_, hrun, ⟨_, hm, fun key u hu => ?_⟩, ?_⟩
  · unfold upd at hu
    split at hu
    · rename_i e
      exact ⟨c, by simp, e⟩
    · obtain ⟨d, hd, he⟩ := h2 _ _ hu
      exact ⟨d, by simp [hd], he⟩
  · have hlt := h1.lt
    refine ⟨rfl, rfl, rfl, by simp [ChangeMaps.setBlock], fun j hj => ?_⟩
    simp [ChangeMaps.setBlock, show b ≠ j by omega]

set_option maxHeartbeats 4000000 in
set_option maxRecDepth 8000 in
theorem fitConsts_any (a : Option Addr) (c : Nat) (cs : List C3) (w : World) (hc : Consts w a cs) (h : ConstsOk cs) :
    Calls Try.prog 46 #[.slice a cs.length c] w fun e w' => e = .returned (.bool true) ∧ Below w.heap.size w w' := by
  have HC := Lib.hid hc
  have H := Lib.hid h
  have h6 := h.many
  obtain ⟨n, hn⟩ : ∃ n, n = cs.length := ⟨_, rfl⟩
  rw [← hn] at h6 ⊢
  have Hn := Lib.hid hn
  have hmm := @run_makeMap Try.prog
  have hM : Hid (Seen (w.alloc (.map #[] 0)) w.heap.size 0 []) := Lib.hid ⟨_, MapIs.made _ _ _, fun key v hv => by cases hv⟩
  clear hc h hn
  go_enter Try.func46, Try.ntmps46
  go_wp2_with fail
  obtain ⟨mb, hmb⟩ : ∃ b, b = w.heap.size := ⟨_, rfl⟩
  obtain ⟨W0, hW0⟩ : ∃ W, W = w.alloc (.map #[] 0) := ⟨_, rfl⟩
  have hb0 : Below w.heap.size w W0 := by rw [hW0]; exact (Below.refl _ _).alloc (Nat.le_refl _) _
  rw [← hmb, ← hW0] at hM ⊢
  have Hmb := Lib.hid hmb
  clear hmb hW0 hmm
  go_loopw [14] (fun i wr => ∃ k : Nat, k ≤ n ∧ i = .int .i64 k ∧ Below w.heap.size w wr ∧ Hid (Seen wr mb k (cs.take k))) (fun i _ => n - (intOf i).toNat)
  case atStart => exact ⟨0, Nat.zero_le _, rfl, hb0, hM⟩
  case round =>
    clear hM hb0
    obtain ⟨k, hk, rfl, hbel, HM⟩ := hrel
    by_cases hlt : k < n
    · rcases HC.out with h | ⟨b, o, rfl, hc⟩
      · rw [Hn.out, h] at hlt; simp at hlt
      · obtain ⟨⟨x1, x2, x3⟩, c1, c2, c3, HX⟩ := consts_at hc (k := k) (by rw [← Hn.out]; exact hlt)
        have c1 := below_cell hbel (Nat.le_refl _) c1
        have c2 := below_cell hbel (Nat.le_refl _) c2
        have c3 := below_cell hbel (Nat.le_refl _) c3
        have hmem := List.mem_of_getElem? HX.out
        have hok := H.out.ok _ hmem
        have cV := Lib.hid (Sym.valid_any x1 x2 x3 (wr.alloc (.cells #[.int .i64 x1, .int .i64 x2, .string x3] 65)) (by have := hok.2.2; unfold maxLen at this; simp only at this; omega))
        rw [show Sym.validC x1 x2 x3.data.toList = true from H.out.valid _ hmem] at cV
        have hno : (x1, x2, x3) ∉ cs.take k := by
          intro hm
          obtain ⟨j, hj⟩ := List.mem_iff_getElem?.1 hm
          rw [List.getElem?_take] at hj
          split at hj
          · rename_i hjk
            have e1 := HX.out
            rw [← e1] at hj
            have hjl : j < cs.length := by rw [← Hn.out]; omega
            have := (List.getElem?_inj hjl H.out.once).1 hj
            omega
          · cases hj
        have Hok := Lib.hid hok
        have Hno := Lib.hid hno
        have hS1 := HM.out.below ((Below.refl _ wr).alloc (Nat.le_refl _) (.cells #[.int .i64 x1, .int .i64 x2, .string x3] 65))
        have HS1 := Lib.hid hS1
        clear hc hmem hok hno hS1 HM
        go_upto_region 7 with fail
        obtain ⟨cb, hcb⟩ : ∃ b, b = wr.heap.size := ⟨_, rfl⟩
        obtain ⟨W1, hW1⟩ : ∃ W, W = wr.alloc (.cells #[.int .i64 x1, .int .i64 x2, .string x3] 65) := ⟨_, rfl⟩
        have y1 : W1.cell? ⟨cb, 0, none⟩ = some (.int .i64 x1) := by rw [hW1, hcb]; simp
        have y2 : W1.cell? ⟨cb, 1, none⟩ = some (.int .i64 x2) := by rw [hW1, hcb]; simp
        have y3 : W1.cell? ⟨cb, 2, none⟩ = some (.string x3) := by rw [hW1, hcb]; simp
        have hb1 : Below w.heap.size w W1 := by rw [hW1]; exact hbel.alloc hbel.size _
        rw [← hW1] at cV HS1
        rw [← hW1, ← hcb]
        clear hW1 hcb c1 c2 c3 hbel
        go_upto_region 9 with (first | (go_at_call 27; (with_reducible refine cV.out.mono ?_); rintro e w2 ⟨rfl, hb2⟩))
        have y1 := below_cell hb2 (Nat.le_refl _) y1
        have y2 := below_cell hb2 (Nat.le_refl _) y2
        have y3 := below_cell hb2 (Nat.le_refl _) y3
        have hl := HS1.out.look Hok.out Hno.out w2 hb2
        obtain ⟨W3, hl2, hS3, hb3⟩ := (HS1.out.below hb2).put Hok.out (.int .i64 (k : Int))
        have hS3' : Hid (Seen W3 mb (k + 1) (cs.take (k + 1))) := Lib.hid (by rw [take_snoc' HX.out]; exact hS3)
        have hb3 : Below w.heap.size w W3 := (hb1.trans (hb2.mono hb1.size)).trans (hb3.mono (Nat.le_of_eq Hmb.out.symm))
        unfold constV at hl hl2
        simp only at hl hl2
        clear hS3 hb1 hb2 HS1 cV
        go_wp2_with fail
        go_roundw
        case rel => exact ⟨k + 1, by omega, by go_num, hb3, hS3'⟩
        case measure => simp [intOf]; omega
    · go_wp2
      go_ret
      exact ⟨rfl, hbel⟩
end Mt
end Go.Proofs.Ytkejjiohkhlnnaa

namespace Go.Proofs.Ytkejjiohkhlnnaa
open Go.RowKit
namespace Mt

theorem elemInts : Elem Try.prog 38 22 (.slice none 0 0) 1 24 := ⟨Try.underlying38, by kernel_rfl, rfl, by decide⟩
/-- in which block the list lies that the variable at ob holds -/
def GOf (ob : Nat) (w : World) : Option Nat := (w.cell? ⟨ob, 0, none⟩).bind Value.ownBlock
/-- only the variable at ob, its list's block, and new blocks have turned -/
structure Grew (ob : Nat) (w w' : World) : Prop where
  os : w'.os = w.os
  tape : w'.tape = w.tape
  output : w'.output = w.output
  size : w.heap.size ≤ w'.heap.size
  keep : ∀ j, j < w.heap.size → j ≠ ob → GOf ob w ≠ some j → w'.heap[j]? = w.heap[j]?
  row : GOf ob w' = GOf ob w ∨ ∀ g, GOf ob w' = some g → w.heap.size ≤ g
theorem Grew.refl (ob : Nat) (w : World) : Grew ob w w := ⟨rfl, rfl, rfl, Nat.le_refl _, fun _ _ _ _ => rfl, .inl rfl⟩
theorem Grew.trans {ob : Nat} {w w1 w2 : World} (h : Grew ob w w1) (k : Grew ob w1 w2) : Grew ob w w2 := by
  have hz := h.size
  refine ⟨k.os.trans h.os, k.tape.trans h.tape, k.output.trans h.output, Nat.le_trans h.size k.size, fun j hj hn hg => ?_, ?_⟩
  · rw [k.keep j (by omega) hn (fun e => ?_), h.keep j hj hn hg]
    rcases h.row with h1 | h1
    · exact hg (h1 ▸ e)
    · have := h1 j e
      omega
  · rcases k.row with h1 | h1
    · rcases h.row with h2 | h2
      · exact .inl (h1.trans h2)
      · exact .inr fun g e => h2 g (h1 ▸ e)
    · exact .inr fun g e => by have := h1 g e; omega
theorem GOf_same {ob : Nat} {w w' : World} (h : w'.heap[ob]? = w.heap[ob]?) : GOf ob w' = GOf ob w := by
  unfold GOf
  rw [World.cell?_of_block (w := w) (w' := w') (a := ⟨ob, 0, none⟩) h]
theorem Grew.below {ob : Nat} {w w' : World} (hb : Below w.heap.size w w') (ho : ob < w.heap.size) : Grew ob w w' :=
  ⟨hb.os, hb.tape, hb.output, hb.size, fun j hj _ _ => hb.block j hj, .inl (GOf_same (hb.block ob ho))⟩
/-- what lies below ob stays -/
theorem Grew.old {ob : Nat} {w w' : World} (h : Grew ob w w') (ho : ob < w.heap.size) (hg : ∀ g, GOf ob w = some g → ob < g) : Below ob w w' :=
  ⟨h.os, h.tape, h.output, h.size, fun j hj => h.keep j (by omega) (by omega) (fun e => by have := hg j e; omega)⟩
theorem Grew.cell {ob : Nat} {w w' : World} (h : Grew ob w w') {b o : Nat} {v : Value} (hc : w.cell? ⟨b, o, none⟩ = some v) (hn : b ≠ ob) (hg : GOf ob w ≠ some b) : w'.cell? ⟨b, o, none⟩ = some v :=
  (World.cell?_of_block (w := w) (h.keep b (World.block_lt_of_cell? _ _ hc) hn hg)).trans hc

/-- the variable at ob holds the list v of the lists acc, each in a block of its own -/
structure OutV (ob : Nat) (v : Value) (acc : List (List Int)) (w : World) : Prop where
  box : w.heap[ob]? = some (.cells #[v] 38 (0, 0))
  row : ∃ hs : List Value, w.ownsRow (ob + 1) 22 1 v acc.length hs ∧
    (∀ (i : Nat) xs, acc[i]? = some xs → ∃ u, hs[i]? = some u ∧ w.ownsRow (ob + 1) 3 1 u xs.length (xs.map (Value.int .i64)) ∧ ∀ g, u.ownBlock = some g → v.ownBlock ≠ some g) ∧
    ∀ (i j : Nat) u u', i < j → hs[i]? = some u → hs[j]? = some u' → ∀ g, u.ownBlock = some g → u'.ownBlock ≠ some g
theorem OutV.gof {ob : Nat} {v : Value} {acc : List (List Int)} {w : World} (h : OutV ob v acc w) : GOf ob w = v.ownBlock := by
  have hb := h.box
  simp [GOf, World.cell?, hb]
theorem OutV.cell {ob : Nat} {v : Value} {acc : List (List Int)} {w : World} (h : OutV ob v acc w) : w.cell? ⟨ob, 0, none⟩ = some v ∧ w.frozen? ⟨ob, 0, none⟩ = false := by
  have hb := h.box
  simp [World.cell?, World.frozen?, hb]
theorem OutV.lt {ob : Nat} {v : Value} {acc : List (List Int)} {w : World} (h : OutV ob v acc w) : ob < w.heap.size := (Array.getElem?_eq_some_iff.1 h.box).1
theorem OutV.rowLt {ob : Nat} {v : Value} {acc : List (List Int)} {w : World} (h : OutV ob v acc w) {g : Nat} (hg : v.ownBlock = some g) : ob < g ∧ g < w.heap.size := by
  obtain ⟨hs, h1, -⟩ := h.row
  have := h1.lt g hg
  omega
theorem OutV.below {ob : Nat} {v : Value} {acc : List (List Int)} {w w' : World} (h : OutV ob v acc w) (hb : Below w.heap.size w w') : OutV ob v acc w' := by
  obtain ⟨hs, h1, h2, h3⟩ := h.row
  refine ⟨(hb.block ob h.lt).trans h.box, hs, owns_below h1 hb (Nat.le_refl _), fun i xs hx => ?_, h3⟩
  obtain ⟨u, k1, k2, k3⟩ := h2 i xs hx
  exact ⟨u, k1, owns_below k2 hb (Nat.le_refl _), k3⟩
theorem owns_base {w : World} {base base' e size n : Nat} {v : Value} {xs : List Value} (h : w.ownsRow base e size v n xs) (hb : base' ≤ base) : w.ownsRow base' e size v n xs := by
  obtain ⟨h1, h2⟩ := h
  refine ⟨h1, ?_⟩
  rcases h2 with h2 | ⟨g, cap, cur, h3, h4, h5⟩
  · exact .inl h2
  · exact .inr ⟨g, cap, cur, h3, Nat.le_trans hb h4, h5⟩
theorem owns_empty (w : World) (e : TypeId) : (w.alloc (.cells #[] e)).ownsRow w.heap.size e 1 (.slice (some ⟨w.heap.size, 0, none⟩) 0 0) 0 [] :=
  ⟨rfl, .inr ⟨_, 0, #[], rfl, Nat.le_refl _, (MapKept.heap_alloc w _).1, Nat.le_refl _, Nat.zero_le _, rfl, rfl⟩⟩
theorem out_grow {ob : Nat} {v v' u : Value} {acc : List (List Int)} {sub : List Int} {w V3 V4 : World} {hs : List Value} (h : OutV ob v acc w) (hs1 : w.ownsRow (ob + 1) 22 1 v acc.length hs)
    (h2 : ∀ (i : Nat) xs, acc[i]? = some xs → ∃ u, hs[i]? = some u ∧ w.ownsRow (ob + 1) 3 1 u xs.length (xs.map (Value.int .i64)) ∧ ∀ g, u.ownBlock = some g → v.ownBlock ≠ some g)
    (h3 : ∀ (i j : Nat) u u', i < j → hs[i]? = some u → hs[j]? = some u' → ∀ g, u.ownBlock = some g → u'.ownBlock ≠ some g)
    (hb : Below w.heap.size w V3) (hu : V3.ownsRow w.heap.size 3 1 u sub.length (sub.map (Value.int .i64))) (hg : V3.grownBy V4 v.ownBlock) (hv : V4.ownsRow (ob + 1) 22 1 v' (acc.length + 1) (hs ++ [u])) (ho : v'.ownBlock = v.ownBlock ∨ v'.ownBlock = some V3.heap.size) :
    Grew ob w (V4.setCell ⟨ob, 0, none⟩ v') ∧ OutV ob v' (acc ++ [sub]) (V4.setCell ⟨ob, 0, none⟩ v') := by
  have hlt := h.lt
  have hz := hb.size
  have hz4 := hg.size
  have hbox4 : V4.heap[ob]? = some (.cells #[v] 38 (0, 0)) := by
    rw [hg.block ob (by omega) (fun e => by have := (h.rowLt e.symm).1; omega), hb.block ob hlt]
    exact h.box
  have hbox5 : (V4.setCell ⟨ob, 0, none⟩ v').heap[ob]? = some (.cells #[v'] 38 (0, 0)) := heap_setCell (j := 0) hbox4 v'
  have hfar : ∀ j, j ≠ ob → (V4.setCell ⟨ob, 0, none⟩ v').heap[j]? = V4.heap[j]? := fun j hj => Below.heap_setCell _ _ _ _ (fun e => hj e)
  have hg5 : GOf ob (V4.setCell ⟨ob, 0, none⟩ v') = v'.ownBlock := by simp [GOf, World.cell?, hbox5]
  have hu4 : ∀ g, u.ownBlock = some g → w.heap.size ≤ g ∧ g < V3.heap.size := fun g e => hu.lt g e
  have hvb : ∀ g, v.ownBlock = some g → ob < g ∧ g < w.heap.size := fun g e => h.rowLt e
  have kU : (V4.setCell ⟨ob, 0, none⟩ v').ownsRow (ob + 1) 3 1 u sub.length (sub.map (Value.int .i64)) :=
    owns_base (owns_block hu (fun g e => by
      have h1 := hu4 g e
      rw [hfar g (by omega), hg.block g h1.2 (fun e' => by have := hvb g e'.symm; omega)])) (by omega)
  refine ⟨⟨?_, ?_, ?_, ?_, fun j hj hn hgj => ?_, ?_⟩, hbox5, hs ++ [u], ?_, fun i xs hx => ?_, fun i j u1 u2 hij hi hj g e => ?_⟩
  · exact hg.os.trans hb.os
  · exact hg.tape.trans hb.tape
  · exact hg.output.trans hb.output
  · simp; omega
  · rw [h.gof] at hgj
    rw [hfar j hn, hg.block j (by omega) (fun e => hgj e.symm), hb.block j hj]
  · rw [hg5, h.gof]
    rcases ho with ho | ho
    · exact .inl ho
    · exact .inr fun g e => by rw [ho] at e; cases e; exact hz
  · rw [List.length_append]
    exact owns_block hv (fun g e => hfar g (fun e' => by have := (hv.lt g e).1; omega))
  · by_cases hi : i < acc.length
    · rw [List.getElem?_append_left hi] at hx
      obtain ⟨u1, k1, k2, k3⟩ := h2 i xs hx
      refine ⟨u1, by rw [List.getElem?_append_left (List.getElem?_eq_some_iff.1 k1).1]; exact k1, owns_block k2 (fun g e => ?_), fun g e => ?_⟩
      · have h1 := k2.lt g e
        rw [hfar g (by omega), hg.block g (by omega) (fun e' => k3 g e e'.symm), hb.block g h1.2]
      · rcases ho with ho | ho
        · rw [ho]; exact k3 g e
        · rw [ho]
          have h1 := k2.lt g e
          intro e'
          cases e'
          omega
    · have hil : i = acc.length := by
        have := (List.getElem?_eq_some_iff.1 hx).1
        simp at this
        omega
      subst hil
      rw [List.getElem?_append_right (Nat.le_refl _)] at hx
      simp at hx
      subst hx
      have hl : hs.length = acc.length := by have := hs1.1; simpa using this
      refine ⟨u, by rw [List.getElem?_append_right (by omega), hl]; simp, kU, fun g e => ?_⟩
      have h1 := hu4 g e
      rcases ho with ho | ho
      · rw [ho]
        intro e'
        have := hvb g e'
        omega
      · rw [ho]
        intro e'
        cases e'
        omega
  · have hl : hs.length = acc.length := by have := hs1.1; simpa using this
    by_cases hjl : j < hs.length
    · rw [List.getElem?_append_left hjl] at hj
      rw [List.getElem?_append_left (by omega)] at hi
      exact h3 i j u1 u2 hij hi hj g e
    · have hj' : u2 = u := by
        rw [List.getElem?_append_right (by omega)] at hj
        have := List.mem_of_getElem? hj
        simpa using this
      subst hj'
      have hjlen : j = hs.length := by
        have := (List.getElem?_eq_some_iff.1 hj).1
        simp at this
        omega
      rw [List.getElem?_append_left (by omega)] at hi
      obtain ⟨xs, hx⟩ : ∃ xs, acc[i]? = some xs := ⟨_, List.getElem?_eq_getElem (by omega)⟩
      obtain ⟨u3, k1, k2, k3⟩ := h2 i xs hx
      rw [hi] at k1
      cases k1
      have h1 := k2.lt g e
      intro e'
      have := hu4 g e'
      omega
/-- what found leaves -/
def FoundEnd (ob : Nat) (acc : List (List Int)) (sub : List Int) (w : World) (e : Ending) (w' : World) : Prop :=
  e = .returned (.bool true) ∧ Grew ob w w' ∧ ∃ v', OutV ob v' (acc ++ [sub]) w'
theorem owns_shape' {w : World} {B : Nat} {v : Value} {e : TypeId} {size n : Nat} {xs : List Value} (h : w.ownsRow B e size v n xs) : ∃ a c, v = .slice a n c := by
  rcases owns_form h with ⟨rfl, rfl, _⟩ | ⟨g, cap, rfl, _⟩
  · exact ⟨none, 0, rfl⟩
  · exact ⟨_, _, rfl⟩
set_option linter.unusedSimpArgs false in
set_option maxHeartbeats 8000000 in
set_option maxRecDepth 8000 in
theorem found_any {ob : Nat} {v : Value} {acc : List (List Int)} {Z : Nat → Prop} (a : Option Addr) (c : Nat) (sub : List Int) (w : World) (h : OutV ob v acc w) (hs : IntsZ Z w a c sub) (hl : sub.length ≤ 1000000) (ha : acc.length + 1 ≤ 1000000) :
    Calls Try.prog 48 #[.slice a sub.length c, .pointer (some ⟨ob, 0, none⟩)] w (FoundEnd ob acc sub w) := by
  obtain ⟨hh, q1, q2, q3⟩ := h.row
  obtain ⟨hcell, hfr⟩ := h.cell
  obtain ⟨av, cv, rfl⟩ := owns_shape' q1
  have H := Lib.hid h
  have HQ2 := Lib.hid q2
  have HQ3 := Lib.hid q3
  have HS := Lib.hid hs
  have hlt := h.lt
  have H1 := Lib.hid q1
  obtain ⟨n, hn⟩ : ∃ n, n = acc.length := ⟨_, rfl⟩
  obtain ⟨m, hm⟩ : ∃ n, n = sub.length := ⟨_, rfl⟩
  rw [← hn] at ha q1 hcell
  rw [← hm] at hl ⊢
  have Hn := Lib.hid hn
  have Hm := Lib.hid hm
  clear h q2 q3 hs hn hm
  go_enter Try.func48, Try.ntmps48
  go_upto_region 1 with fail
  obtain ⟨V0, hV0⟩ : ∃ V, V = w.drew := ⟨_, rfl⟩
  have hbd : Below w.heap.size w V0 := by rw [hV0]; exact (Below.refl _ _).drew
  have HV0 : Hid (Grew ob w V0) := Lib.hid (Grew.below hbd hlt)
  have H0 : Hid (OutV ob (.slice av n cv) acc V0) := Lib.hid (by rw [Hn.out]; exact H.out.below hbd)
  have hown : V0.ownsRow (ob + 1) 22 1 (.slice av n cv) n hh := owns_below q1 hbd (Nat.le_refl _)
  have hbox0 := H0.out.box
  have HQ20 : Hid (∀ (i : Nat) xs, acc[i]? = some xs → ∃ u, hh[i]? = some u ∧ V0.ownsRow (ob + 1) 3 1 u xs.length (xs.map (Value.int .i64)) ∧ ∀ g, u.ownBlock = some g → (Value.slice av n cv).ownBlock ≠ some g) := Lib.hid (fun i xs hx => by obtain ⟨u, k1, k2, k3⟩ := HQ2.out i xs hx; exact ⟨u, k1, owns_below k2 hbd (Nat.le_refl _), by rw [Hn.out]; exact k3⟩)
  have HS0 : Hid (IntsZ Z V0 a c sub) := Lib.hid (HS.out.below hbd (Nat.le_refl _))
  have h8 : V0.cell? ⟨ob, 0, none⟩ = some (.slice av n cv) := on_cell hbd hcell
  have hlt0 : ob < V0.heap.size := Nat.lt_of_lt_of_le hlt hbd.size
  have Hrl : Hid (∀ g, (Value.slice av n cv).ownBlock = some g → ob < g ∧ g < V0.heap.size) := Lib.hid (fun g e => H0.out.rowLt e)
  clear hbd hcell hfr
  refine wp_region_noPanic ?_
  refine wp_region_held_drew (S := (fun _ => True)) (by kernel_rfl) ?_ (fun hHeld => ?_)
  · trivial
  rw [← hV0]
  clear hV0
  refine wpAnyH_take (i := 2) (oi := ⟨some 6, _, _, _, _, _⟩) (v := ?_) rfl (by kernel_rfl) (by kernel_rfl) (by kernel_rfl) (fun _ _ _ h => h) (Or.inl ⟨by rfl, ?_⟩) (by assumption) ?_
  rotate_left 1
  · intro w hSw
    (try dsimp only at hSw)
    go_simp
    all_goals with_reducible rfl
  (try simp only [Act.put, List.setIfInBounds_toArray, List.set_cons_zero, List.set_cons_succ])
  refine wpAnyH_ready (rs := [0, 1]) (by kernel_rfl) (by simp) ?_
  refine AllReadyH.cons (o := _) rfl (fun K hK => ?_) ?_
  · go_simp
    refine hK.out _ _ ?_ (fun hHeld => ?_)
    · trivial
    clear hK K
    (try simp only [Act.put, List.setIfInBounds_toArray, List.set_cons_zero, List.set_cons_succ])
    refine wpAnyH_ready (rs := [1]) (by kernel_rfl) (by simp) ?_
    refine AllReadyH.cons (o := _) rfl (fun K hK => ?_) ?_
    · go_simp
      obtain ⟨V2, hV2⟩ : ∃ W, W = V0.alloc (.cells #[] 3) := ⟨_, rfl⟩
      obtain ⟨b2, hq2⟩ : ∃ b, b = V0.heap.size := ⟨_, rfl⟩
      rw [← hV2, ← hq2]
      have hb2 : Below V0.heap.size V0 V2 := by rw [hV2]; exact (Below.refl V0.heap.size V0).alloc (Below.refl V0.heap.size V0).size _
      have hx2 := on_cell hb2 h8
      have he2 : V2.ownsRow b2 3 1 (.slice (some ⟨b2, 0, none⟩) 0 0) 0 [] := by rw [hV2, hq2]; exact owns_empty _ _
      have hz2 : V0.heap.size ≤ b2 ∧ b2 < V2.heap.size := by rw [hV2, hq2]; exact ⟨(Below.refl V0.heap.size V0).size, by simp⟩
      clear hV2 hq2
      refine hK.out _ _ ?_ (fun hHeld => ?_)
      · trivial
      clear hK K
      (try simp only [Act.put, List.setIfInBounds_toArray, List.set_cons_zero, List.set_cons_succ])
      refine wpAnyH_ready (rs := [3]) (by kernel_rfl) (by simp) ?_
      refine AllReadyH.cons (o := _) rfl (fun K hK => ?_) ?_
      · refine step_append_any elemInt _ rfl _ _ rfl b2 _ 0 [] rfl he2 a m c (sub.map (Value.int .i64)) rfl (by rw [Hm.out]; exact Go.Proofs.Ytkejjiohkhlnnaa.source_ints (HS0.out.below hb2 (Nat.le_refl _))) (by rw [Hm.out]; simp) (ints_one _) (by unfold maxLen; omega) (by omega) (by have := hz2; omega) ?_
        intro u3 V3 hu3 hg3 ho3
        simp only [Nat.zero_add, List.nil_append] at hu3
        have hb3 : Below V0.heap.size V0 V3 := hb2.trans (grown_below hg3 (fun g e => by cases e; exact hz2.1) (Nat.le_of_lt (Nat.lt_of_le_of_lt hz2.1 hz2.2)))
        have hx3 := on_cell hb3 h8
        have hU3 : Hid (V3.ownsRow V0.heap.size 3 1 u3 m (sub.map (Value.int .i64))) := Lib.hid (owns_base hu3 hz2.1)
        obtain ⟨x3, y3, rfl⟩ := owns_shape' hu3
        clear hu3 hg3 ho3
        refine hK.out _ _ ?_ (fun hHeld => ?_)
        · trivial
        clear hK K
        (try simp only [Act.put, List.setIfInBounds_toArray, List.set_cons_zero, List.set_cons_succ])
        refine wpAnyH_ready (rs := [4]) (by kernel_rfl) (by simp) ?_
        refine AllReadyH.cons (o := _) rfl (fun K hK => ?_) ?_
        · go_simp
          obtain ⟨V4, hV4⟩ : ∃ W, W = V3.alloc (.cells #[(.slice x3 m y3)] 22) := ⟨_, rfl⟩
          obtain ⟨b4, hq4⟩ : ∃ b, b = V3.heap.size := ⟨_, rfl⟩
          rw [← hV4, ← hq4]
          have hb4 : Below V0.heap.size V0 V4 := by rw [hV4]; exact hb3.alloc hb3.size _
          have hx4 := on_cell hb4 h8
          have hU4 : Hid (V4.ownsRow V0.heap.size 3 1 (.slice x3 m y3) m (sub.map (Value.int .i64))) := Lib.hid (by rw [hV4]; exact owns_below hU3.out ((Below.refl _ _).alloc (Nat.le_refl _) _) (Nat.le_refl _))
          have src4 : Source V4 (some ⟨b4, 0, none⟩) 1 1 [(.slice x3 m y3)] := by rw [hV4, hq4]; exact source_new V3 [(.slice x3 m y3)] 22
          clear hV4 hq4
          refine hK.out _ _ ?_ (fun hHeld => ?_)
          · trivial
          clear hK K
          (try simp only [Act.put, List.setIfInBounds_toArray, List.set_cons_zero, List.set_cons_succ])
          refine wpAnyH_ready (rs := [5]) (by kernel_rfl) (by simp) ?_
          refine AllReadyH.cons (o := _) rfl (fun K hK => ?_) ?_
          · have how5 := owns_below hown hb4 (Nat.le_refl _)
            have hzz5 := hb4.size
            refine step_append_any elemInts _ rfl _ _ rfl (ob + 1) _ n hh rfl how5 (some ⟨b4, 0, none⟩) 1 1 [(.slice x3 m y3)] rfl src4 rfl (by simp [Value.oneCell']) (by unfold maxLen; omega) (by omega) (by omega) ?_
            intro w5 V5 hv5 hg5 ho5
            have hF5 : Hid (Grew ob V0 (V5.setCell ⟨ob, 0, none⟩ w5) ∧ OutV ob w5 (acc ++ [sub]) (V5.setCell ⟨ob, 0, none⟩ w5)) := Lib.hid (out_grow H0.out (by rw [← Hn.out]; exact hown) HQ20.out HQ3.out hb4 (by rw [← Hm.out]; exact hU4.out) hg5 (by rw [← Hn.out]; exact hv5) ho5)
            have hbx5 : V5.heap[ob]? = some (.cells #[.slice av n cv] 38 (0, 0)) := by rw [hg5.block ob (by omega) (fun e => by have := (Hrl.out _ e.symm).1; omega), hb4.block ob hlt0]; exact hbox0
            have hk5 : V5.cell? ⟨ob, 0, none⟩ = some (.slice av n cv) := by simp [World.cell?, hbx5]
            have hr5 : V5.frozen? ⟨ob, 0, none⟩ = false := by simp [World.frozen?, hbx5]
            obtain ⟨x5, y5, rfl⟩ := owns_shape' hv5
            clear hv5 hg5 ho5 hbx5 how5
            refine hK.out _ _ ?_ (fun hHeld => ?_)
            · trivial
            clear hK K
            (try simp only [Act.put, List.setIfInBounds_toArray, List.set_cons_zero, List.set_cons_succ])
            refine wpAnyH_ready (rs := [6]) (by kernel_rfl) (by simp) ?_
            refine AllReadyH.cons (o := _) rfl (fun K hK => ?_) ?_
            · go_simp
              refine hK.out _ _ ?_ (fun hHeld => ?_)
              · trivial
              clear hK K
              (try simp only [Act.put, List.setIfInBounds_toArray, List.set_cons_zero, List.set_cons_succ])
              refine wpAnyH_done (by kernel_rfl) ?_ _
              refine NoPanic.normal ?_
              go_wp2
              go_ret
              exact ⟨rfl, HV0.out.trans hF5.out.1, _, hF5.out.2⟩
            exact AllReadyH.nil
          exact AllReadyH.nil
        exact AllReadyH.nil
      exact AllReadyH.nil
    exact AllReadyH.nil
  refine AllReadyH.cons (o := _) rfl (fun K hK => ?_) ?_
  · go_simp
    obtain ⟨V7, hV7⟩ : ∃ W, W = V0.alloc (.cells #[] 3) := ⟨_, rfl⟩
    obtain ⟨b7, hq7⟩ : ∃ b, b = V0.heap.size := ⟨_, rfl⟩
    rw [← hV7, ← hq7]
    have hb7 : Below V0.heap.size V0 V7 := by rw [hV7]; exact (Below.refl V0.heap.size V0).alloc (Below.refl V0.heap.size V0).size _
    have hx7 := on_cell hb7 h8
    have he7 : V7.ownsRow b7 3 1 (.slice (some ⟨b7, 0, none⟩) 0 0) 0 [] := by rw [hV7, hq7]; exact owns_empty _ _
    have hz7 : V0.heap.size ≤ b7 ∧ b7 < V7.heap.size := by rw [hV7, hq7]; exact ⟨(Below.refl V0.heap.size V0).size, by simp⟩
    clear hV7 hq7
    refine hK.out _ _ ?_ (fun hHeld => ?_)
    · trivial
    clear hK K
    (try simp only [Act.put, List.setIfInBounds_toArray, List.set_cons_zero, List.set_cons_succ])
    refine wpAnyH_ready (rs := [0, 3]) (by kernel_rfl) (by simp) ?_
    refine AllReadyH.cons (o := _) rfl (fun K hK => ?_) ?_
    · go_simp
      refine hK.out _ _ ?_ (fun hHeld => ?_)
      · trivial
      clear hK K
      (try simp only [Act.put, List.setIfInBounds_toArray, List.set_cons_zero, List.set_cons_succ])
      refine wpAnyH_ready (rs := [3]) (by kernel_rfl) (by simp) ?_
      refine AllReadyH.cons (o := _) rfl (fun K hK => ?_) ?_
      · refine step_append_any elemInt _ rfl _ _ rfl b7 _ 0 [] rfl he7 a m c (sub.map (Value.int .i64)) rfl (by rw [Hm.out]; exact Go.Proofs.Ytkejjiohkhlnnaa.source_ints (HS0.out.below hb7 (Nat.le_refl _))) (by rw [Hm.out]; simp) (ints_one _) (by unfold maxLen; omega) (by omega) (by have := hz7; omega) ?_
        intro u9 V9 hu9 hg9 ho9
        simp only [Nat.zero_add, List.nil_append] at hu9
        have hb9 : Below V0.heap.size V0 V9 := hb7.trans (grown_below hg9 (fun g e => by cases e; exact hz7.1) (Nat.le_of_lt (Nat.lt_of_le_of_lt hz7.1 hz7.2)))
        have hx9 := on_cell hb9 h8
        have hU9 : Hid (V9.ownsRow V0.heap.size 3 1 u9 m (sub.map (Value.int .i64))) := Lib.hid (owns_base hu9 hz7.1)
        obtain ⟨x9, y9, rfl⟩ := owns_shape' hu9
        clear hu9 hg9 ho9
        refine hK.out _ _ ?_ (fun hHeld => ?_)
        · trivial
        clear hK K
        (try simp only [Act.put, List.setIfInBounds_toArray, List.set_cons_zero, List.set_cons_succ])
        refine wpAnyH_ready (rs := [4]) (by kernel_rfl) (by simp) ?_
        refine AllReadyH.cons (o := _) rfl (fun K hK => ?_) ?_
        · go_simp
          obtain ⟨V10, hV10⟩ : ∃ W, W = V9.alloc (.cells #[(.slice x9 m y9)] 22) := ⟨_, rfl⟩
          obtain ⟨b10, hq10⟩ : ∃ b, b = V9.heap.size := ⟨_, rfl⟩
          rw [← hV10, ← hq10]
          have hb10 : Below V0.heap.size V0 V10 := by rw [hV10]; exact hb9.alloc hb9.size _
          have hx10 := on_cell hb10 h8
          have hU10 : Hid (V10.ownsRow V0.heap.size 3 1 (.slice x9 m y9) m (sub.map (Value.int .i64))) := Lib.hid (by rw [hV10]; exact owns_below hU9.out ((Below.refl _ _).alloc (Nat.le_refl _) _) (Nat.le_refl _))
          have src10 : Source V10 (some ⟨b10, 0, none⟩) 1 1 [(.slice x9 m y9)] := by rw [hV10, hq10]; exact source_new V9 [(.slice x9 m y9)] 22
          clear hV10 hq10
          refine hK.out _ _ ?_ (fun hHeld => ?_)
          · trivial
          clear hK K
          (try simp only [Act.put, List.setIfInBounds_toArray, List.set_cons_zero, List.set_cons_succ])
          refine wpAnyH_ready (rs := [5]) (by kernel_rfl) (by simp) ?_
          refine AllReadyH.cons (o := _) rfl (fun K hK => ?_) ?_
          · have how11 := owns_below hown hb10 (Nat.le_refl _)
            have hzz11 := hb10.size
            refine step_append_any elemInts _ rfl _ _ rfl (ob + 1) _ n hh rfl how11 (some ⟨b10, 0, none⟩) 1 1 [(.slice x9 m y9)] rfl src10 rfl (by simp [Value.oneCell']) (by unfold maxLen; omega) (by omega) (by omega) ?_
            intro w11 V11 hv11 hg11 ho11
            have hF11 : Hid (Grew ob V0 (V11.setCell ⟨ob, 0, none⟩ w11) ∧ OutV ob w11 (acc ++ [sub]) (V11.setCell ⟨ob, 0, none⟩ w11)) := Lib.hid (out_grow H0.out (by rw [← Hn.out]; exact hown) HQ20.out HQ3.out hb10 (by rw [← Hm.out]; exact hU10.out) hg11 (by rw [← Hn.out]; exact hv11) ho11)
            have hbx11 : V11.heap[ob]? = some (.cells #[.slice av n cv] 38 (0, 0)) := by rw [hg11.block ob (by omega) (fun e => by have := (Hrl.out _ e.symm).1; omega), hb10.block ob hlt0]; exact hbox0
            have hk11 : V11.cell? ⟨ob, 0, none⟩ = some (.slice av n cv) := by simp [World.cell?, hbx11]
            have hr11 : V11.frozen? ⟨ob, 0, none⟩ = false := by simp [World.frozen?, hbx11]
            obtain ⟨x11, y11, rfl⟩ := owns_shape' hv11
            clear hv11 hg11 ho11 hbx11 how11
            refine hK.out _ _ ?_ (fun hHeld => ?_)
            · trivial
            clear hK K
            (try simp only [Act.put, List.setIfInBounds_toArray, List.set_cons_zero, List.set_cons_succ])
            refine wpAnyH_ready (rs := [6]) (by kernel_rfl) (by simp) ?_
            refine AllReadyH.cons (o := _) rfl (fun K hK => ?_) ?_
            · go_simp
              refine hK.out _ _ ?_ (fun hHeld => ?_)
              · trivial
              clear hK K
              (try simp only [Act.put, List.setIfInBounds_toArray, List.set_cons_zero, List.set_cons_succ])
              refine wpAnyH_done (by kernel_rfl) ?_ _
              refine NoPanic.normal ?_
              go_wp2
              go_ret
              exact ⟨rfl, HV0.out.trans hF11.out.1, _, hF11.out.2⟩
            exact AllReadyH.nil
          exact AllReadyH.nil
        exact AllReadyH.nil
      exact AllReadyH.nil
    refine AllReadyH.cons (o := _) rfl (fun K hK => ?_) ?_
    · refine step_append_any elemInt _ rfl _ _ rfl b7 _ 0 [] rfl he7 a m c (sub.map (Value.int .i64)) rfl (by rw [Hm.out]; exact Go.Proofs.Ytkejjiohkhlnnaa.source_ints (HS0.out.below hb7 (Nat.le_refl _))) (by rw [Hm.out]; simp) (ints_one _) (by unfold maxLen; omega) (by omega) (by have := hz7; omega) ?_
      intro u13 V13 hu13 hg13 ho13
      simp only [Nat.zero_add, List.nil_append] at hu13
      have hb13 : Below V0.heap.size V0 V13 := hb7.trans (grown_below hg13 (fun g e => by cases e; exact hz7.1) (Nat.le_of_lt (Nat.lt_of_le_of_lt hz7.1 hz7.2)))
      have hx13 := on_cell hb13 h8
      have hU13 : Hid (V13.ownsRow V0.heap.size 3 1 u13 m (sub.map (Value.int .i64))) := Lib.hid (owns_base hu13 hz7.1)
      obtain ⟨x13, y13, rfl⟩ := owns_shape' hu13
      clear hu13 hg13 ho13
      refine hK.out _ _ ?_ (fun hHeld => ?_)
      · trivial
      clear hK K
      (try simp only [Act.put, List.setIfInBounds_toArray, List.set_cons_zero, List.set_cons_succ])
      refine wpAnyH_ready (rs := [0, 4]) (by kernel_rfl) (by simp) ?_
      refine AllReadyH.cons (o := _) rfl (fun K hK => ?_) ?_
      · go_simp
        refine hK.out _ _ ?_ (fun hHeld => ?_)
        · trivial
        clear hK K
        (try simp only [Act.put, List.setIfInBounds_toArray, List.set_cons_zero, List.set_cons_succ])
        refine wpAnyH_ready (rs := [4]) (by kernel_rfl) (by simp) ?_
        refine AllReadyH.cons (o := _) rfl (fun K hK => ?_) ?_
        · go_simp
          obtain ⟨V15, hV15⟩ : ∃ W, W = V13.alloc (.cells #[(.slice x13 m y13)] 22) := ⟨_, rfl⟩
          obtain ⟨b15, hq15⟩ : ∃ b, b = V13.heap.size := ⟨_, rfl⟩
          rw [← hV15, ← hq15]
          have hb15 : Below V0.heap.size V0 V15 := by rw [hV15]; exact hb13.alloc hb13.size _
          have hx15 := on_cell hb15 h8
          have hU15 : Hid (V15.ownsRow V0.heap.size 3 1 (.slice x13 m y13) m (sub.map (Value.int .i64))) := Lib.hid (by rw [hV15]; exact owns_below hU13.out ((Below.refl _ _).alloc (Nat.le_refl _) _) (Nat.le_refl _))
          have src15 : Source V15 (some ⟨b15, 0, none⟩) 1 1 [(.slice x13 m y13)] := by rw [hV15, hq15]; exact source_new V13 [(.slice x13 m y13)] 22
          clear hV15 hq15
          refine hK.out _ _ ?_ (fun hHeld => ?_)
          · trivial
          clear hK K
          (try simp only [Act.put, List.setIfInBounds_toArray, List.set_cons_zero, List.set_cons_succ])
          refine wpAnyH_ready (rs := [5]) (by kernel_rfl) (by simp) ?_
          refine AllReadyH.cons (o := _) rfl (fun K hK => ?_) ?_
          · have how16 := owns_below hown hb15 (Nat.le_refl _)
            have hzz16 := hb15.size
            refine step_append_any elemInts _ rfl _ _ rfl (ob + 1) _ n hh rfl how16 (some ⟨b15, 0, none⟩) 1 1 [(.slice x13 m y13)] rfl src15 rfl (by simp [Value.oneCell']) (by unfold maxLen; omega) (by omega) (by omega) ?_
            intro w16 V16 hv16 hg16 ho16
            have hF16 : Hid (Grew ob V0 (V16.setCell ⟨ob, 0, none⟩ w16) ∧ OutV ob w16 (acc ++ [sub]) (V16.setCell ⟨ob, 0, none⟩ w16)) := Lib.hid (out_grow H0.out (by rw [← Hn.out]; exact hown) HQ20.out HQ3.out hb15 (by rw [← Hm.out]; exact hU15.out) hg16 (by rw [← Hn.out]; exact hv16) ho16)
            have hbx16 : V16.heap[ob]? = some (.cells #[.slice av n cv] 38 (0, 0)) := by rw [hg16.block ob (by omega) (fun e => by have := (Hrl.out _ e.symm).1; omega), hb15.block ob hlt0]; exact hbox0
            have hk16 : V16.cell? ⟨ob, 0, none⟩ = some (.slice av n cv) := by simp [World.cell?, hbx16]
            have hr16 : V16.frozen? ⟨ob, 0, none⟩ = false := by simp [World.frozen?, hbx16]
            obtain ⟨x16, y16, rfl⟩ := owns_shape' hv16
            clear hv16 hg16 ho16 hbx16 how16
            refine hK.out _ _ ?_ (fun hHeld => ?_)
            · trivial
            clear hK K
            (try simp only [Act.put, List.setIfInBounds_toArray, List.set_cons_zero, List.set_cons_succ])
            refine wpAnyH_ready (rs := [6]) (by kernel_rfl) (by simp) ?_
            refine AllReadyH.cons (o := _) rfl (fun K hK => ?_) ?_
            · go_simp
              refine hK.out _ _ ?_ (fun hHeld => ?_)
              · trivial
              clear hK K
              (try simp only [Act.put, List.setIfInBounds_toArray, List.set_cons_zero, List.set_cons_succ])
              refine wpAnyH_done (by kernel_rfl) ?_ _
              refine NoPanic.normal ?_
              go_wp2
              go_ret
              exact ⟨rfl, HV0.out.trans hF16.out.1, _, hF16.out.2⟩
            exact AllReadyH.nil
          exact AllReadyH.nil
        exact AllReadyH.nil
      refine AllReadyH.cons (o := _) rfl (fun K hK => ?_) ?_
      · go_simp
        obtain ⟨V18, hV18⟩ : ∃ W, W = V13.alloc (.cells #[(.slice x13 m y13)] 22) := ⟨_, rfl⟩
        obtain ⟨b18, hq18⟩ : ∃ b, b = V13.heap.size := ⟨_, rfl⟩
        rw [← hV18, ← hq18]
        have hb18 : Below V0.heap.size V0 V18 := by rw [hV18]; exact hb13.alloc hb13.size _
        have hx18 := on_cell hb18 h8
        have hU18 : Hid (V18.ownsRow V0.heap.size 3 1 (.slice x13 m y13) m (sub.map (Value.int .i64))) := Lib.hid (by rw [hV18]; exact owns_below hU13.out ((Below.refl _ _).alloc (Nat.le_refl _) _) (Nat.le_refl _))
        have src18 : Source V18 (some ⟨b18, 0, none⟩) 1 1 [(.slice x13 m y13)] := by rw [hV18, hq18]; exact source_new V13 [(.slice x13 m y13)] 22
        clear hV18 hq18
        refine hK.out _ _ ?_ (fun hHeld => ?_)
        · trivial
        clear hK K
        (try simp only [Act.put, List.setIfInBounds_toArray, List.set_cons_zero, List.set_cons_succ])
        refine wpAnyH_ready (rs := [0]) (by kernel_rfl) (by simp) ?_
        refine AllReadyH.cons (o := _) rfl (fun K hK => ?_) ?_
        · go_simp
          refine hK.out _ _ ?_ (fun hHeld => ?_)
          · trivial
          clear hK K
          (try simp only [Act.put, List.setIfInBounds_toArray, List.set_cons_zero, List.set_cons_succ])
          refine wpAnyH_ready (rs := [5]) (by kernel_rfl) (by simp) ?_
          refine AllReadyH.cons (o := _) rfl (fun K hK => ?_) ?_
          · have how20 := owns_below hown hb18 (Nat.le_refl _)
            have hzz20 := hb18.size
            refine step_append_any elemInts _ rfl _ _ rfl (ob + 1) _ n hh rfl how20 (some ⟨b18, 0, none⟩) 1 1 [(.slice x13 m y13)] rfl src18 rfl (by simp [Value.oneCell']) (by unfold maxLen; omega) (by omega) (by omega) ?_
            intro w20 V20 hv20 hg20 ho20
            have hF20 : Hid (Grew ob V0 (V20.setCell ⟨ob, 0, none⟩ w20) ∧ OutV ob w20 (acc ++ [sub]) (V20.setCell ⟨ob, 0, none⟩ w20)) := Lib.hid (out_grow H0.out (by rw [← Hn.out]; exact hown) HQ20.out HQ3.out hb18 (by rw [← Hm.out]; exact hU18.out) hg20 (by rw [← Hn.out]; exact hv20) ho20)
            have hbx20 : V20.heap[ob]? = some (.cells #[.slice av n cv] 38 (0, 0)) := by rw [hg20.block ob (by omega) (fun e => by have := (Hrl.out _ e.symm).1; omega), hb18.block ob hlt0]; exact hbox0
            have hk20 : V20.cell? ⟨ob, 0, none⟩ = some (.slice av n cv) := by simp [World.cell?, hbx20]
            have hr20 : V20.frozen? ⟨ob, 0, none⟩ = false := by simp [World.frozen?, hbx20]
            obtain ⟨x20, y20, rfl⟩ := owns_shape' hv20
            clear hv20 hg20 ho20 hbx20 how20
            refine hK.out _ _ ?_ (fun hHeld => ?_)
            · trivial
            clear hK K
            (try simp only [Act.put, List.setIfInBounds_toArray, List.set_cons_zero, List.set_cons_succ])
            refine wpAnyH_ready (rs := [6]) (by kernel_rfl) (by simp) ?_
            refine AllReadyH.cons (o := _) rfl (fun K hK => ?_) ?_
            · go_simp
              refine hK.out _ _ ?_ (fun hHeld => ?_)
              · trivial
              clear hK K
              (try simp only [Act.put, List.setIfInBounds_toArray, List.set_cons_zero, List.set_cons_succ])
              refine wpAnyH_done (by kernel_rfl) ?_ _
              refine NoPanic.normal ?_
              go_wp2
              go_ret
              exact ⟨rfl, HV0.out.trans hF20.out.1, _, hF20.out.2⟩
            exact AllReadyH.nil
          exact AllReadyH.nil
        exact AllReadyH.nil
      exact AllReadyH.nil
    exact AllReadyH.nil
  exact AllReadyH.nil
end Mt
end Go.Proofs.Ytkejjiohkhlnnaa

namespace Go.Proofs.Ytkejjiohkhlnnaa
open Go.RowKit
namespace Mt

theorem wp_range_all {P : Program} {g : Operand} {ps : Array Tmp} {assign body : Code} {Q : Exit → Act → World → Prop} {a : Act} {w : World}
    {gf : Nat} {lb : Array Value} (hg : a.eval g = .func (.func gf) #[] lb) (eg : ∀ args w, (callFunc gf args).run P w = .ok (.enter gf args) w)
    (N : Nat) (I : Nat → World → Prop) (X : Nat → Array Value → World → Prop) (Good : World → Prop)
    (hseq : ∀ (l : Nat) (J : Nat → World → Prop) (W : World), (∀ k W1 args, J k W1 → X k args W1 → k < N → YieldAt Fence.wide 0 P l args W1 fun e W' => e = .returned (.bool true) ∧ J (k + 1) W') →
      (∀ k W1 W2, J k W1 → Below W1.heap.size W1 W2 → J k W2) → (∀ k W1, J k W1 → Good W1) → J 0 W → CallsIn Fence.wide 0 P gf (#[.func (.yield l) #[] #[]] ++ lb) W fun e W' => (∃ v, e = .returned v) ∧ J N W')
    (hIb : ∀ k W W', I k W → Below W.heap.size W W' → I k W')
    (hIr : ∀ k (W : World) (l : Nat) (o o' : Obj), I k W → w.heap.size ≤ l → W.heap[l]? = some o → o.isCells = false → I k (W.putObj l o'))
    (hXr : ∀ k args (W : World) (l : Nat) (o o' : Obj), X k args W → w.heap.size ≤ l → W.heap[l]? = some o → o.isCells = false → X k args (W.putObj l o'))
    (hXs : ∀ k args W, X k args W → args.size = ps.size)
    (hIg : ∀ k W, I k W → Good W) (h0 : I 0 w) (a₁ : Array Value → Act)
    (hassign : ∀ (l : Nat) (k : Nat) (args : Array Value) (W : World) (K : Act → World → Prop), X k args W → K (a₁ args) W →
      assign.wpIn (Fence.wide.inRound l) 0 P (Exit.then K (fun _ _ _ => False)) { tmps := (ps.zip args).foldl (fun t (p, v) => t.setIfInBounds p v) a.tmps, defers := [] } W)
    (hbody : ∀ (l k : Nat) (args : Array Value) (W : World), I k W → X k args W → k < N → body.wpIn (Fence.wide.inRound l) 0 P (fun e _ W' => e = .normal ∧ KeepsOthers W W' ∧ I (k + 1) W') (a₁ args) W)
    (hdone : ∀ (D : Nat) (W : World), I N W → w.heap.size ≤ D → W.heap[D]? = some (.deferred (some [])) → Q .normal { a with defers := { target := .collected D, args := #[] } :: a.defers } W) :
    (Code.rangeFunc g ps assign body).wpIn Fence.wide 0 P Q a w := by
  refine wpIn_rangeFunc ?_
  intro fn hfn
  obtain ⟨rec, hrec⟩ : ∃ rec : LoopState → Option Code → Loop, rec = fun st pe => { state := st, pending := pe, fn, tmps := a.tmps, params := ps, assign, body, defers := w.heap.size } := ⟨_, rfl⟩
  obtain ⟨W1, hW1⟩ : ∃ W1, (w.alloc (.deferred (some []))).alloc (.loop (rec .ready none)) = W1 := ⟨_, rfl⟩
  have hL1 : W1.heap[w.heap.size + 1]? = some (.loop (rec .ready none)) := by
    rw [← hW1]; have := World.alloc_heap_new (w.alloc (.deferred (some []))) (.loop (rec .ready none)); rwa [World.size_alloc] at this
  have hK1 : W1.heap[w.heap.size]? = some (.deferred (some [])) := by
    rw [← hW1]; exact (Below.heap_alloc _ _ _ (by simp)).trans (World.alloc_heap_new w _)
  have hb1 : Below w.heap.size w W1 := by rw [← hW1]; exact ((Below.refl _ w).alloc (Nat.le_refl _) _).alloc (by simp) _
  have hI1 : I 0 W1 := hIb _ _ _ h0 hb1
  refine ⟨w.heap.size + 1, [{ target := .collected w.heap.size, args := #[] }], W1, { target := .fn (.func gf) lb, args := #[.func (.yield (w.heap.size + 1)) #[] #[]] }, W1, gf,
    #[.func (.yield (w.heap.size + 1)) #[] #[]] ++ lb, W1, ?_, ?_, fun _ _ => trivial, ?_, (fun h => by cases h), ?_⟩
  · rw [← hW1, hrec]; exact run_enterLoop_outer _ _ _ _ _
  · simp only [resolve, hg]
    simp [go_sem]
  · simp [invoke, go_sem, eg]
  · refine (hseq (w.heap.size + 1) (fun k W => I k W ∧ W.heap[w.heap.size + 1]? = some (.loop (rec .ready none)) ∧ W.heap[w.heap.size]? = some (.deferred (some [])))
      W1 ?_ (fun k A B h hb => ⟨hIb _ _ _ h.1 hb, (hb.block _ (Array.getElem?_eq_some_iff.1 h.2.1).1).trans h.2.1, (hb.block _ (Array.getElem?_eq_some_iff.1 h.2.2).1).trans h.2.2⟩) (fun k A h => hIg k A h.1) ⟨hI1, hL1, hK1⟩).mono ?_
    · rintro k W args ⟨hi, hl, hk⟩ hx hlen
      have hlt : w.heap.size + 1 < W.heap.size := (Array.getElem?_eq_some_iff.1 hl).1
      have hy := run_yield (P := P) (args := args) hl (by rw [hrec]; exact hXs _ _ _ hx)
      rw [hrec] at hy
      refine ⟨fn, _, assign, body, hy, roundIn_of_wpIn hfn (hassign _ k args W _ hx ⟨_, run_beginRound hl (by rw [hrec]), ?_⟩)⟩
      have hl2 : (W.putObj (w.heap.size + 1) (.loop { rec .ready none with state := .busy })).heap[w.heap.size + 1]? = some (.loop { rec .ready none with state := .busy }) := World.putObj_heap_same hlt
      have hk2 : (W.putObj (w.heap.size + 1) (.loop { rec .ready none with state := .busy })).heap[w.heap.size]? = some (.deferred (some [])) := (World.putObj_heap_other (by omega)).trans hk
      refine wpIn_mono (hbody _ k args _ (hIr _ _ _ _ _ hi (by omega) hl rfl) (hXr _ _ _ _ _ _ hx (by omega) hl rfl) hlen) ?_
      rintro e a3 W3 ⟨rfl, hk3, hi3⟩
      have hl3 := hk3.same _ _ hl2 rfl
      have hr := run_endRound (P := P) none hl3
      refine ⟨_, _, hr, rfl, hIr _ _ _ _ _ hi3 (by omega) hl3 rfl, ?_, ?_⟩
      · rw [hrec]; exact World.putObj_heap_same (Array.getElem?_eq_some_iff.1 hl3).1
      · exact (World.putObj_heap_other (by omega)).trans (hk3.same _ _ hk2 rfl)
    · rintro e W2 ⟨⟨v, rfl⟩, hi, hl, hk⟩
      exact ⟨none, _, by have := run_endLoop (P := P) hl (by rw [hrec]; simp); rw [hrec] at this; exact this, hdone _ _ (hIr _ _ _ _ _ hi (by omega) hl rfl) (Nat.le_refl _) ((World.putObj_heap_other (by omega)).trans hk)⟩

/-! what is walked in a function's own frame serves in a round's frame too -/
theorem rows_in {P : Program} {row : String} {args : Array Value} {w : World} {R : Value → World → Prop} {n l0 : Nat} (h : Rows P row args w R) : RowsIn (Fence.wide.inRound l0) n P row args w R := fun c cs _ => by
  obtain ⟨v, w', r, s⟩ := h c cs
  exact ⟨v, w', r, stepsIn_wide.2 s⟩
theorem wpOps_in {P : Program} {ops : Array Oper} {Q : Exit → Act → World → Prop} {l0 : Nat} (hQ : ¬ LetsOut Q) (hd : ∀ (i : Nat) (o : Oper), ops[i]? = some o → ∀ c, o.op ≠ .defer c) : ∀ (l : List Nat) (a : Act) (w : World), wpOps P ops Q l a w → wpOpsIn (Fence.wide.inRound l0) 0 P ops Q l a w := by
  intro l
  induction l with
  | nil => exact fun a w h => h
  | cons i rest ih =>
    intro a w h
    simp only [wpOps] at h
    simp only [wpOpsIn]
    cases ho : ops[i]? with
    | none =>
      rw [ho] at h
      exact ih _ _ h
    | some o =>
      rw [ho] at h
      simp only at h ⊢
      split
      · rename_i hw
        rw [if_pos hw] at h
        rcases h with h | h
        · refine ⟨fun _ _ => trivial, ?_⟩
          rw [show (Fence.wide.inRound l0).round = some l0 from rfl, Oper.semAt_some l0 _ _ (hd i o ho)]
          unfold Oper.wp at h
          generalize (execOp a.eval o).run P w = r at h ⊢
          cases r with
          | ok x w' =>
            cases x <;> simp only [Oper.upon, Oper.uponIn] at h ⊢
            all_goals first
              | exact ih _ _ h
              | exact ⟨(fun h => by cases h), rows_in (h.mono fun v w'' he => ih _ _ he)⟩
              | exact ⟨(fun h => by cases h), CallsIn.inRound l0 ((callsIn_wide (n := 0)).2 (h.mono fun e w'' he => by cases e <;> first | exact ih _ _ he | exact he))⟩
          | halt x w' => cases x <;> simp only [Oper.upon, Oper.uponIn] at h ⊢ <;> exact h
        · exact absurd h.2 hQ
      · rename_i hw
        rw [if_neg hw] at h
        exact ⟨fun _ _ => trivial, ih _ _ h⟩
/-- a region that draws its order -/
theorem region_in_draw {P : Program} {ops : Array Oper} {Q : Exit → Act → World → Prop} {S : World → Prop} {l0 id : Nat} {a : Act} {w : World} (hm : P.follows .mixedOrders = true) (hQ : ¬ LetsOut Q) (hd : ∀ (i : Nat) (o : Oper), ops[i]? = some o → ∀ c, o.op ≠ .defer c)
    (hS : S w.drew) (h : S w.drew → wpAnyH P .any ops Q S ops.size (Array.replicate ops.size false) a w.drew) : (Code.region id ops true).wpIn (Fence.wide.inRound l0) 0 P Q a w :=
  wpIn_region_draw fun t => by
    simp only [Region.schedule, hm, Bool.true_or, if_true]
    exact wpOps_in hQ hd _ _ _ (wpAny_sound ops.size t _ a _ (wpAny_of_held _ _ _ _ (h hS)))
end Mt
end Go.Proofs.Ytkejjiohkhlnnaa

namespace Go.Proofs.Ytkejjiohkhlnnaa
open Go.RowKit
namespace Mt

/-- what a call of Extend leaves -/
def ExtEndF (R : Option (List Int)) (w : World) (e : Ending) (w' : World) : Prop :=
  ∃ a c, e = .returned (.tuple #[.slice a (R.getD []).length c, .bool R.isSome]) ∧ Ints w' a (R.getD []) ∧ (∀ b o, a = some ⟨b, o, none⟩ → w.heap.size ≤ b) ∧ (a = none → c = 0) ∧ Below w.heap.size w w'
set_option maxRecDepth 8000 in
set_option maxHeartbeats 20000000 in
theorem extendF_any (pred : Int) (ap aa ab : Option Addr) (cp ca cb : Nat) (l : List (Bool × Int)) (args sub : List Int) (w : World) (hp : Slots w ap l) (ha : Ints w aa args) (hb : Ints w ab sub)
    (hl : l.length * 16 ≤ 140737488351232) (hs : sub.length * 8 ≤ 140737488351232) :
    Calls Try.prog 30 #[.agg #[.int .i64 pred, .slice ap l.length cp], .slice aa args.length ca, .slice ab sub.length cb] w (ExtEndF (extL l args sub) w) := by
  obtain ⟨i0, hi, hz0, hz1, hz2⟩ := info_parts info3
  obtain ⟨R, hR⟩ : ∃ R, extL l args sub = R := ⟨_, rfl⟩
  have HR := Lib.hid hR
  rw [hR]
  clear hR
  by_cases hle : l.length = args.length
  case neg =>
    have hRn : R = none := by rw [← HR.out]; simp [extL, hle]
    subst hRn
    clear HR hp ha hb
    have hne : (((l.length : Int)) != (args.length : Int)) = true := by simpa using (by omega : (l.length : Int) ≠ args.length)
    go_enter Try.func30, Try.ntmps30
    go_wp2
    go_ret2
    exact ⟨none, 0, rfl, .inl rfl, (fun b o e => by cases e), (fun _ => rfl), (Below.refl _ _).alloc (Nat.le_refl _) _⟩
  have hb0 : Below w.heap.size w (w.alloc (.cells #[.int .i64 pred, .slice ap l.length cp] 27)) := (Below.refl _ _).alloc (Nat.le_refl _) _
  have HP := Lib.hid (hp.below hb0 (Nat.le_refl _))
  have HA := Lib.hid (ha.below hb0)
  have HB := Lib.hid (hb.below hb0)
  have hAP := atP_new w 27 pred ap l.length cp
  obtain ⟨zs, hzs⟩ : ∃ zs, l.zip args = zs := ⟨_, rfl⟩
  have HZ := Lib.hid hzs
  have HL := Lib.hid hle
  rw [← hle]
  clear hp ha hb hzs hle
  go_enter Try.func30, Try.ntmps30
  go_wp2
  have bsz : w.heap.size < (w.alloc (.cells #[.int .i64 pred, .slice ap l.length cp] 27)).heap.size := by simp
  generalize w.alloc (.cells #[.int .i64 pred, .slice ap l.length cp] 27) = w0 at *
  generalize hbq : w.heap.size = b at *
  have HQ := Lib.hid hbq
  clear hbq
  go_loopw [8, 26] (fun mv i wr => ∃ (k m : Nat), k ≤ l.length ∧ mv = .int .i64 m ∧ i = .int .i64 k ∧ m ≤ max sub.length 16 ∧ Hid (chkL badP sub.length zs = chkL badP m (zs.drop k)) ∧ Below w0.heap.size w0 wr) (fun _ i _ => l.length - (intOf i).toNat)
  case atStart => exact ⟨0, sub.length, Nat.zero_le _, rfl, rfl, Nat.le_max_left _ _, Lib.hid rfl, Below.refl _ _⟩
  case round =>
    obtain ⟨k, m, hk, rfl, rfl, hmm, HK, bel⟩ := hrel
    by_cases hlt : k < l.length
    · obtain ⟨bp, op, rfl, v0, n0, c0, c1, HS⟩ := slots_some HP.out hlt
      obtain ⟨ba, oa, rfl, x, c2, HX⟩ := ints_some HA.out (by rw [← HL.out]; exact hlt : k < args.length)
      have hzk : zs[k]? = some ((v0, n0), x) := by rw [← HZ.out]; exact zip_at HS.out HX.out
      have HN := Lib.hid (HK.out.trans (chk_at hzk))
      clear HS HX hzk HK
      have lp := World.block_lt_of_cell? _ _ c0
      have la := World.block_lt_of_cell? _ _ c2
      simp only at lp la
      have e0 := (bel.cell (p := ⟨bp, op + k * 2, none⟩) lp).trans c0
      have e1 := (bel.cell (p := ⟨bp, op + k * 2 + 1, none⟩) lp).trans c1
      have e2 := (bel.cell (p := ⟨ba, oa + k, none⟩) la).trans c2
      have lp := Nat.lt_of_lt_of_le lp bel.size
      have la := Nat.lt_of_lt_of_le la bel.size
      clear c0 c1 c2
      by_cases h1 : n0 < 0
      · have hRn : R = none := by rw [← HR.out]; unfold extL; rw [if_pos HL.out, HZ.out, HN.out]; simp [badP, h1]
        subst hRn
        have d1 : decide (n0 < 0) = true := by simpa using h1
        clear HN HR
        go_wp2
        go_ret2
        exact ⟨none, 0, rfl, .inl rfl, (fun b o e => by cases e), (fun _ => rfl), by rw [HQ.out]; exact hb0.trans ((bel.alloc bel.size _).mono (Nat.le_of_lt bsz))⟩
      have d1 : decide (n0 < 0) = false := by simpa using h1
      by_cases h2 : x < 0
      · have hRn : R = none := by rw [← HR.out]; unfold extL; rw [if_pos HL.out, HZ.out, HN.out]; simp [badP, h1, h2]
        subst hRn
        have d2 : decide (x < 0) = true := by simpa using h2
        clear HN HR
        go_wp2
        go_ret2
        exact ⟨none, 0, rfl, .inl rfl, (fun b o e => by cases e), (fun _ => rfl), by rw [HQ.out]; exact hb0.trans ((bel.alloc bel.size _).mono (Nat.le_of_lt bsz))⟩
      have d2 : decide (x < 0) = false := by simpa using h2
      cases v0 with
      | true =>
        by_cases h3 : 16 ≤ n0
        · have hRn : R = none := by rw [← HR.out]; unfold extL; rw [if_pos HL.out, HZ.out, HN.out]; simp [badP, h1, h2, h3]
          subst hRn
          have d3 : decide ((16 : Int) ≤ n0) = true := by simpa using h3
          clear HN HR
          go_wp2
          go_ret2
          exact ⟨none, 0, rfl, .inl rfl, (fun b o e => by cases e), (fun _ => rfl), by rw [HQ.out]; exact hb0.trans ((bel.alloc bel.size _).mono (Nat.le_of_lt bsz))⟩
        have d3 : decide ((16 : Int) ≤ n0) = false := by simpa using h3
        obtain ⟨q, rfl⟩ := Int.eq_ofNat_of_zero_le (show 0 ≤ n0 by omega)
        have HN2 : Hid (chkL badP sub.length zs = chkL badP (max m (q + 1)) (zs.drop (k + 1))) := Lib.hid (by rw [HN.out]; simp [badP, h1, h2, h3])
        clear HN
        go_wp2
        go_roundw
        case rel => exact ⟨k + 1, (max m (q + 1)), by omega, by congr 1; split <;> omega, by go_num, by omega, HN2, bel.alloc bel.size _⟩
        case measure => simp [intOf]; omega
      | false =>
        have HN2 : Hid (chkL badP sub.length zs = chkL badP m (zs.drop (k + 1))) := Lib.hid (by rw [HN.out]; simp [badP, h1, h2])
        clear HN
        go_wp2
        go_roundw
        case rel => exact ⟨k + 1, m, by omega, rfl, by go_num, by omega, HN2, bel.alloc bel.size _⟩
        case measure => simp [intOf]; omega
    · have hz : zs.length = l.length := by rw [← HZ.out]; simp [HL.out]
      have HCH : Hid (chkL badP sub.length zs = some m) := Lib.hid (by
        have h1 := HK.out
        rw [List.drop_eq_nil_of_le (by omega)] at h1
        exact h1)
      have HM : Hid (rowL (baseL sub m) zs = R) := Lib.hid (by
        rw [← HR.out]; unfold extL; rw [if_pos HL.out, HZ.out, HCH.out]; rfl)
      clear HK HR hz
      go_wp2_with (at_make; refine wpList_make_full _ rfl _ _ 22 rfl w0.heap.size 3 i0 (.int .i64 0) 1 Try.underlying22 hi hz0 hz1 .i64 .i64 _ _ m rfl rfl rfl rfl (by rw [hz2]; omega) (by unfold maxLen; omega) bel.size ?_; intro w1 hown1 hgrow1; rw [made_ints] at hown1; have bel1 : Below w0.heap.size w0 w1 := bel.grown hgrow1 bel.size (fun j hj => by cases hj); clear hgrow1; generalize wr.heap.size = g at *)
      go_loopw [62] (fun i w2 => ∃ (k2 : Nat) (ys : List Int), k2 ≤ m ∧ i = .int .i64 k2 ∧ Hid (ys.length = m) ∧ Hid (∀ j, j < k2 → ys[j]? = some (boundL sub (j : Int))) ∧ w2.ownsRow w0.heap.size 3 1 (.slice (some ⟨g, 0, none⟩) m m) m (ys.map (Value.int .i64)) ∧ Below w0.heap.size w0 w2) (fun i _ => m - (intOf i).toNat)
      case atStart => exact ⟨0, _, Nat.zero_le _, rfl, Lib.hid (by simp), Lib.hid (fun j hj => by omega), hown1, bel1⟩
      case round =>
        clear bel bel1 hown1 hlt hk
        obtain ⟨k2, ys, hk2, rfl, HYL, HYS, hown, bel⟩ := hrel
        by_cases hlt2 : k2 < m
        · obtain ⟨x, hx⟩ : ∃ x, boundL sub (k2 : Int) = x := ⟨_, rfl⟩
          have cB := bound_any ab cb sub (k2 : Int) wr (HB.out.below bel) (by omega)
          rw [hx] at cB
          have HX := Lib.hid hx
          clear hx
          have hf := hown.frozenAt k2
          obtain ⟨y, hy⟩ : ∃ y, ys[k2]? = some y := ⟨_, List.getElem?_eq_getElem (by rw [HYL.out]; exact hlt2)⟩
          have hc := row_cell hown hy
          clear hy
          go_wp2_with fail
          refine cB.mono ?_
          rintro e w3 ⟨rfl, rfl⟩
          go_wp2
          go_roundw
          case rel => exact ⟨k2 + 1, ys.set k2 x, by omega, by go_num, Lib.hid (by rw [List.length_set]; exact HYL.out), Lib.hid (fun j hj => by
              rw [List.getElem?_set]
              split
              · rename_i h; subst h; rw [if_pos (by rw [HYL.out]; omega), HX.out]
              · exact HYS.out j (by omega)), by have := (hown.stored k2 (.int .i64 x)).1; rwa [← List.map_set] at this, bel.setCell (hown.lt g rfl).1 _⟩
          case measure => simp [intOf]; omega
        · have hys : ys = baseL sub m := base_done HYL.out (fun j hj => HYS.out j (by omega))
          obtain ⟨p0, p1⟩ := hAP.below bel bsz
          have HYL0 := HYL.out
          clear HYL HYS
          go_wp2
          go_loopw [75] (fun i w2 => ∃ (k3 : Nat) (ys : List Int), k3 ≤ l.length ∧ i = .int .i64 k3 ∧ Hid (ys.length = m) ∧ Hid (rowL (baseL sub m) zs = rowL ys (zs.drop k3)) ∧ w2.ownsRow w0.heap.size 3 1 (.slice (some ⟨g, 0, none⟩) m m) m (ys.map (Value.int .i64)) ∧ Below w0.heap.size w0 w2) (fun i _ => l.length - (intOf i).toNat)
          case atStart => exact ⟨0, ys, Nat.zero_le _, rfl, Lib.hid HYL0, Lib.hid (by rw [hys]; rfl), hown, bel⟩
          case round =>
            clear bel hown hys HYL0 hlt2 hk2 p0 p1
            clear ys
            obtain ⟨k3, ys, hk3, rfl, HYL, HRW, hown, bel⟩ := hrel
            by_cases hlt3 : k3 < l.length
            · obtain ⟨bp, op, rfl, v0, n0, c0, c1, HS⟩ := slots_some HP.out hlt3
              obtain ⟨ba, oa, rfl, a, c2, HX⟩ := ints_some HA.out (by rw [← HL.out]; exact hlt3 : k3 < args.length)
              have hzk : zs[k3]? = some ((v0, n0), a) := by rw [← HZ.out]; exact zip_at HS.out HX.out
              have HN := Lib.hid (HRW.out.trans (row_at hzk))
              have HIN := Lib.hid (chk_in HCH.out _ (List.mem_of_getElem? hzk))
              clear HS HX hzk HRW
              have lp := World.block_lt_of_cell? _ _ c0
              have la := World.block_lt_of_cell? _ _ c2
              simp only at lp la
              have gb := (hown.lt g rfl).1
              have gs := (hown.lt g rfl).2
              have hga : ba ≠ g := by omega
              have hgw : wr.heap.size ≠ g := by omega
              have e0 := (bel.cell (p := ⟨bp, op + k3 * 2, none⟩) lp).trans c0
              have e1 := (bel.cell (p := ⟨bp, op + k3 * 2 + 1, none⟩) lp).trans c1
              have e2 := (bel.cell (p := ⟨ba, oa + k3, none⟩) la).trans c2
              have lp := Nat.lt_of_lt_of_le lp bel.size
              have la := Nat.lt_of_lt_of_le la bel.size
              clear c0 c1 c2
              cases v0 with
              | false =>
                clear HIN
                by_cases h3 : n0 = a
                · subst h3
                  have d3 : (n0 != n0) = false := by simp
                  have HN2 : Hid (rowL (baseL sub m) zs = rowL ys (zs.drop (k3 + 1))) := Lib.hid (by rw [HN.out]; simp)
                  clear HN
                  go_wp2
                  go_quiet (fail)
                  go_wp2
                  go_roundw
                  case rel => exact ⟨k3 + 1, ys, by omega, by go_num, HYL, HN2, hown.alloc _, below_drewN (bel.alloc bel.size _) _⟩
                  case measure => simp [intOf]; omega
                · have d3 : (n0 != a) = true := by simpa using h3
                  have hRn : R = none := by rw [← HM.out, HN.out]; simp [h3]
                  subst hRn
                  clear HN HM
                  go_wp2
                  go_quiet (fail)
                  go_wp2
                  go_ret2
                  exact ⟨none, 0, rfl, .inl rfl, (fun b o e => by cases e), (fun _ => rfl), by rw [HQ.out]; exact hb0.trans ((below_drewN (bel.alloc bel.size _) _).mono (Nat.le_of_lt bsz))⟩
              | true =>
                obtain ⟨hn0, hnm⟩ := HIN.out rfl
                simp only at hn0 hnm
                obtain ⟨q, rfl⟩ := Int.eq_ofNat_of_zero_le hn0
                have hqm : q < m := by omega
                clear HIN hn0
                obtain ⟨y, hy⟩ : ∃ y, ys[q]? = some y := ⟨_, List.getElem?_eq_getElem (by rw [HYL.out]; exact hqm)⟩
                have HY : Hid (ys[q]?.getD 0 = y) := Lib.hid (by rw [hy]; rfl)
                have e3 := row_cell hown hy
                have hf := hown.frozenAt q
                have zq : (0 : Int) ≤ (q : Int) := by omega
                clear hy
                by_cases hx : 0 ≤ y
                · have d2 : decide (0 ≤ y) = true := by simpa using hx
                  by_cases hxa : y = a
                  · subst hxa
                    have d3 : (y != y) = false := by simp
                    have HN2 : Hid (rowL (baseL sub m) zs = rowL (ys.set q y) (zs.drop (k3 + 1))) := Lib.hid (by rw [HN.out]; simp [HY.out])
                    clear HN HY
                    go_wp2
                    go_quiet (fail)
                    go_wp2
                    have sz := bel.size
                    go_region_held3 (fun w' => w'.cell? ⟨wr.heap.size, 1, none⟩ = some (.int .i64 (q : Int)) ∧ w'.cell? ⟨ba, oa + k3, none⟩ = some (.int .i64 y)) (first | exact ⟨(World.cell?_setCell_far _ _ _ _ hgw.symm).trans (by go_keep), (World.cell?_setCell_far _ _ _ _ hga.symm).trans (by go_keep)⟩ | go_keep) (fail)
                    go_wp2
                    go_roundw
                    case rel => exact ⟨k3 + 1, ys.set q y, by omega, by go_num, Lib.hid (by rw [List.length_set]; exact HYL.out), HN2, by
                        have := ((hown.alloc (.cells #[.bool true, .int .i64 (q : Int)] 58)).stored q (.int .i64 y)).1
                        rw [← List.map_set] at this
                        exact this, ((below_drewN (bel.alloc bel.size _) (nq + 1)).setCell (by exact gb) _)⟩
                    case measure => simp [intOf]; omega
                  · have d3 : (y != a) = true := by simpa using hxa
                    have hRn : R = none := by rw [← HM.out, HN.out]; simp [HY.out, hx, hxa]
                    subst hRn
                    clear HN HM HY
                    go_wp2
                    go_quiet (fail)
                    go_wp2
                    go_ret2
                    exact ⟨none, 0, rfl, .inl rfl, (fun b o e => by cases e), (fun _ => rfl), by rw [HQ.out]; exact hb0.trans ((below_drewN (bel.alloc bel.size _) _).mono (Nat.le_of_lt bsz))⟩
                · have d2 : decide (0 ≤ y) = false := by simpa using hx
                  have HN2 : Hid (rowL (baseL sub m) zs = rowL (ys.set q a) (zs.drop (k3 + 1))) := Lib.hid (by rw [HN.out]; simp [HY.out, hx])
                  clear HN HY
                  go_wp2
                  go_quiet (fail)
                  go_wp2
                  have sz := bel.size
                  go_region_held3 (fun w' => w'.cell? ⟨wr.heap.size, 1, none⟩ = some (.int .i64 (q : Int)) ∧ w'.cell? ⟨ba, oa + k3, none⟩ = some (.int .i64 a)) (first | exact ⟨(World.cell?_setCell_far _ _ _ _ hgw.symm).trans (by go_keep), (World.cell?_setCell_far _ _ _ _ hga.symm).trans (by go_keep)⟩ | go_keep) (fail)
                  go_wp2
                  go_roundw
                  case rel => exact ⟨k3 + 1, ys.set q a, by omega, by go_num, Lib.hid (by rw [List.length_set]; exact HYL.out), HN2, by
                      have := ((hown.alloc (.cells #[.bool true, .int .i64 (q : Int)] 58)).stored q (.int .i64 a)).1
                      rw [← List.map_set] at this
                      exact this, ((below_drewN (bel.alloc bel.size _) (nq + 1)).setCell (by exact gb) _)⟩
                  case measure => simp [intOf]; omega
            · have hz : zs.length = l.length := by rw [← HZ.out]; simp [HL.out]
              have hRs : R = some ys := by
                rw [← HM.out, HRW.out, List.drop_eq_nil_of_le (by omega)]; rfl
              subst hRs
              clear HRW HM
              go_wp2
              go_ret2
              have hYL := HYL.out
              subst hYL
              exact ⟨_, _, rfl, .inr ⟨g, 0, rfl, fun i hi => by rw [Nat.zero_add]; exact row_cell hown (List.getElem?_eq_getElem hi)⟩, (fun b o e => by cases e; have h1 := (hown.lt g rfl).1; have h2 := hb0.size; have h3 := HQ.out; omega), (fun e => by cases e), by rw [HQ.out]; exact hb0.trans (bel.mono (Nat.le_of_lt bsz))⟩
end Mt
end Go.Proofs.Ytkejjiohkhlnnaa

namespace Go.Proofs.Ytkejjiohkhlnnaa
open Go.RowKit
namespace Mt

/-- the first place of a pattern whose id is known, and that id -/
def narrowL (sub : List Int) : List Sl → Nat → Option (Nat × Int)
  | [], _ => none
  | s :: r, i => if 0 ≤ valueL s.1 s.2 sub then some (i, valueL s.1 s.2 sub) else narrowL sub r (i + 1)
theorem narrowL_at {sub : List Int} {l : List Sl} {k i : Nat} {s : Sl} (h : l[k]? = some s) : narrowL sub (l.drop k) i = if 0 ≤ valueL s.1 s.2 sub then some (i, valueL s.1 s.2 sub) else narrowL sub (l.drop (k + 1)) (i + 1) := by
  rw [drop_at h]; rfl
/-- the numbers of the rows that a pattern is held against -/
noncomputable def numsL (rows : List Row) (p : Pat) (sub : List Int) : List Int :=
  match narrowL sub p.2 0 with
  | some (i, x) => whK rows (placeV p.1 i x)
  | none => ofK rows (.int .i64 p.1)
/-- a condition of a rule -/
inductive Cd
  | pos (p : Pat)
  | tst (t : Tst)
  | neg (p : Pat)
def condsL (r : RuleV) : List Cd := r.pos.map .pos ++ r.tests.map .tst ++ r.neg.map .neg
/-- the substitutions that a pattern makes out of one -/
noncomputable def stepL (rows : List Row) (p : Pat) (sub : List Int) : List (List Int) :=
  (numsL rows p sub).filterMap fun n => (rows[n.toNat]?).bind fun r => extL p.2 r.2 sub
/-- what a search finds below a substitution -/
noncomputable def resL (rows : List Row) (cs : List C3) : List Cd → List Int → List (List Int)
  | [], sub => [sub]
  | .pos p :: r, sub => (stepL rows p sub).flatMap (resL rows cs r)
  | .tst t :: r, sub => if (holdsR cs t.1 (valueL t.2.1.1 t.2.1.2 sub) (valueL t.2.2.1 t.2.2.2 sub)).1 = true then resL rows cs r sub else []
  | .neg p :: r, sub => match groundL sub p.2 with
    | none => []
    | some xs => if 0 ≤ numI rows (p.1, xs) then [] else resL rows cs r sub

/-- what rows leaves -/
def RowsQ (qb : Nat) (nums : List Int) (w : World) (e : Ending) (w' : World) : Prop :=
  ∃ nb q3 na nc, e = .returned (.func (.func 85) #[] #[.pointer (some ⟨nb, 0, none⟩), .pointer (some ⟨q3, 0, none⟩)]) ∧ Below w.heap.size w w' ∧ w.heap.size ≤ nb ∧ w.heap.size ≤ q3 ∧
    w'.cell? ⟨nb, 0, none⟩ = some (.slice na nums.length nc) ∧ w'.cell? ⟨q3, 0, none⟩ = some (.pointer (some ⟨qb, 0, none⟩)) ∧ IntsZ (fun j => w.heap.size ≤ j) w' na nc nums
theorem rows_fin {w wv V : World} {qb nb b3 : Nat} {na : Option Addr} {nc : Nat} {xs : List Int} (hb : Below w.heap.size w wv) (hV : Below wv.heap.size wv V) (hn : V.heap[nb]? = some (.cells #[.slice none 0 0] 22 (0, 0))) (h3 : V.cell? ⟨b3, 0, none⟩ = some (.pointer (some ⟨qb, 0, none⟩)))
    (hI : IntsZ (fun j => wv.heap.size ≤ j) V na nc xs) (hk : w.heap.size ≤ nb ∧ w.heap.size ≤ b3 ∧ nb ≠ b3 ∧ nb < wv.heap.size) :
    RowsQ qb xs w (.returned (.func (.func 85) #[] #[.pointer (some ⟨nb, 0, none⟩), .pointer (some ⟨b3, 0, none⟩)])) (V.setCell ⟨nb, 0, none⟩ (.slice na xs.length nc)) := by
  obtain ⟨k1, k2, k3, k4⟩ := hk
  have hsz := hb.size
  have hbox : (V.setCell ⟨nb, 0, none⟩ (.slice na xs.length nc)).heap[nb]? = some (.cells #[.slice na xs.length nc] 22 (0, 0)) := heap_setCell (j := 0) hn _
  refine ⟨nb, b3, na, nc, rfl, (hb.trans (hV.mono hsz)).setCell (p := ⟨nb, 0, none⟩) k1 _, k1, k2, by simp [World.cell?, hbox], (World.cell?_setCell_far _ _ _ _ k3).trans h3, hI.keep (fun j hj hz => Below.heap_setCell _ _ _ _ (fun e => ?_)) (fun j hj hz => Nat.le_trans hsz hz)⟩
  have e : j = nb := e
  omega
theorem valueL_rng {v : Bool} {n : Int} {sub : List Int} (hn : Rng n) (hs : ∀ x ∈ sub, Rng x) : Rng (valueL v n sub) := by
  unfold valueL
  split
  · exact ⟨by decide, by decide⟩
  · split
    · unfold boundL
      split
      · exact ⟨by decide, by decide⟩
      · split
        · exact ⟨by decide, by decide⟩
        · rename_i x hx
          split
          · exact ⟨by decide, by decide⟩
          · exact hs x (List.mem_of_getElem? hx)
    · exact hn
section
variable {s sb qb : Nat} {σ : St} {h : Hd} {τ : Own} {w : World}
set_option maxHeartbeats 8000000 in
set_option maxRecDepth 8000 in
theorem rows_any (hs : StoreAt s sb σ h τ w) (hq : w.cell? ⟨qb, 0, none⟩ = some (.pointer (some ⟨sb, 0, none⟩))) (p : Int) (sa aa : Option Addr) (sc ca : Nat) (l : List Sl) (sub : List Int) (hl : Slots w sa l) (hsub : Ints w aa sub) (hl8 : l.length ≤ 8) (hs8 : sub.length ≤ 1000000) (hp : Rng p) (hsr : ∀ x ∈ sub, Rng x) (hlr : ∀ x ∈ l, Rng x.2) (hr : σ.rows.length ≤ 1000000000000) :
    Calls Try.prog 72 #[.pointer (some ⟨qb, 0, none⟩), .agg #[.int .i64 p, .slice sa l.length sc], .slice aa sub.length ca] w (RowsQ qb (numsL σ.rows (p, l) sub) w) := by
  have HS := Lib.hid hs
  have HL := Lib.hid hl
  have HB := Lib.hid hsub
  have Hr := Lib.hid hr
  have Hp := Lib.hid hp
  have Hsr := Lib.hid hsr
  have Hlr := Lib.hid hlr
  obtain ⟨NL, hNL⟩ : ∃ x, numsL σ.rows (p, l) sub = x := ⟨_, rfl⟩
  rw [hNL]
  have HNL := Lib.hid hNL
  clear hs hl hsub hr hp hsr hlr hNL
  go_enter Try.func72, Try.ntmps72
  obtain ⟨b3, h3⟩ : ∃ b, b = w.heap.size := ⟨_, rfl⟩
  obtain ⟨b4, h4⟩ : ∃ b, b = w.heap.size + 1 := ⟨_, rfl⟩
  obtain ⟨nb, h5⟩ : ∃ b, b = w.heap.size + 1 + 1 := ⟨_, rfl⟩
  obtain ⟨W0, hW0⟩ : ∃ W, W = (((w.alloc (.cells #[.pointer (some ⟨qb, 0, none⟩)] 94)).alloc (.cells #[.int .i64 p, .slice sa l.length sc] 27)).alloc (.cells #[.slice none 0 0] 22)) := ⟨_, rfl⟩
  have hqlt : qb < w.heap.size := World.block_lt_of_cell? _ _ hq
  have hb0 : Below w.heap.size w W0 := by rw [hW0]; exact (((Below.refl _ _).alloc (Nat.le_refl _) _).alloc (by simp) _).alloc (by simp; omega) _
  have hsz0 : W0.heap.size = w.heap.size + 3 := by rw [hW0]; simp
  have hblk : W0.heap[b3]? = some (.cells #[.pointer (some ⟨qb, 0, none⟩)] 94 (0, 0)) ∧ W0.heap[b4]? = some (.cells #[.int .i64 p, .slice sa l.length sc] 27 (0, 0)) ∧ W0.heap[nb]? = some (.cells #[.slice none 0 0] 22 (0, 0)) := by
    rw [hW0, h3, h4, h5]
    refine ⟨?_, ?_, ?_⟩
    · exact (Below.heap_alloc _ _ _ (by simp; omega)).trans ((Below.heap_alloc _ _ _ (by simp)).trans (MapKept.heap_alloc _ _).1)
    · exact (Below.heap_alloc _ _ _ (by simp)).trans (by have := (MapKept.heap_alloc (w.alloc (.cells #[.pointer (some ⟨qb, 0, none⟩)] 94)) (.cells #[.int .i64 p, .slice sa l.length sc] 27)).1; simpa using this)
    · have := (MapKept.heap_alloc ((w.alloc (.cells #[.pointer (some ⟨qb, 0, none⟩)] 94)).alloc (.cells #[.int .i64 p, .slice sa l.length sc] 27)) (.cells #[.slice none 0 0] 22)).1
      simpa using this
  have Hblk := Lib.hid hblk
  have y3 : W0.cell? ⟨b3, 0, none⟩ = some (.pointer (some ⟨qb, 0, none⟩)) := by simp [World.cell?, hblk.1]
  have y4 : W0.cell? ⟨b4, 0, none⟩ = some (.int .i64 p) := by simp [World.cell?, hblk.2.1]
  have y5 : W0.cell? ⟨b4, 1, none⟩ = some (.slice sa l.length sc) := by simp [World.cell?, hblk.2.1]
  have yq := on_cell hb0 hq
  have f3 : b3 ≠ nb := by omega
  have f4 : b4 ≠ nb := by omega
  have fq : qb ≠ nb := by omega
  have HK : Hid (w.heap.size ≤ nb ∧ w.heap.size ≤ b3 ∧ nb ≠ b3 ∧ nb < W0.heap.size) := Lib.hid ⟨by omega, by omega, by omega, by omega⟩
  have H3 := Lib.hid h3
  have H4 := Lib.hid h4
  have H5 := Lib.hid h5
  have HW0 := Lib.hid hW0
  have HL0 := Lib.hid (HL.out.below hb0 (Nat.le_refl _))
  obtain ⟨L, hLl⟩ : ∃ n, n = l.length := ⟨_, rfl⟩
  have HLl := Lib.hid hLl
  go_upto_region 3 with fail
  rw [← HW0.out, ← H5.out, ← H4.out, ← H3.out]
  rw [← hLl] at hl8 y5 ⊢
  clear h3 h4 h5 hW0 hblk hsz0 hq hqlt hLl
  go_wp2_with fail
  go_loopw [8, 15] (fun t8 i wr => ∃ k : Nat, k ≤ L ∧ t8 = .bool false ∧ i = .int .i64 k ∧ Below W0.heap.size W0 wr ∧ Hid (narrowL sub l 0 = narrowL sub (l.drop k) k)) (fun _ i _ => L - (intOf i).toNat)
  case atStart => exact ⟨0, Nat.zero_le _, rfl, rfl, Below.refl _ _, Lib.hid rfl⟩
  case round =>
    obtain ⟨k, hk, rfl, rfl, hbel, HN⟩ := hrel
    have hbw : Below w.heap.size w wr := hb0.trans (hbel.mono hb0.size)
    have y3 := on_cell hbel y3
    have y4 := on_cell hbel y4
    have y5 := on_cell hbel y5
    have yq := on_cell hbel yq
    by_cases hlt : k < L
    · rcases HL0.out with h | ⟨bp, op, rfl, hp⟩
      · rw [HLl.out, h] at hlt; simp at hlt
      · obtain ⟨v0, n0, c0, c1, HQ⟩ := slots_at hp (k := k) (by rw [← HLl.out]; exact hlt)
        have c0 := on_cell hbel c0
        have c1 := on_cell hbel c1
        obtain ⟨x, hx⟩ : ∃ x, x = valueL v0 n0 sub := ⟨_, rfl⟩
        have hxr : Rng x := by rw [hx]; exact valueL_rng (Hlr.out _ (List.mem_of_getElem? HQ.out)) Hsr.out
        have HN2 : Hid (narrowL sub l 0 = if 0 ≤ x then some (k, x) else narrowL sub (l.drop (k + 1)) (k + 1)) := Lib.hid (by rw [HN.out, narrowL_at HQ.out, hx])
        have cV := Lib.hid (value_any aa ca sub v0 n0 (wr.alloc (.cells #[.bool v0, .int .i64 n0] 58)) (HB.out.below (hbw.alloc hbw.size _)) (by omega))
        rw [← hx] at cV
        have Hxr := Lib.hid hxr
        clear hp HN HQ hx hxr
        go_upto_region 6 with fail
        obtain ⟨W1, hW1⟩ : ∃ W, W = wr.alloc (.cells #[.bool v0, .int .i64 n0] 58) := ⟨_, rfl⟩
        obtain ⟨b6, hb6⟩ : ∃ b, b = wr.heap.size := ⟨_, rfl⟩
        have z0 : W1.cell? ⟨b6, 0, none⟩ = some (.bool v0) := by rw [hW1, hb6]; simp
        have z1 : W1.cell? ⟨b6, 1, none⟩ = some (.int .i64 n0) := by rw [hW1, hb6]; simp
        have hb1 : Below wr.heap.size wr W1 := by rw [hW1]; exact (Below.refl _ _).alloc (Nat.le_refl _) _
        rw [← hW1] at cV
        rw [← hW1, ← hb6]
        clear hW1 hb6 c0 c1
        go_upto_region 7 with (first | (go_at_call 62; (with_reducible refine cV.out.mono ?_); rintro e wv ⟨rfl, hbv⟩))
        have hbv : Below wr.heap.size wr wv := hb1.trans (hbv.mono hb1.size)
        have y3 := on_cell hbv y3
        have y4 := on_cell hbv y4
        have yq := on_cell hbv yq
        have hbw0 : Below w.heap.size w wv := hbw.trans (hbv.mono hbw.size)
        have hbW : Below W0.heap.size W0 wv := hbel.trans (hbv.mono hbel.size)
        have hnb : wv.heap[nb]? = some (.cells #[.slice none 0 0] 22 (0, 0)) := (hbW.block nb HK.out.2.2.2).trans Hblk.out.2.2
        have Hb : Hid (w.heap.size ≤ nb ∧ w.heap.size ≤ b3 ∧ nb ≠ b3 ∧ nb < wv.heap.size) := Lib.hid ⟨HK.out.1, HK.out.2.1, HK.out.2.2.1, Nat.lt_of_lt_of_le HK.out.2.2.2 hbW.size⟩
        clear hbv hb1 z0 z1 cV y5 hbw hbel
        by_cases hx0 : 0 ≤ x
        · have hnum : NL = whK σ.rows (placeV p k x) := by
            rw [← HNL.out]
            unfold numsL
            rw [HN2.out, if_pos hx0]
          have cW := Lib.hid (where_any (HS.out.below (hbw0.drew)) p k x Hp.out ⟨by omega, by omega⟩ Hxr.out Hr.out)
          rw [← hnum] at cW
          clear hnum HN2 hbW
          go_upto_region 8 with fail
          have hbw0 := hbw0.drew
          have hnb : wv.drew.heap[nb]? = some (.cells #[.slice none 0 0] 22 (0, 0)) := hnb
          refine wp_region_noPanic ?_
          refine wp_region_held_drew (S := (fun w' => w'.cell? ⟨b3, 0, none⟩ = some (.pointer (some ⟨qb, 0, none⟩)) ∧ w'.cell? ⟨qb, 0, none⟩ = some (.pointer (some ⟨sb, 0, none⟩)) ∧ w'.cell? ⟨b4, 0, none⟩ = some (.int .i64 p))) (by kernel_rfl) ?_ (fun hHeld => ?_)
          · exact ⟨y3, yq, y4⟩
          refine wpAnyH_take (i := 0) (oi := ⟨some 25, _, _, _, _, _⟩) (v := ?_) rfl (by kernel_rfl) (by kernel_rfl) (by kernel_rfl) (fun _ _ _ h => h) (Or.inl ⟨by rfl, ?_⟩) (by assumption) ?_
          rotate_left 1
          · intro w hSw
            (try dsimp only at hSw)
            go_simp
            all_goals with_reducible rfl
          (try simp only [Act.put, List.setIfInBounds_toArray, List.set_cons_zero, List.set_cons_succ])
          refine wpAnyH_take (i := 1) (oi := ⟨some 26, _, _, _, _, _⟩) (v := ?_) rfl (by kernel_rfl) (by kernel_rfl) (by kernel_rfl) (fun _ _ _ h => h) (Or.inl ⟨by rfl, ?_⟩) (by assumption) ?_
          rotate_left 1
          · intro w hSw
            (try dsimp only at hSw)
            go_simp
            all_goals with_reducible rfl
          (try simp only [Act.put, List.setIfInBounds_toArray, List.set_cons_zero, List.set_cons_succ])
          refine wpAnyH_take (i := 2) (oi := ⟨some 27, _, _, _, _, _⟩) (v := ?_) rfl (by kernel_rfl) (by kernel_rfl) (by kernel_rfl) (fun _ _ _ h => h) (Or.inl ⟨by rfl, ?_⟩) (by assumption) ?_
          rotate_left 1
          · intro w hSw
            (try dsimp only at hSw)
            go_simp
            all_goals with_reducible rfl
          (try simp only [Act.put, List.setIfInBounds_toArray, List.set_cons_zero, List.set_cons_succ])
          refine wpAnyH_take (i := 3) (oi := ⟨some 28, _, _, _, _, _⟩) (v := ?_) rfl (by kernel_rfl) (by kernel_rfl) (by kernel_rfl) (fun _ _ _ h => h) (Or.inl ⟨by rfl, ?_⟩) (by assumption) ?_
          rotate_left 1
          · intro w hSw
            (try dsimp only at hSw)
            go_simp
            all_goals with_reducible rfl
          (try simp only [Act.put, List.setIfInBounds_toArray, List.set_cons_zero, List.set_cons_succ])
          refine wpAnyH_take (i := 4) (oi := ⟨some 29, _, _, _, _, _⟩) (v := ?_) rfl (by kernel_rfl) (by kernel_rfl) (by kernel_rfl) (fun _ _ _ h => h) (Or.inl ⟨by rfl, ?_⟩) (by assumption) ?_
          rotate_left 1
          · intro w hSw
            (try dsimp only at hSw)
            go_simp
            all_goals with_reducible rfl
          (try simp only [Act.put, List.setIfInBounds_toArray, List.set_cons_zero, List.set_cons_succ])
          refine wpAnyH_take (i := 5) (oi := ⟨some 30, _, _, _, _, _⟩) (v := ?_) rfl (by kernel_rfl) (by kernel_rfl) (by kernel_rfl) (fun _ _ _ h => h) (Or.inl ⟨by rfl, ?_⟩) (by assumption) ?_
          rotate_left 1
          · intro w hSw
            (try dsimp only at hSw)
            go_simp
            all_goals with_reducible rfl
          (try simp only [Act.put, List.setIfInBounds_toArray, List.set_cons_zero, List.set_cons_succ])
          refine wpAnyH_take (i := 6) (oi := ⟨some 31, _, _, _, _, _⟩) (v := ?_) rfl (by kernel_rfl) (by kernel_rfl) (by kernel_rfl) (fun _ _ _ h => h) (Or.inl ⟨by rfl, ?_⟩) (by assumption) ?_
          rotate_left 1
          · intro w hSw
            (try dsimp only at hSw)
            go_simp
            all_goals with_reducible rfl
          (try simp only [Act.put, List.setIfInBounds_toArray, List.set_cons_zero, List.set_cons_succ])
          refine wpAnyH_take (i := 7) (oi := ⟨some 32, _, _, _, _, _⟩) (v := ?_) rfl (by kernel_rfl) (by kernel_rfl) (by kernel_rfl) (fun _ _ _ h => h) (Or.inl ⟨by rfl, ?_⟩) (by assumption) ?_
          rotate_left 1
          · intro w hSw
            (try dsimp only at hSw)
            go_simp
            all_goals with_reducible rfl
          (try simp only [Act.put, List.setIfInBounds_toArray, List.set_cons_zero, List.set_cons_succ])
          refine wpAnyH_ready (rs := [8]) (by kernel_rfl) (by simp) ?_
          refine AllReadyH.cons (o := _) rfl (fun K hK => ?_) ?_
          · go_simp
            refine cW.out.mono ?_
            rintro e V ⟨na, nc, rfl, hI, hbV⟩
            have hS : V.cell? ⟨b3, 0, none⟩ = some (.pointer (some ⟨qb, 0, none⟩)) ∧ V.cell? ⟨qb, 0, none⟩ = some (.pointer (some ⟨sb, 0, none⟩)) ∧ V.cell? ⟨b4, 0, none⟩ = some (.int .i64 p) := ⟨on_cell hbV y3, on_cell hbV yq, on_cell hbV y4⟩
            have hnV : V.heap[nb]? = some (.cells #[.slice none 0 0] 22 (0, 0)) := (hbV.block nb (Array.getElem?_eq_some_iff.1 hnb).1).trans hnb
            have hnc : V.cell? ⟨nb, 0, none⟩ = some (.slice none 0 0) := by simp [World.cell?, hnV]
            have hnf : V.frozen? ⟨nb, 0, none⟩ = false := by simp [World.frozen?, hnV]
            have hFin : Hid (∀ v, v = Value.slice na NL.length nc → RowsQ qb NL w (.returned (.func (.func 85) #[] #[.pointer (some ⟨nb, 0, none⟩), .pointer (some ⟨b3, 0, none⟩)])) (V.setCell ⟨nb, 0, none⟩ v)) := Lib.hid (fun v hv => by subst hv; exact rows_fin hbw0 hbV hnV hS.1 hI Hb.out)
            clear hbV hnV hI
            refine hK.out _ _ ?_ (fun hHeld => ?_)
            · exact hS
            clear hK K
            (try simp only [Act.put, List.setIfInBounds_toArray, List.set_cons_zero, List.set_cons_succ])
            refine wpAnyH_ready (rs := [9]) (by kernel_rfl) (by simp) ?_
            refine AllReadyH.cons (o := _) rfl (fun K hK => ?_) ?_
            · go_simp
              refine hK.out _ _ ?_ (fun hHeld => ?_)
              · exact ⟨(World.cell?_setCell_far _ _ _ _ (Ne.symm f3)).trans hS.1, (World.cell?_setCell_far _ _ _ _ (Ne.symm fq)).trans hS.2.1, (World.cell?_setCell_far _ _ _ _ (Ne.symm f4)).trans hS.2.2⟩
              clear hK K
              (try simp only [Act.put, List.setIfInBounds_toArray, List.set_cons_zero, List.set_cons_succ])
              refine wpAnyH_done (by kernel_rfl) ?_ _
              refine NoPanic.normal ?_
              go_wp2
              go_ret
              exact hFin.out _ rfl
            exact AllReadyH.nil
          exact AllReadyH.nil
        · have HN3 : Hid (narrowL sub l 0 = narrowL sub (l.drop (k + 1)) (k + 1)) := Lib.hid (by rw [HN2.out, if_neg hx0])
          clear HN2 hnb Hb y3 y4 yq
          go_wp2_with fail
          go_roundw
          case rel => exact ⟨k + 1, by omega, rfl, by go_num, hbW, HN3⟩
          case measure => simp [intOf]; omega
    · have hnum : NL = ofK σ.rows (.int .i64 p) := by
        rw [← HNL.out]
        unfold numsL
        have := HN.out
        rw [List.drop_of_length_le (by rw [← HLl.out]; omega)] at this
        rw [this]
        rfl
      have hnb : wr.heap[nb]? = some (.cells #[.slice none 0 0] 22 (0, 0)) := (hbel.block nb HK.out.2.2.2).trans Hblk.out.2.2
      have Hb : Hid (w.heap.size ≤ nb ∧ w.heap.size ≤ b3 ∧ nb ≠ b3 ∧ nb < wr.heap.size) := Lib.hid ⟨HK.out.1, HK.out.2.1, HK.out.2.2.1, Nat.lt_of_lt_of_le HK.out.2.2.2 hbel.size⟩
      have cW := Lib.hid (of_any (HS.out.below (hbw.drew)) p Hp.out Hr.out)
      rw [← hnum] at cW
      clear hnum HN hbel
      go_upto_region 12 with fail
      have hbw0 := hbw.drew
      have hnb : wr.drew.heap[nb]? = some (.cells #[.slice none 0 0] 22 (0, 0)) := hnb
      refine wp_region_noPanic ?_
      refine wp_region_held_drew (S := (fun w' => w'.cell? ⟨b3, 0, none⟩ = some (.pointer (some ⟨qb, 0, none⟩)) ∧ w'.cell? ⟨qb, 0, none⟩ = some (.pointer (some ⟨sb, 0, none⟩)) ∧ w'.cell? ⟨b4, 0, none⟩ = some (.int .i64 p))) (by kernel_rfl) ?_ (fun hHeld => ?_)
      · exact ⟨y3, yq, y4⟩
      refine wpAnyH_take (i := 0) (oi := ⟨some 37, _, _, _, _, _⟩) (v := ?_) rfl (by kernel_rfl) (by kernel_rfl) (by kernel_rfl) (fun _ _ _ h => h) (Or.inl ⟨by rfl, ?_⟩) (by assumption) ?_
      rotate_left 1
      · intro w hSw
        (try dsimp only at hSw)
        go_simp
        all_goals with_reducible rfl
      (try simp only [Act.put, List.setIfInBounds_toArray, List.set_cons_zero, List.set_cons_succ])
      refine wpAnyH_take (i := 1) (oi := ⟨some 38, _, _, _, _, _⟩) (v := ?_) rfl (by kernel_rfl) (by kernel_rfl) (by kernel_rfl) (fun _ _ _ h => h) (Or.inl ⟨by rfl, ?_⟩) (by assumption) ?_
      rotate_left 1
      · intro w hSw
        (try dsimp only at hSw)
        go_simp
        all_goals with_reducible rfl
      (try simp only [Act.put, List.setIfInBounds_toArray, List.set_cons_zero, List.set_cons_succ])
      refine wpAnyH_take (i := 2) (oi := ⟨some 39, _, _, _, _, _⟩) (v := ?_) rfl (by kernel_rfl) (by kernel_rfl) (by kernel_rfl) (fun _ _ _ h => h) (Or.inl ⟨by rfl, ?_⟩) (by assumption) ?_
      rotate_left 1
      · intro w hSw
        (try dsimp only at hSw)
        go_simp
        all_goals with_reducible rfl
      (try simp only [Act.put, List.setIfInBounds_toArray, List.set_cons_zero, List.set_cons_succ])
      refine wpAnyH_take (i := 3) (oi := ⟨some 40, _, _, _, _, _⟩) (v := ?_) rfl (by kernel_rfl) (by kernel_rfl) (by kernel_rfl) (fun _ _ _ h => h) (Or.inl ⟨by rfl, ?_⟩) (by assumption) ?_
      rotate_left 1
      · intro w hSw
        (try dsimp only at hSw)
        go_simp
        all_goals with_reducible rfl
      (try simp only [Act.put, List.setIfInBounds_toArray, List.set_cons_zero, List.set_cons_succ])
      refine wpAnyH_take (i := 4) (oi := ⟨some 41, _, _, _, _, _⟩) (v := ?_) rfl (by kernel_rfl) (by kernel_rfl) (by kernel_rfl) (fun _ _ _ h => h) (Or.inl ⟨by rfl, ?_⟩) (by assumption) ?_
      rotate_left 1
      · intro w hSw
        (try dsimp only at hSw)
        go_simp
        all_goals with_reducible rfl
      (try simp only [Act.put, List.setIfInBounds_toArray, List.set_cons_zero, List.set_cons_succ])
      refine wpAnyH_take (i := 5) (oi := ⟨some 42, _, _, _, _, _⟩) (v := ?_) rfl (by kernel_rfl) (by kernel_rfl) (by kernel_rfl) (fun _ _ _ h => h) (Or.inl ⟨by rfl, ?_⟩) (by assumption) ?_
      rotate_left 1
      · intro w hSw
        (try dsimp only at hSw)
        go_simp
        all_goals with_reducible rfl
      (try simp only [Act.put, List.setIfInBounds_toArray, List.set_cons_zero, List.set_cons_succ])
      refine wpAnyH_ready (rs := [6]) (by kernel_rfl) (by simp) ?_
      refine AllReadyH.cons (o := _) rfl (fun K hK => ?_) ?_
      · go_simp
        refine cW.out.mono ?_
        rintro e V ⟨na, nc, rfl, hI, hbV⟩
        have hS : V.cell? ⟨b3, 0, none⟩ = some (.pointer (some ⟨qb, 0, none⟩)) ∧ V.cell? ⟨qb, 0, none⟩ = some (.pointer (some ⟨sb, 0, none⟩)) ∧ V.cell? ⟨b4, 0, none⟩ = some (.int .i64 p) := ⟨on_cell hbV y3, on_cell hbV yq, on_cell hbV y4⟩
        have hnV : V.heap[nb]? = some (.cells #[.slice none 0 0] 22 (0, 0)) := (hbV.block nb (Array.getElem?_eq_some_iff.1 hnb).1).trans hnb
        have hnc : V.cell? ⟨nb, 0, none⟩ = some (.slice none 0 0) := by simp [World.cell?, hnV]
        have hnf : V.frozen? ⟨nb, 0, none⟩ = false := by simp [World.frozen?, hnV]
        have hFin : Hid (∀ v, v = Value.slice na NL.length nc → RowsQ qb NL w (.returned (.func (.func 85) #[] #[.pointer (some ⟨nb, 0, none⟩), .pointer (some ⟨b3, 0, none⟩)])) (V.setCell ⟨nb, 0, none⟩ v)) := Lib.hid (fun v hv => by subst hv; exact rows_fin hbw0 hbV hnV hS.1 hI Hb.out)
        clear hbV hnV hI
        refine hK.out _ _ ?_ (fun hHeld => ?_)
        · exact hS
        clear hK K
        (try simp only [Act.put, List.setIfInBounds_toArray, List.set_cons_zero, List.set_cons_succ])
        refine wpAnyH_ready (rs := [7]) (by kernel_rfl) (by simp) ?_
        refine AllReadyH.cons (o := _) rfl (fun K hK => ?_) ?_
        · go_simp
          refine hK.out _ _ ?_ (fun hHeld => ?_)
          · exact ⟨(World.cell?_setCell_far _ _ _ _ (Ne.symm f3)).trans hS.1, (World.cell?_setCell_far _ _ _ _ (Ne.symm fq)).trans hS.2.1, (World.cell?_setCell_far _ _ _ _ (Ne.symm f4)).trans hS.2.2⟩
          clear hK K
          (try simp only [Act.put, List.setIfInBounds_toArray, List.set_cons_zero, List.set_cons_succ])
          refine wpAnyH_done (by kernel_rfl) ?_ _
          refine NoPanic.normal ?_
          go_wp2
          go_ret
          exact hFin.out _ rfl
        exact AllReadyH.nil
      exact AllReadyH.nil
end
end Mt
end Go.Proofs.Ytkejjiohkhlnnaa

namespace Go.Proofs.Ytkejjiohkhlnnaa
open Go.RowKit
namespace Mt
attribute [local go_sem] Oper.semAt_some

section
variable {s sb qb nb q3 na nc : Nat} {σ : St} {h : Hd} {τ : Own}
/-- what the iterator reads -/
structure IterIn (s sb qb nb q3 : Nat) (na : Option Addr) (nc : Nat) (σ : St) (h : Hd) (τ : Own) (NL : List Int) (w : World) : Prop where
  nums : w.cell? ⟨nb, 0, none⟩ = some (.slice na NL.length nc)
  list : Ints w na NL
  q : w.cell? ⟨q3, 0, none⟩ = some (.pointer (some ⟨qb, 0, none⟩))
  st : w.cell? ⟨qb, 0, none⟩ = some (.pointer (some ⟨sb, 0, none⟩))
  store : StoreAt s sb σ h τ w
/-- what round number k is handed -/
def IterX (rows : List Row) (NL : List Int) (k : Nat) (args : Array Value) (w : World) : Prop :=
  ∃ (n : Int) (r : Row) (a : Option Addr) (c : Nat), NL[k]? = some n ∧ rows[n.toNat]? = some r ∧ args = #[.slice a r.2.length c] ∧ Ints w a r.2
set_option maxHeartbeats 4000000 in
set_option maxRecDepth 8000 in
theorem iter_any {na : Option Addr} {nc : Nat} (NL : List Int) (hNL : ∀ n ∈ NL, ∃ i : Nat, n = (i : Int) ∧ i < σ.rows.length) (hlen : NL.length ≤ 1000000000000) (l : Nat) (J : Nat → World → Prop) (W : World)
    (hY : ∀ k W1 args, J k W1 → IterX σ.rows NL k args W1 → k < NL.length → YieldAt Fence.wide 0 Try.prog l args W1 fun e W' => e = .returned (.bool true) ∧ J (k + 1) W')
    (hJb : ∀ k W1 W2, J k W1 → Below W1.heap.size W1 W2 → J k W2) (hJg : ∀ k W1, J k W1 → IterIn s sb qb nb q3 na nc σ h τ NL W1) (h0 : J 0 W) :
    CallsIn Fence.wide 0 Try.prog 85 #[.func (.yield l) #[] #[], .pointer (some ⟨nb, 0, none⟩), .pointer (some ⟨q3, 0, none⟩)] W fun e W' => (∃ v, e = .returned v) ∧ J NL.length W' := by
  obtain ⟨L, hL⟩ : ∃ n, n = NL.length := ⟨_, rfl⟩
  have HL := Lib.hid hL
  have H0 := Lib.hid h0
  have HY := Lib.hid hY
  have HJb := Lib.hid hJb
  have HJg := Lib.hid hJg
  have HNL := Lib.hid hNL
  obtain ⟨Fin, hFin⟩ : ∃ F : Ending → World → Prop, F = fun e W' => (∃ v, e = .returned v) ∧ J NL.length W' := ⟨_, rfl⟩
  rw [← hFin]
  have HFin := Lib.hid hFin
  have y0 := (hJg 0 W h0).nums
  rw [← hL] at hlen y0
  clear hL h0 hY hJb hJg hNL hFin
  refine callsIn_of_wp Try.func85 rfl trivial ?_ rfl
  simp only [Try.ntmps85, List.size_toArray, List.length_cons, List.length_nil, Nat.reduceAdd, Nat.reduceSub, Array.replicate_succ, Array.replicate_zero, List.push_toArray, List.append_toArray, List.nil_append, List.cons_append]
  gi_wp2
  gi_loopw [10] (fun i wr => ∃ k : Nat, k ≤ L ∧ i = .int .i64 k ∧ Hid (J k wr)) (fun i _ => L - (intOf i).toNat)
  case atStart => exact ⟨0, Nat.zero_le _, rfl, H0⟩
  case round =>
    clear y0
    obtain ⟨k, hk, rfl, HJ⟩ := hrel
    by_cases hlt : k < L
    · obtain ⟨d0, d1, d2, d3, d4⟩ := HJg.out k wr HJ.out
      rw [← HL.out] at d0
      obtain ⟨bN, oN, rfl, x, c1, HX⟩ := ints_some d1 (k := k) (by rw [← HL.out]; exact hlt)
      obtain ⟨i, rfl, hi⟩ := HNL.out x (List.mem_of_getElem? HX.out)
      obtain ⟨r, hr⟩ : ∃ r, σ.rows[i]? = some r := ⟨_, List.getElem?_eq_getElem hi⟩
      have cR := Lib.hid (row_any d4 i r hr)
      have HR := Lib.hid hr
      obtain ⟨p, xs⟩ := r
      have h8 : xs.length ≤ 8 := (d4.sound.fits _ (List.mem_of_getElem? hr)).2.2.2.1
      clear d1 d4 hi hr
      gi_wp2
      refine ⟨trivial, rfl, ?_⟩
      refine ((callsIn_wide (n := 0)).2 cR.out).mono ?_
      rintro e w1 ⟨a, c, rfl, hI, hb1⟩
      have hJ2 := HJb.out k wr _ HJ.out (hb1.trans (((Below.refl w1.heap.size w1).alloc (Nat.le_refl _) (.cells #[.int .i64 p, .slice a xs.length c] 50)).mono hb1.size))
      obtain ⟨fn, tmps, assign, body, hy, hR⟩ := HY.out k _ #[.slice a xs.length c] hJ2 ⟨_, _, a, c, HX.out, HR.out, rfl, (hI.ints.below ((Below.refl w1.heap.size w1).alloc (Nat.le_refl _) _))⟩ (by rw [← HL.out]; exact hlt)
      clear hI hb1 cR d0 d2 d3 c1 hJ2
      gi_wp2
      refine ⟨rfl, ?_⟩
      refine hR.mono ?_
      rintro e W3 ⟨rfl, hJ3⟩
      have HJ3 := Lib.hid hJ3
      clear hR hy hJ3
      gi_wp2
      go_roundw
      case rel => exact ⟨k + 1, by omega, by go_num, HJ3⟩
      case measure => simp [intOf]; omega
    · have hkl : k = NL.length := by rw [← HL.out]; omega
      gi_wp2
      go_end0
      rw [HFin.out]
      exact ⟨⟨_, rfl⟩, hkl ▸ HJ.out⟩
end
end Mt
end Go.Proofs.Ytkejjiohkhlnnaa
