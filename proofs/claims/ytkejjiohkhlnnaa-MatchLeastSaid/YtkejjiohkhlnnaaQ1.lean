/-
  Match: several of its texts in one.
-/
import Derived.Test.YtkejjiohkhlnnaaHolds
import Derived.Test.YtkejjiohkhlnnaaExt
import Derived.Deep.Cut
import Derived.Deep.DeepCutAuto
import Derived.Test.YtkejjiohkhlnnaaSBad
import Derived.DeepKeys4
namespace Go.Proofs.Ytkejjiohkhlnnaa
open Go.RowKit
namespace Mt

abbrev Sl := Bool × Int
abbrev Pat := Int × List Sl
/-- a test: its comparison, its two slots -/
abbrev Tst := Int × Sl × Sl
/-- one of v variables, or of d constants -/
def SlotOk (v d : Nat) (s : Sl) : Prop := 0 ≤ s.2 ∧ s.2 < (if s.1 then (v : Int) else (d : Int))
def PatOk (v d : Nat) (p : Pat) : Prop := 0 ≤ p.1 ∧ p.2.length ≤ 8 ∧ ∀ s ∈ p.2, SlotOk v d s
def TstOk (v d : Nat) (t : Tst) : Prop := 1 ≤ t.1 ∧ t.1 ≤ 6 ∧ SlotOk v d t.2.1 ∧ SlotOk v d t.2.2
/-- the patterns l lie behind the slice's address: two cells each -/
def Pats (w : World) (a : Option Addr) (l : List Pat) : Prop :=
  l = [] ∨ ∃ b off, a = some ⟨b, off, none⟩ ∧ ∀ (i : Nat) (p : Pat), l[i]? = some p → w.cell? ⟨b, off + i * 2, none⟩ = some (.int .i64 p.1) ∧ ∃ sa sc, w.cell? ⟨b, off + i * 2 + 1, none⟩ = some (.slice sa p.2.length sc) ∧ Slots w sa p.2
/-- the tests l lie behind the slice's address: five cells each -/
def Tsts (w : World) (a : Option Addr) (l : List Tst) : Prop :=
  l = [] ∨ ∃ b off, a = some ⟨b, off, none⟩ ∧ ∀ (i : Nat) (t : Tst), l[i]? = some t → w.cell? ⟨b, off + i * 5, none⟩ = some (.int .i64 t.1) ∧ w.cell? ⟨b, off + i * 5 + 1, none⟩ = some (.bool t.2.1.1) ∧ w.cell? ⟨b, off + i * 5 + 2, none⟩ = some (.int .i64 t.2.1.2) ∧ w.cell? ⟨b, off + i * 5 + 3, none⟩ = some (.bool t.2.2.1) ∧ w.cell? ⟨b, off + i * 5 + 4, none⟩ = some (.int .i64 t.2.2.2)
theorem Pats.below {w w' : World} {B : Nat} {a : Option Addr} {l : List Pat} (h : Pats w a l) (hb : Below B w w') (hB : w.heap.size ≤ B) : Pats w' a l := by
  rcases h with h | ⟨b, off, ha, hc⟩
  · exact .inl h
  · refine .inr ⟨b, off, ha, fun i p hp => ?_⟩
    obtain ⟨h1, sa, sc, h2, h3⟩ := hc i p hp
    exact ⟨(hb.cell (Nat.lt_of_lt_of_le (World.block_lt_of_cell? _ _ h1) hB)).trans h1, sa, sc, (hb.cell (Nat.lt_of_lt_of_le (World.block_lt_of_cell? _ _ h2) hB)).trans h2, h3.below hb hB⟩
theorem Tsts.below {w w' : World} {B : Nat} {a : Option Addr} {l : List Tst} (h : Tsts w a l) (hb : Below B w w') (hB : w.heap.size ≤ B) : Tsts w' a l := by
  rcases h with h | ⟨b, off, ha, hc⟩
  · exact .inl h
  · refine .inr ⟨b, off, ha, fun i p hp => ?_⟩
    obtain ⟨h1, h2, h3, h4, h5⟩ := hc i p hp
    have k : ∀ {o : Nat} {v : Value}, w.cell? ⟨b, o, none⟩ = some v → w'.cell? ⟨b, o, none⟩ = some v := fun {o v} h => (hb.cell (Nat.lt_of_lt_of_le (World.block_lt_of_cell? _ _ h) hB)).trans h
    exact ⟨k h1, k h2, k h3, k h4, k h5⟩
/-- a rule's cells -/
structure RuleV where
  hp : Int
  ha : Option Addr
  hn : Nat
  hc : Nat
  pa : Option Addr
  pc : Nat
  pos : List Pat
  ta : Option Addr
  tc : Nat
  tests : List Tst
  na : Option Addr
  nc : Nat
  neg : List Pat
  va : Option Addr
  nv : Nat
  vc : Nat
  cl : Int
def RuleV.cells (r : RuleV) : Array Value := #[.int .i64 r.hp, .slice r.ha r.hn r.hc, .slice r.pa r.pos.length r.pc, .slice r.ta r.tests.length r.tc, .slice r.na r.neg.length r.nc, .slice r.va r.nv r.vc, .int .i64 r.cl]
/-- a rule's lists lie in w -/
structure RuleIn (w : World) (r : RuleV) : Prop where
  pos : Pats w r.pa r.pos
  tests : Tsts w r.ta r.tests
  neg : Pats w r.na r.neg
theorem RuleIn.below {w w' : World} {B : Nat} {r : RuleV} (h : RuleIn w r) (hb : Below B w w') (hB : w.heap.size ≤ B) : RuleIn w' r := ⟨h.pos.below hb hB, h.tests.below hb hB, h.neg.below hb hB⟩

set_option maxHeartbeats 1000000 in
theorem fitSlot_any (b : Bool) (n : Int) (v d : Nat) (w : World) (h : SlotOk v d (b, n)) :
    Calls Try.prog 71 #[.agg #[.bool b, .int .i64 n], .int .i64 v, .int .i64 d] w fun e w' => e = .returned (.bool true) ∧ Below w.heap.size w w' := by
  obtain ⟨k, rfl⟩ := Int.eq_ofNat_of_zero_le h.1
  have h2 := h.2
  clear h
  cases b with
  | true =>
    have hk : k < v := by simpa using h2
    clear h2
    have d1 : decide ((k : Int) < (v : Int)) = true := by simpa using hk
    go_enter Try.func71, Try.ntmps71
    go_wp2
    go_ret
    exact ⟨rfl, (Below.refl _ _).alloc (Nat.le_refl _) _⟩
  | false =>
    have hk : k < d := by simpa using h2
    clear h2
    have d1 : decide ((k : Int) < (d : Int)) = true := by simpa using hk
    go_enter Try.func71, Try.ntmps71
    go_wp2
    go_ret
    exact ⟨rfl, (Below.refl _ _).alloc (Nat.le_refl _) _⟩

set_option maxHeartbeats 2000000 in
set_option maxRecDepth 8000 in
theorem fitPattern_any (p : Int) (sa : Option Addr) (sc : Nat) (l : List Sl) (v d : Nat) (w : World) (h : PatOk v d (p, l)) (hs : Slots w sa l) :
    Calls Try.prog 70 #[.agg #[.int .i64 p, .slice sa l.length sc], .int .i64 v, .int .i64 d] w fun e w' => e = .returned (.bool true) ∧ Below w.heap.size w w' := by
  obtain ⟨h0, h8, hall⟩ := h
  simp only at h0 h8 hall
  have HS := Lib.hid hs
  have HA := Lib.hid hall
  clear hs hall
  have d0 : decide (p < 0) = false := by simpa using h0
  have d8 : decide ((8 : Int) < (l.length : Int)) = false := by simp; omega
  have hb0 : Below w.heap.size w (w.alloc (.cells #[.int .i64 p, .slice sa l.length sc] 27)) := (Below.refl _ _).alloc (Nat.le_refl _) _
  go_enter Try.func70, Try.ntmps70
  go_wp2_with fail
  go_loopw [21] (fun i wr => ∃ k : Nat, k ≤ l.length ∧ i = .int .i64 k ∧ Below w.heap.size w wr) (fun i _ => l.length - (intOf i).toNat)
  case atStart => exact ⟨0, Nat.zero_le _, rfl, hb0⟩
  case round =>
    clear hb0
    obtain ⟨k, hk, rfl, hbel⟩ := hrel
    by_cases hlt : k < l.length
    · rcases HS.out with h | ⟨bp, op, rfl, hp⟩
      · rw [h] at hlt; simp at hlt
      · obtain ⟨v0, n0, c0, c1, HQ⟩ := slots_at hp hlt
        have e0 := (hbel.cell (World.block_lt_of_cell? _ _ c0)).trans c0
        have e1 := (hbel.cell (World.block_lt_of_cell? _ _ c1)).trans c1
        have hbe2 : Below w.heap.size w (wr.alloc (.cells #[.bool v0, .int .i64 n0] 58)) := hbel.alloc hbel.size _
        have cF := Lib.hid (fitSlot_any v0 n0 v d (wr.alloc (.cells #[.bool v0, .int .i64 n0] 58)) (HA.out _ (List.mem_of_getElem? HQ.out)))
        clear hp c0 c1
        go_wp2_with fail
        refine cF.out.mono ?_
        rintro e w1 ⟨rfl, hb1⟩
        have hbe3 : Below w.heap.size w w1 := hbe2.trans (hb1.mono (by have := hbel.size; simp; omega))
        clear hb1 hbe2 e0 e1 HQ cF
        go_wp2
        go_roundw
        case rel => exact ⟨k + 1, by omega, by go_num, hbe3⟩
        case measure => simp [intOf]; omega
    · go_wp2
      go_ret
      exact ⟨rfl, hbel⟩

/-- how many variables there are behind a list of slots, of which each is an old one or the next -/
def nextL : List Sl → Nat → Option Nat
  | [], n => some n
  | s :: r, n => if s.1 then (if (n : Int) < s.2 then none else if s.2 = n then nextL r (n + 1) else nextL r n) else nextL r n
def nextP : List Pat → Nat → Option Nat
  | [], n => some n
  | p :: r, n => (nextL p.2 n).bind (nextP r)
theorem nextL_at {l : List Sl} {k n : Nat} {s : Sl} (h : l[k]? = some s) : nextL (l.drop k) n = if s.1 then (if (n : Int) < s.2 then none else if s.2 = n then nextL (l.drop (k + 1)) (n + 1) else nextL (l.drop (k + 1)) n) else nextL (l.drop (k + 1)) n := by
  obtain ⟨hk, rfl⟩ := List.getElem?_eq_some_iff.1 h
  rw [List.drop_eq_getElem_cons hk, nextL]
theorem nextP_at {l : List Pat} {k n : Nat} {s : Pat} (h : l[k]? = some s) : nextP (l.drop k) n = (nextL s.2 n).bind (nextP (l.drop (k + 1))) := by
  obtain ⟨hk, rfl⟩ := List.getElem?_eq_some_iff.1 h
  rw [List.drop_eq_getElem_cons hk, nextP]
/-- a rule that is fit over d constants -/
structure RuleOk (r : RuleV) (d : Nat) : Prop where
  conds : r.pos.length + r.tests.length + r.neg.length ≤ 16
  vars : r.nv ≤ 16
  pos : ∀ p ∈ r.pos, PatOk r.nv d p
  neg : ∀ p ∈ r.neg, PatOk r.nv d p
  tests : ∀ t ∈ r.tests, TstOk r.nv d t
  next : nextP r.pos 0 = some r.nv

set_option maxHeartbeats 1000000 in
theorem conditions_any (r : RuleV) (w : World) (h : r.pos.length + r.tests.length + r.neg.length ≤ 16) :
    Calls Try.prog 44 #[.agg r.cells] w fun e w' => e = .returned (.int .i64 ((r.pos.length + r.tests.length + r.neg.length : Nat) : Int)) ∧ Below w.heap.size w w' := by
  unfold RuleV.cells
  obtain ⟨hp, ha, hn, hc, pa, pc, pos, ta, tc, tests, na, nc, neg, va, nv, vc, cl⟩ := r
  simp only at h ⊢
  generalize pos.length = p at *
  generalize tests.length = t at *
  generalize neg.length = n at *
  go_enter Try.func44, Try.ntmps44
  go_wp2
  go_ret
  exact ⟨by simp, (Below.refl _ _).alloc (Nat.le_refl _) _⟩
theorem pats_at {w : World} {a : Option Addr} {l : List Pat} (h : Pats w a l) {k : Nat} (hk : k < l.length) : ∃ b off p, a = some ⟨b, off, none⟩ ∧ l[k]? = some p ∧ w.cell? ⟨b, off + k * 2, none⟩ = some (.int .i64 p.1) ∧ ∃ sa sc, w.cell? ⟨b, off + k * 2 + 1, none⟩ = some (.slice sa p.2.length sc) ∧ Slots w sa p.2 := by
  rcases h with h | ⟨b, off, ha, hc⟩
  · rw [h] at hk; simp at hk
  · exact ⟨b, off, l[k], ha, List.getElem?_eq_getElem hk, hc k _ (List.getElem?_eq_getElem hk)⟩
theorem tsts_at {w : World} {a : Option Addr} {l : List Tst} (h : Tsts w a l) {k : Nat} (hk : k < l.length) : ∃ b off t, a = some ⟨b, off, none⟩ ∧ l[k]? = some t ∧ w.cell? ⟨b, off + k * 5, none⟩ = some (.int .i64 t.1) ∧ w.cell? ⟨b, off + k * 5 + 1, none⟩ = some (.bool t.2.1.1) ∧ w.cell? ⟨b, off + k * 5 + 2, none⟩ = some (.int .i64 t.2.1.2) ∧ w.cell? ⟨b, off + k * 5 + 3, none⟩ = some (.bool t.2.2.1) ∧ w.cell? ⟨b, off + k * 5 + 4, none⟩ = some (.int .i64 t.2.2.2) := by
  rcases h with h | ⟨b, off, ha, hc⟩
  · rw [h] at hk; simp at hk
  · exact ⟨b, off, l[k], ha, List.getElem?_eq_getElem hk, hc k _ (List.getElem?_eq_getElem hk)⟩
theorem below_cell {w w' : World} {B : Nat} (hb : Below B w w') (hB : w.heap.size ≤ B) {a : Addr} {v : Value} (h : w.cell? a = some v) : w'.cell? a = some v := (hb.cell (Nat.lt_of_lt_of_le (World.block_lt_of_cell? _ _ h) hB)).trans h

set_option maxHeartbeats 8000000 in
set_option maxRecDepth 100000 in
theorem fitRule_any (r : RuleV) (d : Nat) (w : World) (h : RuleOk r d) (hr : RuleIn w r) :
    Calls Try.prog 45 #[.agg r.cells, .int .i64 d] w fun e w' => e = .returned (.bool true) ∧ Below w.heap.size w w' := by
  have cC := fun W => Lib.hid (conditions_any r W h.conds)
  have H := Lib.hid h
  have HR := Lib.hid hr
  have hconds := h.conds
  have hvars := h.vars
  have hnext := Lib.hid h.next
  clear h hr
  unfold RuleV.cells at cC ⊢
  obtain ⟨hp, ha, hn, hc, pa, pc, pos, ta, tc, tests, na, nc, neg, va, nv, vc, cl⟩ := r
  simp only at cC hconds hvars hnext ⊢
  obtain ⟨P, hP⟩ : ∃ P, P = pos.length := ⟨_, rfl⟩
  obtain ⟨T, hT⟩ : ∃ P, P = tests.length := ⟨_, rfl⟩
  obtain ⟨N, hN⟩ : ∃ P, P = neg.length := ⟨_, rfl⟩
  rw [← hP, ← hT, ← hN] at hconds ⊢
  simp only [← hP, ← hT, ← hN] at cC
  have HP := Lib.hid hP
  have HT := Lib.hid hT
  have HN := Lib.hid hN
  clear hP hT hN
  have d16 : decide ((16 : Int) < ((P + T + N : Nat) : Int)) = false := by simp; omega
  have d17 : decide ((16 : Int) < (nv : Int)) = false := by simp; omega
  obtain ⟨rb, hrb⟩ : ∃ b, b = w.heap.size := ⟨_, rfl⟩
  obtain ⟨W0, hW0⟩ : ∃ W, W = w.alloc (.cells #[.int .i64 hp, .slice ha hn hc, .slice pa P pc, .slice ta T tc, .slice na N nc, .slice va nv vc, .int .i64 cl] 32) := ⟨_, rfl⟩
  have z0 : W0.cell? ⟨rb, 0, none⟩ = some (.int .i64 hp) := by rw [hW0, hrb]; simp
  have z1 : W0.cell? ⟨rb, 1, none⟩ = some (.slice ha hn hc) := by rw [hW0, hrb]; simp
  have z2 : W0.cell? ⟨rb, 2, none⟩ = some (.slice pa P pc) := by rw [hW0, hrb]; simp
  have z3 : W0.cell? ⟨rb, 3, none⟩ = some (.slice ta T tc) := by rw [hW0, hrb]; simp
  have z4 : W0.cell? ⟨rb, 4, none⟩ = some (.slice na N nc) := by rw [hW0, hrb]; simp
  have z5 : W0.cell? ⟨rb, 5, none⟩ = some (.slice va nv vc) := by rw [hW0, hrb]; simp
  have z6 : W0.cell? ⟨rb, 6, none⟩ = some (.int .i64 cl) := by rw [hW0, hrb]; simp
  have HB0 : Hid (Below w.heap.size w W0) := Lib.hid (by rw [hW0]; exact (Below.refl _ _).alloc (Nat.le_refl _) _)
  have HW0 := Lib.hid hW0
  have Hrb := Lib.hid hrb
  clear hW0 hrb
  go_enter Try.func45, Try.ntmps45
  go_upto_region 1 with fail
  rw [← HW0.out, ← Hrb.out]
  go_upto_region 4 with (first | (go_at_call 44; (with_reducible refine (cC _).out.mono ?_); rintro e w1 ⟨rfl, hb1⟩))
  have HB1 : Hid (Below w.heap.size w w1) := Lib.hid (HB0.out.trans (hb1.mono HB0.out.size))
  have z2 := below_cell hb1 (Nat.le_refl _) z2
  have z3 := below_cell hb1 (Nat.le_refl _) z3
  have z4 := below_cell hb1 (Nat.le_refl _) z4
  have Hrbl : Hid (rb < w1.heap.size) := Lib.hid (World.block_lt_of_cell? _ _ z2)
  clear z0 z1 z5 z6 hb1 cC d16 d17
  go_wp2_with fail
  go_loopw [6, 28] (fun n i wr => ∃ (k m : Nat), k ≤ P ∧ i = .int .i64 k ∧ n = .int .i64 m ∧ m ≤ 16 ∧ Below w1.heap.size w1 wr ∧ Hid (nextP (pos.drop k) m = some nv)) (fun _ i _ => P - (intOf i).toNat)
  case atStart => exact ⟨0, 0, Nat.zero_le _, rfl, rfl, Nat.zero_le _, Below.refl _ _, hnext⟩
  case round =>
    clear hnext
    obtain ⟨k, m, hk, rfl, rfl, hm, hbel, HX⟩ := hrel
    by_cases hlt : k < P
    · obtain ⟨b, off, p, e0, HP0, c0, sa, sc, c1, hS⟩ := pats_at HR.out.pos (k := k) (by rw [← HP.out]; exact hlt)
      simp only at e0
      subst e0
      have c0 := below_cell hbel (Nat.le_refl _) (below_cell HB1.out (Nat.le_refl _) c0)
      have c1 := below_cell hbel (Nat.le_refl _) (below_cell HB1.out (Nat.le_refl _) c1)
      have HX2 : Hid ((nextL p.2 m).bind (nextP (pos.drop (k + 1))) = some nv) := Lib.hid (by rw [← nextP_at HP0]; exact HX.out)
      have HS := Lib.hid (hS.below HB1.out (Nat.le_refl _))
      have HPO := Lib.hid (H.out.pos p (List.mem_of_getElem? HP0))
      obtain ⟨pp, sl⟩ := p
      simp only at c0 c1 HX2
      clear HX HP0 hS
      go_upto_region 8 with fail
      obtain ⟨pb, hpb⟩ : ∃ b, b = wr.heap.size := ⟨_, rfl⟩
      obtain ⟨W2, hW2⟩ : ∃ W, W = wr.alloc (.cells #[.int .i64 pp, .slice sa sl.length sc] 27) := ⟨_, rfl⟩
      have y0 : W2.cell? ⟨pb, 0, none⟩ = some (.int .i64 pp) := by rw [hW2, hpb]; simp
      have y1 : W2.cell? ⟨pb, 1, none⟩ = some (.slice sa sl.length sc) := by rw [hW2, hpb]; simp
      have hb2 : Below w1.heap.size w1 W2 := by rw [hW2]; exact hbel.alloc hbel.size _
      have HS2 := HS.out.below hb2 (Nat.le_refl _)
      have cF := Lib.hid (fitPattern_any pp sa sc sl nv d W2 HPO.out HS2)
      rw [← hW2, ← hpb]
      clear hW2 hpb c0 c1 hbel HS2
      go_upto_region 10 with (first | (go_at_call 70; (with_reducible refine cF.out.mono ?_); rintro e w3 ⟨rfl, hb3⟩))
      have y1 := below_cell hb3 (Nat.le_refl _) y1
      have hb3 : Below w1.heap.size w1 w3 := hb2.trans (hb3.mono hb2.size)
      have hS3 := HS.out.below hb3 (Nat.le_refl _)
      clear hb2 y0 cF
      obtain ⟨S, hSl⟩ : ∃ S, S = sl.length := ⟨_, rfl⟩
      rw [← hSl] at y1
      have HSl := Lib.hid hSl
      have hS8 : S ≤ 8 := by rw [hSl]; exact HPO.out.2.1
      have HS3 := Lib.hid hS3
      clear hSl hS3
      go_wp2_with fail
      obtain ⟨wo, hwo⟩ : ∃ wo, wo = w3 := ⟨_, rfl⟩
      subst hwo
      go_loopw [6, 40] (fun n i wr => ∃ (j q : Nat), j ≤ S ∧ i = .int .i64 j ∧ n = .int .i64 q ∧ q ≤ 16 ∧ Below wo.heap.size wo wr ∧ Hid ((nextL (sl.drop j) q).bind (nextP (pos.drop (k + 1))) = some nv)) (fun _ i _ => S - (intOf i).toNat)
      case atStart => exact ⟨0, m, Nat.zero_le _, rfl, rfl, hm, Below.refl _ _, HX2⟩
      case round =>
        clear HX2 y1 hm
        obtain ⟨j, q, hj, rfl, rfl, hq, hbel4, HX4⟩ := hrel
        by_cases hlt4 : j < S
        · rcases HS3.out with h | ⟨bp, op, rfl, hp⟩
          · rw [HSl.out, h] at hlt4; simp at hlt4
          · obtain ⟨v0, n0, c0, c1, HQ⟩ := slots_at hp (k := j) (by rw [← HSl.out]; exact hlt4)
            have c0 := below_cell hbel4 (Nat.le_refl _) c0
            have c1 := below_cell hbel4 (Nat.le_refl _) c1
            have HX5 : Hid _ := Lib.hid (by have := HX4.out; rw [nextL_at HQ.out] at this; exact this)
            have hn0 := (HPO.out.2.2 _ (List.mem_of_getElem? HQ.out)).1
            have hn1 := (HPO.out.2.2 _ (List.mem_of_getElem? HQ.out)).2
            simp only at hn0 hn1 HX5
            obtain ⟨z, rfl⟩ := Int.eq_ofNat_of_zero_le hn0
            clear hn0 HX4 hp HQ
            have hfin : ∀ (n' : Nat) (W : World), n' ≤ 16 → Below wo.heap.size wo W → Hid ((nextL (sl.drop (j + 1)) n').bind (nextP (pos.drop (k + 1))) = some nv) → ∃ (j' q' : Nat), j' ≤ S ∧ (Value.int .i64 ((j : Int) + 1)) = .int .i64 j' ∧ (Value.int .i64 (n' : Int)) = .int .i64 q' ∧ q' ≤ 16 ∧ Below wo.heap.size wo W ∧ Hid ((nextL (sl.drop j') q').bind (nextP (pos.drop (k + 1))) = some nv) := fun n' W h1 h2 h3 => ⟨j + 1, n', by omega, by go_num, rfl, h1, h2, h3⟩
            have Hfin := Lib.hid hfin
            clear hfin
            have hb5 : ∀ o, Below wo.heap.size wo (wr.alloc o) := fun o => hbel4.alloc hbel4.size _
            have Hb5 := Lib.hid hb5
            clear hb5 hbel4
            cases v0 with
            | false =>
              go_wp2
              go_roundw
              case rel => exact Hfin.out q _ hq (Hb5.out _) (Lib.hid (by have := HX5.out; simpa using this))
              case measure => simp [intOf]; omega
            | true =>
              by_cases h1 : q < z
              · exfalso
                have := HX5.out
                simp [h1] at this
              · by_cases h2 : z = q
                · subst h2
                  have hq15 : z + 1 ≤ 16 := by simp at hn1; omega
                  go_wp2
                  go_roundw
                  case rel => exact Hfin.out (z + 1) _ hq15 (Hb5.out _) (Lib.hid (by have := HX5.out; simpa using this))
                  case measure => simp [intOf]; omega
                · have d1 : decide ((q : Int) < (z : Int)) = false := by simp; omega
                  have d2 : ((z : Int) == (q : Int)) = false := by simp; omega
                  go_wp2
                  go_roundw
                  case rel => exact Hfin.out q _ hq (Hb5.out _) (Lib.hid (by have := HX5.out; simpa [h1, h2, show ¬ ((q : Int) < z) by omega, show ¬ ((z : Int) = q) by omega] using this))
                  case measure => simp [intOf]; omega
        · have HX6 : Hid (nextP (pos.drop (k + 1)) q = some nv) := Lib.hid (by have := HX4.out; rw [List.drop_of_length_le (by rw [← HSl.out]; omega)] at this; simpa [nextL] using this)
          go_wp2
          go_roundw
          case rel => exact ⟨k + 1, q, by omega, by go_num, rfl, hq, hb3.trans (hbel4.mono hb3.size), HX6⟩
          case measure => simp [intOf]; omega
    · have hnv : m = nv := by
        have := HX.out
        rw [List.drop_of_length_le (by rw [← HP.out]; omega)] at this
        simpa [nextP] using this
      subst hnv
      have z3 := below_cell hbel (Nat.le_refl _) z3
      have z4 := below_cell hbel (Nat.le_refl _) z4
      have hbw : Below w.heap.size w wr := HB1.out.trans (hbel.mono HB1.out.size)
      obtain ⟨w5, hw5⟩ : ∃ x, x = wr := ⟨_, rfl⟩
      subst hw5
      clear hbel z2 HX
      go_wp2_with fail
      go_loopw [67] (fun i wr => ∃ (k : Nat), k ≤ N ∧ i = .int .i64 k ∧ Below w5.heap.size w5 wr) (fun i _ => N - (intOf i).toNat)
      case atStart => exact ⟨0, Nat.zero_le _, rfl, Below.refl _ _⟩
      case round =>
        obtain ⟨k, hk, rfl, hbel⟩ := hrel
        by_cases hlt : k < N
        · obtain ⟨b, off, p, e0, HP0, c0, sa, sc, c1, hS⟩ := pats_at HR.out.neg (k := k) (by rw [← HN.out]; exact hlt)
          simp only at e0
          subst e0
          have c0 := below_cell hbel (Nat.le_refl _) (below_cell hbw (Nat.le_refl _) c0)
          have c1 := below_cell hbel (Nat.le_refl _) (below_cell hbw (Nat.le_refl _) c1)
          have HPO := Lib.hid (H.out.neg p (List.mem_of_getElem? HP0))
          obtain ⟨pp, sl⟩ := p
          simp only at c0 c1
          have HS := Lib.hid ((hS.below hbw (Nat.le_refl _)).below hbel (Nat.le_refl _))
          clear HP0 hS
          go_upto_region 22 with fail
          have hb2 : Below w5.heap.size w5 (wr.alloc (.cells #[.int .i64 pp, .slice sa sl.length sc] 27)) := hbel.alloc hbel.size _
          have cF := Lib.hid (fitPattern_any pp sa sc sl m d (wr.alloc (.cells #[.int .i64 pp, .slice sa sl.length sc] 27)) HPO.out (HS.out.below ((Below.refl _ wr).alloc (Nat.le_refl _) _) (Nat.le_refl _)))
          clear c0 c1
          go_wp2_with (first | (go_at_call 70; (with_reducible refine cF.out.mono ?_); rintro e w3 ⟨rfl, hb3⟩))
          have hb3 : Below w5.heap.size w5 w3 := hb2.trans (hb3.mono hb2.size)
          go_roundw
          case rel => exact ⟨k + 1, by omega, by go_num, hb3⟩
          case measure => simp [intOf]; omega
        · have z3 := below_cell hbel (Nat.le_refl _) z3
          have hbw : Below w.heap.size w wr := hbw.trans (hbel.mono hbw.size)
          obtain ⟨w6, hw6⟩ : ∃ x, x = wr := ⟨_, rfl⟩
          subst hw6
          clear hbel z4
          go_wp2_with fail
          go_loopw [80] (fun i wr => ∃ (k : Nat), k ≤ T ∧ i = .int .i64 k ∧ Below w6.heap.size w6 wr) (fun i _ => T - (intOf i).toNat)
          case atStart => exact ⟨0, Nat.zero_le _, rfl, Below.refl _ _⟩
          case round =>
            obtain ⟨k, hk, rfl, hbel⟩ := hrel
            by_cases hlt : k < T
            · obtain ⟨b, off, p, e0, HP0, c0, c1, c2, c3, c4⟩ := tsts_at HR.out.tests (k := k) (by rw [← HT.out]; exact hlt)
              simp only at e0
              subst e0
              have lift : ∀ {a : Addr} {v : Value}, w.cell? a = some v → wr.cell? a = some v := fun h => below_cell hbel (Nat.le_refl _) (below_cell hbw (Nat.le_refl _) h)
              have c0 := lift c0
              have c1 := lift c1
              have c2 := lift c2
              have c3 := lift c3
              have c4 := lift c4
              obtain ⟨g1, g2, g3, g4⟩ := H.out.tests p (List.mem_of_getElem? HP0)
              obtain ⟨op, ⟨lv, ln⟩, rv, rn⟩ := p
              simp only at c0 c1 c2 c3 c4 g1 g2 g3 g4
              clear HP0 lift
              go_upto_region 28 with fail
              obtain ⟨pb, hpb⟩ : ∃ b, b = wr.heap.size := ⟨_, rfl⟩
              obtain ⟨W2, hW2⟩ : ∃ W, W = wr.alloc (.cells #[.int .i64 op, .bool lv, .int .i64 ln, .bool rv, .int .i64 rn] 60) := ⟨_, rfl⟩
              have y0 : W2.cell? ⟨pb, 0, none⟩ = some (.int .i64 op) := by rw [hW2, hpb]; simp
              have y1 : W2.cell? ⟨pb, 1, none⟩ = some (.bool lv) := by rw [hW2, hpb]; simp
              have y2 : W2.cell? ⟨pb, 2, none⟩ = some (.int .i64 ln) := by rw [hW2, hpb]; simp
              have y3 : W2.cell? ⟨pb, 3, none⟩ = some (.bool rv) := by rw [hW2, hpb]; simp
              have y4 : W2.cell? ⟨pb, 4, none⟩ = some (.int .i64 rn) := by rw [hW2, hpb]; simp
              have hb2 : Below w6.heap.size w6 W2 := by rw [hW2]; exact hbel.alloc hbel.size _
              rw [← hW2, ← hpb]
              have cL := fun W => Lib.hid (fitSlot_any lv ln m d W g3)
              have cR := fun W => Lib.hid (fitSlot_any rv rn m d W g4)
              have d1 : decide (op < 1) = false := by simp; omega
              have d2 : decide (6 < op) = false := by simp; omega
              clear hW2 hpb c0 c1 c2 c3 c4 hbel g3 g4
              go_wp2_with fail
              refine (cL _).out.mono ?_
              rintro e w7 ⟨rfl, hb7⟩
              have y3 := below_cell hb7 (Nat.le_refl _) y3
              have y4 := below_cell hb7 (Nat.le_refl _) y4
              have hb2 : Below w6.heap.size w6 w7 := hb2.trans (hb7.mono hb2.size)
              clear hb7 y0 y1 y2 cL d1 d2
              go_wp2_with fail
              refine (cR _).out.mono ?_
              rintro e w8 ⟨rfl, hb8⟩
              have hb2 : Below w6.heap.size w6 w8 := hb2.trans (hb8.mono hb2.size)
              clear hb8 y3 y4 cR
              go_wp2
              go_roundw
              case rel => exact ⟨k + 1, by omega, by go_num, hb2⟩
              case measure => simp [intOf]; omega
            · go_wp2
              go_ret
              exact ⟨rfl, hbw.trans (hbel.mono hbw.size)⟩
end Mt
end Go.Proofs.Ytkejjiohkhlnnaa

namespace Go.Proofs.Ytkejjiohkhlnnaa
open Go.RowKit
namespace Mt

section
variable {s sb : Nat} {σ : St} {h : Hd} {τ : Own} {w : World}
set_option maxHeartbeats 2000000 in
set_option maxRecDepth 8000 in
theorem fitStore_any (hs : StoreAt s sb σ h τ w) (n : Nat) (hl : σ.rows.length ≤ 1000000000000) (hall : ∀ r ∈ σ.rows, ∀ x ∈ r.2, x < n) :
    Calls Try.prog 47 #[.pointer (some ⟨sb, 0, none⟩), .int .i64 n] w fun e w' => e = .returned (.bool true) ∧ Below w.heap.size w w' := by
  have HS := Lib.hid hs
  have HA := Lib.hid hall
  have cL := Lib.hid (len_any hs)
  obtain ⟨R, hR⟩ : ∃ R, R = σ.rows.length := ⟨_, rfl⟩
  rw [← hR] at cL hl
  have HR := Lib.hid hR
  clear hs hall hR
  go_enter Try.func47, Try.ntmps47
  go_wp2_with (first | (go_at_call 35; (with_reducible refine cL.out.mono ?_); rintro e w1 ⟨rfl, rfl⟩))
  go_loopw [12] (fun i wr => ∃ k : Nat, k ≤ R ∧ i = .int .i64 k ∧ Below w1.heap.size w1 wr) (fun i _ => R - (intOf i).toNat)
  case atStart => exact ⟨0, Nat.zero_le _, rfl, Below.refl _ _⟩
  case round =>
    obtain ⟨k, hk, rfl, hbel⟩ := hrel
    by_cases hlt : k < R
    · obtain ⟨r, hr⟩ : ∃ r, σ.rows[k]? = some r := ⟨_, List.getElem?_eq_getElem (by rw [← HR.out]; exact hlt)⟩
      have cR := Lib.hid (row_any (HS.out.below hbel) k r hr)
      have hf := HS.out.sound.fits r (List.mem_of_getElem? hr)
      have HAr := Lib.hid (HA.out r (List.mem_of_getElem? hr))
      obtain ⟨p, xs⟩ := r
      have h8 : xs.length ≤ 8 := hf.2.2.2.1
      clear hf hr
      go_upto_region 5 with (first | (go_at_call 36; (with_reducible refine cR.out.mono ?_); rintro e w2 ⟨a, c, rfl, hI, hb2⟩))
      obtain ⟨rb, hrb⟩ : ∃ b, b = w2.heap.size := ⟨_, rfl⟩
      obtain ⟨W2, hW2⟩ : ∃ W, W = w2.alloc (.cells #[.int .i64 p, .slice a xs.length c] 50) := ⟨_, rfl⟩
      have y0 : W2.cell? ⟨rb, 0, none⟩ = some (.int .i64 p) := by rw [hW2, hrb]; simp
      have y1 : W2.cell? ⟨rb, 1, none⟩ = some (.slice a xs.length c) := by rw [hW2, hrb]; simp
      have hb3 : Below w1.heap.size w1 W2 := by rw [hW2]; exact (hbel.trans (hb2.mono hbel.size)).alloc (Nat.le_trans hbel.size hb2.size) _
      have hI2 : Ints W2 a xs := by rw [hW2]; exact hI.ints.below ((Below.refl _ _).alloc (Nat.le_refl _) _) 
      rw [← hW2, ← hrb]
      obtain ⟨X, hX⟩ : ∃ X, X = xs.length := ⟨_, rfl⟩
      rw [← hX] at h8 y1
      have HX := Lib.hid hX
      have HI := Lib.hid hI2
      clear hW2 hrb hI hb2 hbel hI2 hX cR
      go_wp2_with fail
      obtain ⟨wo, hwo⟩ : ∃ wo, wo = W2 := ⟨_, rfl⟩
      subst hwo
      go_loopw [24] (fun i wr => ∃ j : Nat, j ≤ X ∧ i = .int .i64 j ∧ wr = wo) (fun i _ => X - (intOf i).toNat)
      case atStart => exact ⟨0, Nat.zero_le _, rfl, rfl⟩
      case round =>
        obtain ⟨j, hj, rfl, rfl⟩ := hrel
        by_cases hlt4 : j < X
        · obtain ⟨b, o, rfl, x, c1, hx⟩ := ints_some HI.out (k := j) (by rw [← HX.out]; exact hlt4)
          have hxn := HAr.out x (List.mem_of_getElem? hx.out)
          have d1 : decide ((n : Int) ≤ x) = false := by simp; omega
          clear hx
          go_wp2
          go_roundw
          case rel => exact ⟨j + 1, by omega, by go_num, trivial⟩
          case measure => simp [intOf]; omega
        · go_wp2
          go_roundw
          case rel => exact ⟨k + 1, by omega, by go_num, hb3⟩
          case measure => simp [intOf]; omega
    · go_wp2
      go_ret
      exact ⟨rfl, hbel⟩
end
end Mt
end Go.Proofs.Ytkejjiohkhlnnaa

namespace Go.Proofs.Ytkejjiohkhlnnaa
open Go.RowKit
namespace Mt
open Go.Maps (Keyed)

def constV (c : C3) : Value := .agg #[.int .i64 c.1, .int .i64 c.2.1, .string c.2.2]
theorem constV_inj {c d : C3} (h : constV c = constV d) : c = d := by
  obtain ⟨a, b, s⟩ := c
  obtain ⟨a', b', s'⟩ := d
  unfold constV at h
  simp at h
  obtain ⟨h1, h2, h3⟩ := h
  rw [h1, h2, h3]
theorem constLaidOut : laidOutB Try.prog = true := by kernel_rfl
theorem constRow : (65 : TypeId) < Try.prog.types.size := of_decide_eq_true (by kernel_rfl)
theorem constDeep : Try.prog.keyTypeAt 2 65 = true := by kernel_rfl
theorem constLaw : Keyed Try.prog 65 := Keyed.of_law (deep_law_laid constLaidOut (m := 2) (by omega) constRow constDeep (by simp only [Try.underlying65]))
theorem constKeyType : Try.prog.keyType 65 = true := by kernel_rfl
theorem constCells3 : Try.prog.cellsOf 65 = 3 := by kernel_rfl
theorem constSize : ∃ m, Try.prog.types.size = m + 2 := ⟨Try.prog.types.size - 2, by have h : Try.prog.types.size = (Try.prog.types.size - 2) + 2 := (of_decide_eq_true (by kernel_rfl)); exact h⟩
/-- a constant's integers are such, its text is no longer than may be -/
def C3Ok (c : C3) : Prop := Rng c.1 ∧ Rng c.2.1 ∧ c.2.2.size ≤ maxLen
theorem constKey_of {c : C3} (h : C3Ok c) : ∃ l, keyOf Try.prog 65 (constV c) = some l := by
  obtain ⟨m, hm⟩ := constSize
  obtain ⟨h1, h2, h3⟩ := h
  have hs : (Program.keyLits Try.prog (Try.prog.types.size + 1) 65 (constV c).cells.toList).isSome = true := by
    rw [hm]
    unfold Program.keyLits
    simp only [Try.underlying65, constV, Value.cells]
    have ei : ∀ (q : IntKind) (t : TypeId) (n : Int), Try.prog.underlying t = some (.int q) → (Lit.int q n).wf = true → Program.keyLits Try.prog (m + 2) t [.int q n] = some [.int q n] := fun q t n ht hw => by
      unfold Program.keyLits
      simp [ht, hw]
    have es : ∀ (t : TypeId) (s : ByteArray), Try.prog.underlying t = some .string → s.size ≤ maxLen → Program.keyLits Try.prog (m + 2) t [.string s] = some [.string s.data.toList] := fun t s ht hw => by
      unfold Program.keyLits
      simp [ht, hw]
    have k3 : Try.prog.cellsOf 3 = 1 := by kernel_rfl
    have k2 : Try.prog.cellsOf 2 = 1 := by kernel_rfl
    have k9 : Try.prog.cellsOf 9 = 1 := by kernel_rfl
    rw [if_pos ⟨by rw [constCells3]; rfl, by simp⟩]
    simp [k3, k2, k9, ei .i64 3 _ Try.underlying3 (wf_rng h1), ei .i64 2 _ Try.underlying2 (wf_rng h2), es 9 _ Try.underlying9 h3]
  obtain ⟨ls, hl⟩ := Option.isSome_iff_exists.1 hs
  refine ⟨.string (keyBytes ls), ?_⟩
  unfold keyOf
  simp only [Try.underlying65]
  rw [if_pos (by simp [constKeyType, Value.formed, Try.underlying65, constCells3, constV]), hl]
  rfl
theorem zeroInt' (W : World) : (zeroValue 3).run Try.prog W = .ok (.int .i64 0) W := by kernel_rfl
/-- constants that are fit -/
structure ConstsOk (cs : List C3) : Prop where
  many : cs.length ≤ 65536
  ok : ∀ c ∈ cs, C3Ok c
  valid : ∀ c ∈ cs, Sym.validC c.1 c.2.1 c.2.2.data.toList = true
  once : cs.Nodup
/-- the map of the constants so far -/
def Seen (w : World) (b k : Nat) (l : List C3) : Prop := ∃ f, MapIs Try.prog 65 w b k f ∧ ∀ key v, f key = some v → ∃ c ∈ l, key = constV c
theorem Seen.below {w w' : World} {b k : Nat} {l : List C3} (h : Seen w b k l) (hb : Below w.heap.size w w') : Seen w' b k l := by
  obtain ⟨f, h1, h2⟩ := h
  exact ⟨f, h1.kept (hb.block _ h1.lt), h2⟩
theorem Seen.look {w : World} {b k : Nat} {l : List C3} (h : Seen w b k l) {c : C3} (hc : C3Ok c) (hn : c ∉ l) (W : World) (hW : Below w.heap.size w W) : (Instr.lookup 130 (.map (some b)) (constV c) true).run Try.prog W = .ok (.tuple #[.int .i64 0, .bool false]) W := by
  obtain ⟨f, h1, h2⟩ := h
  obtain ⟨kl, hk⟩ := constKey_of hc
  have := (h1.kept (hW.block _ h1.lt)).look constLaw Try.underlying130 (zeroInt' W) hk true
  have hn' : f (constV c) = none := by
    cases hf : f (constV c) with
    | none => rfl
    | some v =>
      obtain ⟨d, hd, he⟩ := h2 _ _ hf
      exact absurd (constV_inj he ▸ hd) hn
  rw [hn'] at this
  exact this
theorem Seen.put {w : World} {b k : Nat} {l : List C3} (h : Seen w b k l) {c : C3} (hc : C3Ok c) (v : Value) : ∃ W, (Instr.mapUpdate 130 (.map (some b)) (constV c) v).run Try.prog w = .ok () W ∧ Seen W b (k + 1) (l ++ [c]) ∧ Below b w W := by
  obtain ⟨f, h1, h2⟩ := h
  obtain ⟨kl, hk⟩ := constKey_of hc
  obtain ⟨es, clock, hrun, hm⟩ := h1.update constLaw Try.underlying130 hk v
  refine ⟨_, hrun, ⟨_, hm, fun key u hu => ?_⟩, ?_⟩
  · unfold upd at hu
    split at hu
    · rename_i e
      exact ⟨c, by simp, e⟩
    · obtain ⟨d, hd, he⟩ := h2 _ _ hu
      exact ⟨d, by simp [hd], he⟩
  · have hlt := h1.lt
    refine ⟨rfl, rfl, rfl, by simp [ChangeMaps.setBlock], fun j hj => ?_⟩
    simp [ChangeMaps.setBlock, show b ≠ j by omega]

set_option maxHeartbeats 4000000 in
set_option maxRecDepth 8000 in
theorem fitConsts_any (a : Option Addr) (c : Nat) (cs : List C3) (w : World) (hc : Consts w a cs) (h : ConstsOk cs) :
    Calls Try.prog 46 #[.slice a cs.length c] w fun e w' => e = .returned (.bool true) ∧ Below w.heap.size w w' := by
  have HC := Lib.hid hc
  have H := Lib.hid h
  have h6 := h.many
  obtain ⟨n, hn⟩ : ∃ n, n = cs.length := ⟨_, rfl⟩
  rw [← hn] at h6 ⊢
  have Hn := Lib.hid hn
  have hmm := @run_makeMap Try.prog
  have hM : Hid (Seen (w.alloc (.map #[] 0)) w.heap.size 0 []) := Lib.hid ⟨_, MapIs.made _ _ _, fun key v hv => by cases hv⟩
  clear hc h hn
  go_enter Try.func46, Try.ntmps46
  go_wp2_with fail
  obtain ⟨mb, hmb⟩ : ∃ b, b = w.heap.size := ⟨_, rfl⟩
  obtain ⟨W0, hW0⟩ : ∃ W, W = w.alloc (.map #[] 0) := ⟨_, rfl⟩
  have hb0 : Below w.heap.size w W0 := by rw [hW0]; exact (Below.refl _ _).alloc (Nat.le_refl _) _
  rw [← hmb, ← hW0] at hM ⊢
  have Hmb := Lib.hid hmb
  clear hmb hW0 hmm
  go_loopw [14] (fun i wr => ∃ k : Nat, k ≤ n ∧ i = .int .i64 k ∧ Below w.heap.size w wr ∧ Hid (Seen wr mb k (cs.take k))) (fun i _ => n - (intOf i).toNat)
  case atStart => exact ⟨0, Nat.zero_le _, rfl, hb0, hM⟩
  case round =>
    clear hM hb0
    obtain ⟨k, hk, rfl, hbel, HM⟩ := hrel
    by_cases hlt : k < n
    · rcases HC.out with h | ⟨b, o, rfl, hc⟩
      · rw [Hn.out, h] at hlt; simp at hlt
      · obtain ⟨⟨x1, x2, x3⟩, c1, c2, c3, HX⟩ := consts_at hc (k := k) (by rw [← Hn.out]; exact hlt)
        have c1 := below_cell hbel (Nat.le_refl _) c1
        have c2 := below_cell hbel (Nat.le_refl _) c2
        have c3 := below_cell hbel (Nat.le_refl _) c3
        have hmem := List.mem_of_getElem? HX.out
        have hok := H.out.ok _ hmem
        have cV := Lib.hid (Sym.valid_any x1 x2 x3 (wr.alloc (.cells #[.int .i64 x1, .int .i64 x2, .string x3] 65)) (by have := hok.2.2; unfold maxLen at this; simp only at this; omega))
        rw [show Sym.validC x1 x2 x3.data.toList = true from H.out.valid _ hmem] at cV
        have hno : (x1, x2, x3) ∉ cs.take k := by
          intro hm
          obtain ⟨j, hj⟩ := List.mem_iff_getElem?.1 hm
          rw [List.getElem?_take] at hj
          split at hj
          · rename_i hjk
            have e1 := HX.out
            rw [← e1] at hj
            have hjl : j < cs.length := by rw [← Hn.out]; omega
            have := (List.getElem?_inj hjl H.out.once).1 hj
            omega
          · cases hj
        have Hok := Lib.hid hok
        have Hno := Lib.hid hno
        have hS1 := HM.out.below ((Below.refl _ wr).alloc (Nat.le_refl _) (.cells #[.int .i64 x1, .int .i64 x2, .string x3] 65))
        have HS1 := Lib.hid hS1
        clear hc hmem hok hno hS1 HM
        go_upto_region 7 with fail
        obtain ⟨cb, hcb⟩ : ∃ b, b = wr.heap.size := ⟨_, rfl⟩
        obtain ⟨W1, hW1⟩ : ∃ W, W = wr.alloc (.cells #[.int .i64 x1, .int .i64 x2, .string x3] 65) := ⟨_, rfl⟩
        have y1 : W1.cell? ⟨cb, 0, none⟩ = some (.int .i64 x1) := by rw [hW1, hcb]; simp
        have y2 : W1.cell? ⟨cb, 1, none⟩ = some (.int .i64 x2) := by rw [hW1, hcb]; simp
        have y3 : W1.cell? ⟨cb, 2, none⟩ = some (.string x3) := by rw [hW1, hcb]; simp
        have hb1 : Below w.heap.size w W1 := by rw [hW1]; exact hbel.alloc hbel.size _
        rw [← hW1] at cV HS1
        rw [← hW1, ← hcb]
        clear hW1 hcb c1 c2 c3 hbel
        go_upto_region 9 with (first | (go_at_call 27; (with_reducible refine cV.out.mono ?_); rintro e w2 ⟨rfl, hb2⟩))
        have y1 := below_cell hb2 (Nat.le_refl _) y1
        have y2 := below_cell hb2 (Nat.le_refl _) y2
        have y3 := below_cell hb2 (Nat.le_refl _) y3
        have hl := HS1.out.look Hok.out Hno.out w2 hb2
        obtain ⟨W3, hl2, hS3, hb3⟩ := (HS1.out.below hb2).put Hok.out (.int .i64 (k : Int))
        have hS3' : Hid (Seen W3 mb (k + 1) (cs.take (k + 1))) := Lib.hid (by rw [take_snoc' HX.out]; exact hS3)
        have hb3 : Below w.heap.size w W3 := (hb1.trans (hb2.mono hb1.size)).trans (hb3.mono (Nat.le_of_eq Hmb.out.symm))
        unfold constV at hl hl2
        simp only at hl hl2
        clear hS3 hb1 hb2 HS1 cV
        go_wp2_with fail
        go_roundw
        case rel => exact ⟨k + 1, by omega, by go_num, hb3, hS3'⟩
        case measure => simp [intOf]; omega
    · go_wp2
      go_ret
      exact ⟨rfl, hbel⟩
end Mt
end Go.Proofs.Ytkejjiohkhlnnaa
