/-
  Match: several of its texts in one.
-/
import Derived.Test.YtkejjiohkhlnnaaZ6
import Derived.Deep.CutBlock
import Derived.Test.YtkejjiohkhlnnaaExt
import Derived.Test.YtkejjiohkhlnnaaZ5
import Derived.Test.YtkejjiohkhlnnaaZ3
namespace Go.Proofs.Ytkejjiohkhlnnaa
open Go.RowKit
namespace Mt
open Sq (Oth)

def tC (av rv cv : Value) : Array Value := #[av, rv, cv, .int .i64 0, .slice none 0 0, .slice none 0 0, .slice none 0 0, .slice none 0 0, .slice none 0 0, .int .i64 0, .int .i64 0]
theorem c13 : C3Ok ((1, 3, ByteArray.empty) : C3) ∧ Sym.validC 1 3 ByteArray.empty.data.toList = true := ⟨⟨(by unfold Rng; omega : Rng 1), (by unfold Rng; omega : Rng 3), (by decide : ByteArray.size ByteArray.empty ≤ maxLen)⟩, by rfl⟩
/-- the constants so far -/
structure CSt (tb : Nat) (W0 w : World) (cv : Value) (cs : List C3) : Prop where
  oth : Oth tb W0 w
  t : w.heap[tb]? = some (.cells (tC (.slice none 0 0) (.slice none 0 0) cv) 34 (0, 0))
  own : w.ownsRow W0.heap.size 65 3 cv cs.length (c3Cells cs)
  le : cs.length ≤ 5
  ok : ∀ c ∈ cs, C3Ok c ∧ Sym.validC c.1 c.2.1 c.2.2.data.toList = true
  once : cs.Nodup
theorem CSt.tcell {tb : Nat} {W0 w : World} {cv : Value} {cs : List C3} (h : CSt tb W0 w cv cs) : w.cell? ⟨tb, 2, none⟩ = some cv := by
  have := h.t
  simp [World.cell?, this, tC]
theorem CSt.below {tb : Nat} {W0 w V : World} {cv : Value} {cs : List C3} (h : CSt tb W0 w cv cs) (hb : Below w.heap.size w V) : CSt tb W0 V cv cs :=
  ⟨h.oth.trans (.below hb), (hb.block tb (Array.getElem?_eq_some_iff.1 h.t).1).trans h.t, owns_below h.own hb (Nat.le_refl _), h.le, h.ok, h.once⟩
theorem CSt.push {tb : Nat} {W0 w V0 V1 : World} {v v' : Value} {cs : List C3} {c : C3} (h : CSt tb W0 w v cs) (htb : tb < W0.heap.size) (hb : Below w.heap.size w V0) (hg : V0.grownBy V1 v.ownBlock) (hv' : V1.ownsRow W0.heap.size 65 3 v' (cs.length + 1) (c3Cells cs ++ [.int .i64 c.1, .int .i64 c.2.1, .string c.2.2])) (h5 : cs.length < 5) (hc : C3Ok c ∧ Sym.validC c.1 c.2.1 c.2.2.data.toList = true) (hn : ∀ y ∈ cs, y ≠ c) :
    CSt tb W0 (V1.setCell ⟨tb, 2, none⟩ v') v' (cs ++ [c]) ∧ V1.cell? ⟨tb, 2, none⟩ = some v ∧ V1.frozen? ⟨tb, 2, none⟩ = false := by
  obtain ⟨k1, k2, k3, k4, k5⟩ := push_step (off := 2) h.oth h.t htb h.own hb hg hv'
  refine ⟨⟨k1, by simpa [tC] using k2, by rw [List.length_append, c3Cells_snoc]; exact k3, by rw [List.length_append]; exact h5, fun x hx => ?_, ?_⟩, by rw [k4]; simp [tC], k5⟩
  · rcases List.mem_append.1 hx with hx | hx
    · exact h.ok x hx
    · rw [List.mem_singleton] at hx; subst hx; exact hc
  · rw [List.nodup_append]
    exact ⟨h.once, by simp, fun a ha b hb => by rw [List.mem_singleton] at hb; subst hb; exact hn a ha⟩
/-- the places of the predicates so far -/
structure ASt (tb : Nat) (W1 w : World) (cv av : Value) (l : List Int) : Prop where
  oth : Oth tb W1 w
  t : w.heap[tb]? = some (.cells (tC av (.slice none 0 0) cv) 34 (0, 0))
  own : w.ownsRow W1.heap.size 3 1 av l.length (l.map (Value.int .i64))
  le : l.length ≤ 5
  ok : ∀ x ∈ l, 0 ≤ x ∧ x ≤ 3
theorem ASt.tcell {tb : Nat} {W0 w : World} {cv av : Value} {l : List Int} (h : ASt tb W0 w cv av l) : w.cell? ⟨tb, 0, none⟩ = some av := by
  have := h.t
  simp [World.cell?, this, tC]
theorem ASt.below {tb : Nat} {W0 w V : World} {cv av : Value} {l : List Int} (h : ASt tb W0 w cv av l) (hb : Below w.heap.size w V) : ASt tb W0 V cv av l :=
  ⟨h.oth.trans (.below hb), (hb.block tb (Array.getElem?_eq_some_iff.1 h.t).1).trans h.t, owns_below h.own hb (Nat.le_refl _), h.le, h.ok⟩
theorem ASt.push {tb : Nat} {W0 w V0 V1 : World} {cv v v' : Value} {l : List Int} {c : Int} (h : ASt tb W0 w cv v l) (htb : tb < W0.heap.size) (hb : Below w.heap.size w V0) (hg : V0.grownBy V1 v.ownBlock) (hv' : V1.ownsRow W0.heap.size 3 1 v' (l.length + 1) (l.map (Value.int .i64) ++ [.int .i64 c])) (h5 : l.length < 5) (hc : 0 ≤ c ∧ c ≤ 3) :
    ASt tb W0 (V1.setCell ⟨tb, 0, none⟩ v') cv v' (l ++ [c]) ∧ V1.cell? ⟨tb, 0, none⟩ = some v ∧ V1.frozen? ⟨tb, 0, none⟩ = false := by
  obtain ⟨k1, k2, k3, k4, k5⟩ := push_step (off := 0) h.oth h.t htb h.own hb hg hv'
  refine ⟨⟨k1, by simpa [tC] using k2, by rw [List.length_append, List.map_append]; exact k3, by rw [List.length_append]; exact h5, fun x hx => ?_⟩, by rw [k4]; simp [tC], k5⟩
  rcases List.mem_append.1 hx with hx | hx
  · exact h.ok x hx
  · rw [List.mem_singleton] at hx; subst hx; exact hc
/-- the rows so far -/
structure WSt (tb : Nat) (W2 w : World) (cv av rv : Value) (l : List Row) (ar : List Int) (d : Nat) : Prop where
  oth : Oth tb W2 w
  t : w.heap[tb]? = some (.cells (tC av rv cv) 34 (0, 0))
  rows : RowL W2.heap.size w rv l
  le : l.length ≤ 24
  ok : ∀ r ∈ l, FitsRow ar r ∧ ∀ x ∈ r.2, x < d
theorem WSt.tcell {tb : Nat} {W0 w : World} {cv av rv : Value} {l : List Row} {ar : List Int} {d : Nat} (h : WSt tb W0 w cv av rv l ar d) : w.cell? ⟨tb, 0, none⟩ = some av ∧ w.cell? ⟨tb, 1, none⟩ = some rv := by
  have := h.t
  simp [World.cell?, this, tC]
theorem WSt.below {tb : Nat} {W0 w V : World} {cv av rv : Value} {l : List Row} {ar : List Int} {d : Nat} (h : WSt tb W0 w cv av rv l ar d) (hb : Below w.heap.size w V) : WSt tb W0 V cv av rv l ar d :=
  ⟨h.oth.trans (.below hb), (hb.block tb (Array.getElem?_eq_some_iff.1 h.t).1).trans h.t, h.rows.below hb, h.le, h.ok⟩
theorem WSt.push {tb : Nat} {W0 w V0 V1 : World} {cv av v v' u : Value} {l : List Row} {ar : List Int} {d : Nat} {r : Row} (h : WSt tb W0 w cv av v l ar d) (htb : tb < W0.heap.size) (hb : Below w.heap.size w V0) (hg : V0.grownBy V1 v.ownBlock) (hv' : ∀ cells, w.ownsRow W0.heap.size 50 2 v l.length cells → V1.ownsRow W0.heap.size 50 2 v' (l.length + 1) (cells ++ [.int .i64 r.1, u])) (ho : v'.ownBlock = v.ownBlock ∨ v'.ownBlock = some V0.heap.size)
    (hu : w.ownsRow W0.heap.size 3 1 u r.2.length (r.2.map (Value.int .i64))) (h24 : l.length < 24) (hr : FitsRow ar r ∧ ∀ x ∈ r.2, x < d) :
    WSt tb W0 (V1.setCell ⟨tb, 1, none⟩ v') cv av v' (l ++ [r]) ar d ∧ V1.cell? ⟨tb, 1, none⟩ = some v ∧ V1.frozen? ⟨tb, 1, none⟩ = false := by
  obtain ⟨cells, q1, -⟩ := id h.rows
  obtain ⟨k1, k2, k3, k4, k5⟩ := push_step (off := 1) h.oth h.t htb q1 hb hg (hv' cells q1)
  refine ⟨⟨k1, by simpa [tC] using k2, h.rows.push hb hg ⟨_, h.t⟩ hv' ho hu, by rw [List.length_append]; exact h24, fun x hx => ?_⟩, by rw [k4]; simp [tC], k5⟩
  rcases List.mem_append.1 hx with hx | hx
  · exact h.ok x hx
  · rw [List.mem_singleton] at hx; subst hx; exact hr
/-- a row being made: its places so far -/
structure ISt (b9 : Nat) (pi : Int) (Wi w : World) (v : Value) (l : List Int) (d : Nat) : Prop where
  oth : Oth b9 Wi w
  t : w.heap[b9]? = some (.cells #[.int .i64 pi, v] 50 (0, 0))
  own : w.ownsRow Wi.heap.size 3 1 v l.length (l.map (Value.int .i64))
  ok : ∀ x ∈ l, 0 ≤ x ∧ x < d
theorem ISt.below {b9 : Nat} {pi : Int} {Wi w V : World} {v : Value} {l : List Int} {d : Nat} (h : ISt b9 pi Wi w v l d) (hb : Below w.heap.size w V) : ISt b9 pi Wi V v l d :=
  ⟨h.oth.trans (.below hb), (hb.block b9 (Array.getElem?_eq_some_iff.1 h.t).1).trans h.t, owns_below h.own hb (Nat.le_refl _), h.ok⟩
theorem ISt.cells {b9 : Nat} {pi : Int} {Wi w : World} {v : Value} {l : List Int} {d : Nat} (h : ISt b9 pi Wi w v l d) : w.cell? ⟨b9, 0, none⟩ = some (.int .i64 pi) ∧ w.cell? ⟨b9, 1, none⟩ = some v := by
  have := h.t
  simp [World.cell?, this]
theorem ISt.push {b9 : Nat} {pi : Int} {Wi w V0 V1 : World} {v v' : Value} {l : List Int} {d : Nat} {c : Int} (h : ISt b9 pi Wi w v l d) (hb9 : b9 < Wi.heap.size) (hb : Below w.heap.size w V0) (hg : V0.grownBy V1 v.ownBlock) (hv' : V1.ownsRow Wi.heap.size 3 1 v' (l.length + 1) (l.map (Value.int .i64) ++ [.int .i64 c])) (hc : 0 ≤ c ∧ c < d) :
    ISt b9 pi Wi (V1.setCell ⟨b9, 1, none⟩ v') v' (l ++ [c]) d ∧ V1.cell? ⟨b9, 1, none⟩ = some v ∧ V1.frozen? ⟨b9, 1, none⟩ = false := by
  obtain ⟨k1, k2, k3, k4, k5⟩ := push_step (off := 1) h.oth h.t hb9 h.own hb hg hv'
  refine ⟨⟨k1, by simpa using k2, by rw [List.length_append, List.map_append]; exact k3, fun x hx => ?_⟩, by rw [k4]; simp, k5⟩
  rcases List.mem_append.1 hx with hx | hx
  · exact h.ok x hx
  · rw [List.mem_singleton] at hx; subst hx; exact hc
def TamedEnd (T : WorldV) (w : World) (e : Ending) (w' : World) : Prop := ∃ T' : WorldV, e = .returned (.agg T'.cells) ∧ TameW w.heap.size w' T' ∧ Below w.heap.size w w' ∧ T'.rows.length = min T.rows.length 24 ∧ T'.R.hp = T.R.hp ∧ T'.R.ha = T.R.ha ∧ T'.R.hn = T.R.hn ∧ T'.R.hc = T.R.hc
theorem Oth.chg {tb : Nat} {vb : Option Nat} {w V V2 : World} (h : Oth tb w V) (k : Chg tb vb V V2) : Chg tb vb w V2 := ⟨k.os.trans h.os, k.tape.trans h.tape, k.output.trans h.output, Nat.le_trans h.size k.size, fun j hj h1 h2 => (k.keep j (Nat.lt_of_lt_of_le hj h.size) h1 h2).trans (h.keep j hj h1)⟩
/-- what the walk of Tamed leaves is a tame world -/
theorem tamed_fin {w W0 W1 W2 W3 WT V : World} {tb b2 : Nat} {aa ra ca : Option Addr} {ac rc cc : Nat} {ar : List Int} {rows : List Row} {cs : List C3} {R : RuleV} {K : Int} {cz : Array Value} {av cv : Value}
    (hS : CSt tb W0 W1 (.slice ca cs.length cc) cs) (hA : ASt tb W1 W2 cv (.slice aa ar.length ac) ar) (hW : WSt tb W2 W3 cv av (.slice ra rows.length rc) rows ar cs.length) (hT : Below W3.heap.size W3 WT) (hV : Chg tb (some b2) WT V)
    (hb : Below w.heap.size w W0) (htb : w.heap.size ≤ tb ∧ tb < W0.heap.size) (hb2 : w.heap.size ≤ b2 ∧ b2 ≠ tb) (hc2 : W0.heap[b2]? = some (.cells cz 34 (0, 0))) (h1c : 1 ≤ cs.length) (h1a : 1 ≤ ar.length)
    (hR : ∀ V : World, (∀ j, W3.heap.size ≤ j → j < WT.heap.size → V.heap[j]? = WT.heap[j]?) → RuleIn V R) (hok : RuleOk R cs.length) (l1 : R.pos.length ≤ 4) (l2 : R.tests.length ≤ 3) (l3 : R.neg.length ≤ 3) (hp : ∀ p ∈ R.pos, PatT ar cs.length p) (hn : ∀ p ∈ R.neg, PatT ar cs.length p)
    (hv : WT.ownsRow W3.heap.size 9 1 (.slice R.va R.nv R.vc) R.nv (List.replicate R.nv vV)) (hK : 0 ≤ K ∧ K ≤ R.pos.length + R.tests.length + R.neg.length) (h24 : rows.length ≤ 24) :
    TameW w.heap.size V ⟨aa, ac, ar, ra, rc, rows, ca, cc, cs, R, K⟩ ∧ Below w.heap.size w V := by
  have z0 := hb.size
  have z1 := hS.oth.size
  have z2 := hA.oth.size
  have z3 := hW.oth.size
  have z4 := hT.size
  have hlt2 := (Array.getElem?_eq_some_iff.1 hc2).1
  have c3 : Chg tb (some b2) W3 V := Chg.trans_below hT hV
  have c2 : Chg tb (some b2) W2 V := Oth.chg hW.oth c3
  have c1 : Chg tb (some b2) W1 V := Oth.chg hA.oth c2
  have q1 : W1.heap[b2]? = some (.cells cz 34 (0, 0)) := (hS.oth.keep b2 hlt2 hb2.2).trans hc2
  have q2 : W2.heap[b2]? = some (.cells cz 34 (0, 0)) := (hA.oth.keep b2 (by omega) hb2.2).trans q1
  have q3 : W3.heap[b2]? = some (.cells cz 34 (0, 0)) := (hW.oth.keep b2 (by omega) hb2.2).trans q2
  have far : ∀ j, W3.heap.size ≤ j → j < WT.heap.size → V.heap[j]? = WT.heap[j]? := fun j h1 h2 => hV.keep j h2 (by omega) (by simp; omega)
  have hbel : Below w.heap.size w V := by
    have b1 : Below w.heap.size W0 W1 := hS.oth.low htb.1 z0
    have b2' : Below w.heap.size W1 W2 := hA.oth.low htb.1 (by omega)
    have b3 : Below w.heap.size W2 W3 := hW.oth.low htb.1 (by omega)
    have b4 : Below w.heap.size W3 WT := hT.mono (by omega)
    have b5 : Below w.heap.size WT V := ⟨hV.os, hV.tape, hV.output, hV.size, fun j hj => hV.keep j (by omega) (by omega) (by simp; omega)⟩
    exact (((hb.trans b1).trans b2').trans b3).trans (b4.trans b5)
  have hcon : ∃ a c, Value.slice ca cs.length cc = .slice a cs.length c ∧ Consts V a cs := consts_row (c1.owns hS.own (fun g cur _ hc => ⟨typ_ne hc hS.t (by decide), by
    intro e
    injection e with e
    exact typ_ne hc q1 (by decide) e.symm⟩))
  obtain ⟨a, c, e, hcon⟩ := hcon
  cases e
  refine ⟨⟨?_, ⟨h1a, hA.le, hA.ok⟩, ?_, ⟨h24, fun r hr => (hW.ok r hr).1, fun r hr => (hW.ok r hr).2⟩, hcon, ⟨⟨by have := hS.le; simp only; omega, fun c hc => (hS.ok c hc).1, fun c hc => (hS.ok c hc).2, hS.once⟩, h1c, hS.le⟩, hR V far, hok, ⟨l1, l2, l3⟩, hp, hn, ?_, hK⟩, hbel⟩
  · exact owns_base (c2.owns hA.own (fun g cur _ hc => ⟨typ_ne hc hA.t (by decide), by
      intro e
      injection e with e
      exact typ_ne hc q2 (by decide) e.symm⟩)) (by omega)
  · refine RowL.low (hW.rows.chg c3 (fun g cur hc => ⟨typ_ne hc hW.t (by decide), ?_⟩) (fun g cur hc => ⟨typ_ne hc hW.t (by decide), ?_⟩)) (by omega)
    · intro e
      injection e with e
      exact typ_ne hc q3 (by decide) e.symm
    · intro e
      injection e with e
      exact typ_ne hc q3 (by decide) e.symm
  · exact owns_base (owns_block hv (fun g hg => far g (hv.lt g hg).1 (hv.lt g hg).2)) (by omega)
/-- the seven stores of the rule's cells -/
theorem seven_stores {w V : World} {b : Nat} {T : TypeId} {a0 a1 a2 z3 z4 z5 z6 z7 z8 z9 a10 x3 x4 x5 x6 x7 x8 x9 : Value} (h : w.heap[b]? = some (.cells #[a0, a1, a2, z3, z4, z5, z6, z7, z8, z9, a10] T (0, 0)))
    (hV : V = ((((((w.setCell ⟨b, 3, none⟩ x3).setCell ⟨b, 4, none⟩ x4).setCell ⟨b, 5, none⟩ x5).setCell ⟨b, 6, none⟩ x6).setCell ⟨b, 7, none⟩ x7).setCell ⟨b, 8, none⟩ x8).setCell ⟨b, 9, none⟩ x9) :
    V.heap[b]? = some (.cells #[a0, a1, a2, x3, x4, x5, x6, x7, x8, x9, a10] T (0, 0)) ∧ Chg b none w V := by
  subst hV
  refine ⟨by simpa using heap_setCell (j := 9) (heap_setCell (j := 8) (heap_setCell (j := 7) (heap_setCell (j := 6) (heap_setCell (j := 5) (heap_setCell (j := 4) (heap_setCell (j := 3) h x3) x4) x5) x6) x7) x8) x9, ?_⟩
  exact ((((((chg_store _ _ _ _).trans (chg_store _ _ _ _)).trans (chg_store _ _ _ _)).trans (chg_store _ _ _ _)).trans (chg_store _ _ _ _)).trans (chg_store _ _ _ _)).trans (chg_store _ _ _ _)
/-- the eleven stores of a world's cells -/
theorem eleven_stores {w V : World} {b : Nat} {T : TypeId} {a0 a1 a2 a3 a4 a5 a6 a7 a8 a9 a10 x0 x1 x2 x3 x4 x5 x6 x7 x8 x9 x10 : Value} (h : w.heap[b]? = some (.cells #[a0, a1, a2, a3, a4, a5, a6, a7, a8, a9, a10] T (0, 0)))
    (hV : V = ((((((((((w.setCell ⟨b, 0, none⟩ x0).setCell ⟨b, 1, none⟩ x1).setCell ⟨b, 2, none⟩ x2).setCell ⟨b, 3, none⟩ x3).setCell ⟨b, 4, none⟩ x4).setCell ⟨b, 5, none⟩ x5).setCell ⟨b, 6, none⟩ x6).setCell ⟨b, 7, none⟩ x7).setCell ⟨b, 8, none⟩ x8).setCell ⟨b, 9, none⟩ x9).setCell ⟨b, 10, none⟩ x10) :
    V.heap[b]? = some (.cells #[x0, x1, x2, x3, x4, x5, x6, x7, x8, x9, x10] T (0, 0)) ∧ Chg b none w V := by
  subst hV
  refine ⟨by simpa using heap_setCell (j := 10) (heap_setCell (j := 9) (heap_setCell (j := 8) (heap_setCell (j := 7) (heap_setCell (j := 6) (heap_setCell (j := 5) (heap_setCell (j := 4) (heap_setCell (j := 3) (heap_setCell (j := 2) (heap_setCell (j := 1) (heap_setCell (j := 0) h x0) x1) x2) x3) x4) x5) x6) x7) x8) x9) x10, ?_⟩
  exact ((((((((((chg_store _ _ _ _).trans (chg_store _ _ _ _)).trans (chg_store _ _ _ _)).trans (chg_store _ _ _ _)).trans (chg_store _ _ _ _)).trans (chg_store _ _ _ _)).trans (chg_store _ _ _ _)).trans (chg_store _ _ _ _)).trans (chg_store _ _ _ _)).trans (chg_store _ _ _ _)).trans (chg_store _ _ _ _)
set_option linter.unusedSimpArgs false in
set_option maxHeartbeats 16000000 in
set_option maxRecDepth 100000 in
theorem tamed_any (T : WorldV) (w : World) (hA : Ints w T.aa T.ar) (hR : RowsZ (fun _ => True) w T.ra T.rc T.rows) (hC : Consts w T.ca T.cs) (hok : ∀ c ∈ T.cs, C3Ok c) (hru : RuleIn w T.R) (hl : T.cs.length ≤ maxLen) :
    Calls Try.prog 11 #[.agg T.cells] w (TamedEnd T w) := by
  have HA := Lib.hid hA
  have HR := Lib.hid hR
  have HC := Lib.hid hC
  have HOK := Lib.hid hok
  have HRU := Lib.hid hru
  clear hA hR hC hok hru
  obtain ⟨aa, ac, ar, ra, rc, rows, ca, cc, cs0, R, K⟩ := T
  obtain ⟨hp, rha, rhn, rhc, pa, pc, pos, ta, tc, tests, na, nc, neg, rva, nv0, rvc, cl⟩ := R
  unfold WorldV.cells
  simp only at HA HR HC HOK HRU hl ⊢
  obtain ⟨AR, hAR⟩ : ∃ n, n = ar.length := ⟨_, rfl⟩
  obtain ⟨RN, hRN⟩ : ∃ n, n = rows.length := ⟨_, rfl⟩
  obtain ⟨CN, hCN⟩ : ∃ n, n = cs0.length := ⟨_, rfl⟩
  obtain ⟨P, hPl⟩ : ∃ n, n = pos.length := ⟨_, rfl⟩
  obtain ⟨TN, hTl⟩ : ∃ n, n = tests.length := ⟨_, rfl⟩
  obtain ⟨G, hGl⟩ : ∃ n, n = neg.length := ⟨_, rfl⟩
  rw [← hCN] at hl
  rw [← hAR, ← hRN, ← hCN, ← hPl, ← hTl, ← hGl]
  have HAR := Lib.hid hAR
  have HRN := Lib.hid hRN
  have HCN := Lib.hid hCN
  have HPl := Lib.hid hPl
  have HTl := Lib.hid hTl
  have HGl := Lib.hid hGl
  have hl2 : (CN : Int) ≤ 9223372036854775807 := by unfold maxLen at hl; omega
  clear hAR hRN hCN hPl hTl hGl
  obtain ⟨b1, hb1⟩ : ∃ b, b = w.heap.size := ⟨_, rfl⟩
  obtain ⟨b2, hb2⟩ : ∃ b, b = w.heap.size + 1 := ⟨_, rfl⟩
  obtain ⟨tb, htb⟩ : ∃ b, b = w.heap.size + 1 + 1 := ⟨_, rfl⟩
  obtain ⟨wcs, hwc⟩ : ∃ c : Array Value, c = #[.slice aa AR ac, .slice ra RN rc, .slice ca CN cc, .int .i64 hp, .slice rha rhn rhc, .slice pa P pc, .slice ta TN tc, .slice na G nc, .slice rva nv0 rvc, .int .i64 cl, .int .i64 K] := ⟨_, rfl⟩
  obtain ⟨W0, hW0⟩ : ∃ V, V = ((w.alloc (.cells wcs 34)).alloc (.cells (tC (.slice none 0 0) (.slice none 0 0) (.slice none 0 0)) 34)).alloc (.cells (tC (.slice none 0 0) (.slice none 0 0) (.slice none 0 0)) 34) := ⟨_, rfl⟩
  obtain ⟨q1, q2, q3⟩ := blk3 w (.cells wcs 34) (.cells (tC (.slice none 0 0) (.slice none 0 0) (.slice none 0 0)) 34) (.cells (tC (.slice none 0 0) (.slice none 0 0) (.slice none 0 0)) 34)
  rw [← hW0] at q1 q2 q3
  rw [← hb1] at q1
  rw [← hb2] at q2
  rw [← htb] at q3
  have hsz : W0.heap.size = w.heap.size + 3 := by rw [hW0]; simp
  have hb0 : Below w.heap.size w W0 := by rw [hW0]; exact (((Below.refl _ _).alloc (Nat.le_refl _) _).alloc (by simp) _).alloc (by simp; omega) _
  have C0 : CSt tb W0 W0 (.slice none 0 0) [] := ⟨Oth.refl _ _, q3, World.ownsRow_nil _ _ _ _, by simp, fun c hc => (by cases hc), List.nodup_nil⟩
  have HC0 := Lib.hid C0
  have HQ1 := Lib.hid q1
  have HQ2 := Lib.hid q2
  have HB0 := Lib.hid hb0
  have Hwc := Lib.hid hwc
  have Hbs : Hid (b1 = w.heap.size ∧ b2 = w.heap.size + 1 ∧ tb = w.heap.size + 1 + 1 ∧ W0.heap.size = w.heap.size + 3) := Lib.hid ⟨hb1, hb2, htb, hsz⟩
  have HW0 : Hid (W0 = ((w.alloc (.cells #[.slice aa AR ac, .slice ra RN rc, .slice ca CN cc, .int .i64 hp, .slice rha rhn rhc, .slice pa P pc, .slice ta TN tc, .slice na G nc, .slice rva nv0 rvc, .int .i64 cl, .int .i64 K] 34)).alloc (.cells #[.slice none 0 0, .slice none 0 0, .slice none 0 0, .int .i64 0, .slice none 0 0, .slice none 0 0, .slice none 0 0, .slice none 0 0, .slice none 0 0, .int .i64 0, .int .i64 0] 34)).alloc (.cells #[.slice none 0 0, .slice none 0 0, .slice none 0 0, .int .i64 0, .slice none 0 0, .slice none 0 0, .slice none 0 0, .slice none 0 0, .slice none 0 0, .int .i64 0, .int .i64 0] 34)) := Lib.hid (by rw [hW0, hwc]; rfl)
  clear C0 q1 q2 q3 hsz hb0 hW0 hb1 hb2 htb hwc
  have x1 : W0.cell? ⟨b1, 2, none⟩ = some (.slice ca CN cc) := by have := HQ1.out; simp [World.cell?, this, Hwc.out]
  go_enter Try.func11, Try.ntmps11
  go_upto_region 2 with fail
  rw [← HW0.out, ← Hbs.out.2.2.1, ← Hbs.out.2.1, ← Hbs.out.1]
  go_upto_block 0 with fail
  go_cut [] (fun wr => ∃ (cv : Value) (cs : List C3), Hid (CSt tb W0 wr cv cs))
  case first =>
    go_wp2_with fail
    go_loopw [15] (fun t wr => ∃ (i : Nat) (cv : Value) (cs : List C3), t = .int .i64 i ∧ i ≤ CN ∧ Hid (CSt tb W0 wr cv cs)) (fun t _ => CN - (intOf t).toNat)
    case atStart => exact ⟨0, _, [], rfl, by omega, HC0⟩
    case round =>
      clear HC0 x1
      obtain ⟨i, cv, cs, rfl, hiC, HS⟩ := hrel
      by_cases hlt : i < CN
      · have hcl : i < cs0.length := by rw [← HCN.out]; exact hlt
        obtain ⟨bc, oc, hca, hcc⟩ : ∃ b off, ca = some ⟨b, off, none⟩ ∧ ∀ i (h : i < cs0.length), w.cell? ⟨b, off + i * 3, none⟩ = some (.int .i64 cs0[i].1) ∧ w.cell? ⟨b, off + i * 3 + 1, none⟩ = some (.int .i64 cs0[i].2.1) ∧ w.cell? ⟨b, off + i * 3 + 2, none⟩ = some (.string cs0[i].2.2) := by
          rcases HC.out with h | h
          · rw [h] at hcl; simp at hcl
          · exact h
        obtain ⟨c0, c1, c2⟩ := hcc i hcl
        obtain ⟨⟨x1, x2, x3⟩, hx⟩ : ∃ x, x = cs0[i] := ⟨_, rfl⟩
        rw [← hx] at c0 c1 c2
        have hmem : (x1, x2, x3) ∈ cs0 := by rw [hx]; exact List.getElem_mem _
        have HX := Lib.hid (HOK.out _ hmem)
        have hold : Below w.heap.size w wr := HB0.out.trans (HS.out.oth.low (by have := Hbs.out; omega) HB0.out.size)
        have c0 := below_cell hold (Nat.le_refl _) c0
        have c1 := below_cell hold (Nat.le_refl _) c1
        have c2 := below_cell hold (Nat.le_refl _) c2
        simp only at c0 c1 c2
        have Hlow := Lib.hid hold.size
        clear hcc hx hmem hold hcl
        subst hca
        obtain ⟨va2, vc2, rfl⟩ := owns_shape' HS.out.own
        have HCR : Hid (Consts wr va2 cs) := Lib.hid (by obtain ⟨a, c, h, hh⟩ := consts_row HS.out.own; cases h; exact hh)
        go_upto_region 5 with fail
        clear c0 c1 c2
        obtain ⟨W1, hW1⟩ : ∃ V, V = wr.alloc (.cells #[.int .i64 x1, .int .i64 x2, .string x3] 65) := ⟨_, rfl⟩
        obtain ⟨b5, hb5⟩ : ∃ b, b = wr.heap.size := ⟨_, rfl⟩
        have hbw : Below wr.heap.size wr W1 := by rw [hW1]; exact (Below.refl _ _).alloc (Nat.le_refl _) _
        have y0 : W1.cell? ⟨b5, 0, none⟩ = some (.int .i64 x1) := by rw [hW1, hb5]; simp
        have y1 : W1.cell? ⟨b5, 1, none⟩ = some (.int .i64 x2) := by rw [hW1, hb5]; simp
        have y2 : W1.cell? ⟨b5, 2, none⟩ = some (.string x3) := by rw [hW1, hb5]; simp
        have y3 := on_cell hbw HS.out.tcell
        rw [← hW1, ← hb5]
        clear hW1 hb5
        have cV := Lib.hid (Sym.valid_any x1 x2 x3 W1 (by have := HX.out.2.2; unfold maxLen at this; simp only at this; omega))
        have cA := fun W (hW : Below wr.heap.size wr W) => Lib.hid (at_any va2 vc2 cs (x1, x2, x3) W (HCR.out.below hW (Nat.le_refl _)) (by have := HS.out.le; omega))
        obtain ⟨bv, hbv⟩ : ∃ b, b = Sym.validC x1 x2 x3.data.toList := ⟨_, rfl⟩
        rw [← hbv] at cV
        have HV := Lib.hid hbv
        clear hbv
        simp only at cA
        cases bv with
        | false =>
          go_wp2_with (first | (go_at_call 27; (with_reducible refine cV.out.mono ?_); rintro e V1 ⟨rfl, hV1⟩; replace y3 := on_cell hV1 y3; replace hbw := hbw.trans (hV1.mono hbw.size)))
          go_roundw
          case rel => exact ⟨i + 1, _, cs, by go_num, by omega, Lib.hid (HS.out.below hbw)⟩
          case measure => simp [intOf]; omega
        | true =>
          by_cases h5 : cs.length < 5
          · have h5i : (cs.length : Int) < 5 := by omega
            have htbW : tb < W0.heap.size := by have := Hbs.out; omega
            go_upto_if 33 with (first | (go_at_call 27; (with_reducible refine cV.out.mono ?_); rintro e V1 ⟨rfl, hV1⟩; replace y0 := on_cell hV1 y0; replace y1 := on_cell hV1 y1; replace y2 := on_cell hV1 y2; replace y3 := on_cell hV1 y3; replace hbw := hbw.trans (hV1.mono hbw.size)) | (go_at_call 40; (with_reducible refine (cA _ hbw).out.mono ?_); rintro e V2 ⟨r, rfl, hr, hV2⟩; replace y0 := on_cell hV2 y0; replace y1 := on_cell hV2 y1; replace y2 := on_cell hV2 y2; replace y3 := on_cell hV2 y3; replace hbw := hbw.trans (hV2.mono hbw.size)))
            have Hr := Lib.hid hr
            clear hr cA cV
            by_cases hr0 : r < 0
            · have hown := owns_below HS.out.own hbw (Nat.le_refl _)
              have hz1 := HS.out.oth.size
              have hz2 := hbw.size
              go_wp2_with (first | (at_builtin; refine wpList_append_any elemC3 _ rfl _ _ rfl W0.heap.size _ cs.length (c3Cells cs) rfl (hown.alloc _) (some ⟨V2.heap.size, 0, none⟩) 1 1 [.int .i64 x1, .int .i64 x2, .string x3] rfl (source_new _ _ _) rfl (by simp [Value.oneCell']) (by unfold maxLen; omega) (by omega) (by simp; omega) ?_; intro v' w2 hown2 hgrow2 hblk2; obtain ⟨va3, vc3, rfl⟩ := owns_shape' hown2; obtain ⟨p1, p2, p3⟩ := HS.out.push (c := (x1, x2, x3)) htbW (hbw.alloc hbw.size _) hgrow2 hown2 h5 ⟨HX.out, HV.out.symm⟩ (Hr.out hr0); have P1 := Lib.hid p1; clear p1 hown2 hgrow2 hblk2))
              go_roundw
              case rel => exact ⟨i + 1, _, _, by go_num, by omega, P1⟩
              case measure => simp [intOf]; omega
            · go_wp2_with fail
              go_roundw
              case rel => exact ⟨i + 1, _, cs, by go_num, by omega, Lib.hid (HS.out.below hbw)⟩
              case measure => simp [intOf]; omega
          · have h5i : ¬ ((cs.length : Int) < 5) := by omega
            go_wp2_with (first | (go_at_call 27; (with_reducible refine cV.out.mono ?_); rintro e V1 ⟨rfl, hV1⟩; replace y3 := on_cell hV1 y3; replace hbw := hbw.trans (hV1.mono hbw.size)))
            go_roundw
            case rel => exact ⟨i + 1, _, cs, by go_num, by omega, Lib.hid (HS.out.below hbw)⟩
            case measure => simp [intOf]; omega
      · go_wp2_with fail
        go_meet
        exact ⟨cv, cs, HS⟩
  case rest =>
    clear HC0 x1
    obtain ⟨cv, cs, HS⟩ := hcut
    obtain ⟨va2, vc2, rfl⟩ := owns_shape' HS.out.own
    have y3 := HS.out.tcell
    go_upto_if 44 with fail
    go_cut [] (fun wr => ∃ (cv : Value) (cs : List C3), Hid (CSt tb W0 wr cv cs) ∧ Hid (1 ≤ cs.length))
    case first =>
      rcases cs with _ | ⟨c, cs⟩
      · simp only [List.length_nil] at y3
        have htbW : tb < W0.heap.size := by have := Hbs.out; omega
        have hown : wc.ownsRow W0.heap.size 65 3 (.slice va2 0 vc2) 0 [] := HS.out.own
        have hz1 := HS.out.oth.size
        go_wp2_with (first | (at_builtin; refine wpList_append_any elemC3 _ rfl _ _ rfl W0.heap.size _ 0 [] rfl (hown.alloc _) (some ⟨wc.heap.size, 0, none⟩) 1 1 [.int .i64 1, .int .i64 3, .string ByteArray.empty] rfl (source_new _ _ _) rfl (by simp [Value.oneCell']) (by unfold maxLen; omega) (by omega) (by simp; omega) ?_; intro v' w2 hown2 hgrow2 hblk2; obtain ⟨va3, vc3, rfl⟩ := owns_shape' hown2; obtain ⟨p1, p2, p3⟩ := HS.out.push (c := (1, 3, ByteArray.empty)) htbW ((Below.refl _ _).alloc (Nat.le_refl _) _) hgrow2 hown2 (by simp) c13 (fun y hy => by cases hy); have P1 := Lib.hid p1; clear p1 hown2 hgrow2 hblk2 hown))
        go_meet
        exact ⟨_, _, P1, Lib.hid (by simp)⟩
      · go_wp2_with fail
        go_meet
        exact ⟨_, _, HS, Lib.hid (by simp)⟩
    case rest =>
      clear HS y3
      obtain ⟨cv, cs, HS, HL1⟩ := hcut
      obtain ⟨va2, vc2, rfl⟩ := owns_shape' HS.out.own
      have y3 := HS.out.tcell
      have HA0 : Hid (ASt tb wc wc (.slice va2 cs.length vc2) (.slice none 0 0) []) := Lib.hid ⟨Oth.refl _ _, HS.out.t, World.ownsRow_nil _ _ _ _, by simp, fun x hx => (by cases hx)⟩
      obtain ⟨W1, hW1⟩ : ∃ V, V = wc := ⟨_, rfl⟩
      rw [← hW1] at HA0 HS y3 ⊢
      clear hW1
      have htb1 : tb < W1.heap.size ∧ b1 < W1.heap.size ∧ b1 ≠ tb := by have := HS.out.oth.size; have := Hbs.out; omega
      have Htb1 := Lib.hid htb1
      have HQ1a : Hid (W1.heap[b1]? = some (.cells wcs 34 (0, 0))) := Lib.hid ((HS.out.oth.keep b1 (by have := Hbs.out; omega) htb1.2.2).trans HQ1.out)
      have HB1 : Hid (Below w.heap.size w W1) := Lib.hid (HB0.out.trans (HS.out.oth.low (by have := Hbs.out; omega) HB0.out.size))
      clear htb1
      go_upto_block 2 with fail
      clear y3
      go_cut [] (fun wr => ∃ (av : Value) (l : List Int), Hid (ASt tb W1 wr (.slice va2 cs.length vc2) av l))
      case first =>
        go_wp2_with fail
        go_loopw [7] (fun t wr => ∃ (i : Nat) (av : Value) (l : List Int), t = .int .i64 i ∧ i ≤ 5 ∧ Hid (ASt tb W1 wr (.slice va2 cs.length vc2) av l) ∧ Hid (l.length = i)) (fun t _ => 6 - (intOf t).toNat)
        case atStart => exact ⟨0, _, [], rfl, by omega, HA0, Lib.hid rfl⟩
        case round =>
          clear HA0
          obtain ⟨i, av, l, rfl, hi5, HI, HIL⟩ := hrel
          have hb1 := (HI.out.oth.keep b1 Htb1.out.2.1 Htb1.out.2.2).trans HQ1a.out
          have r1 : wr.cell? ⟨b1, 0, none⟩ = some (.slice aa AR ac) := by simp [World.cell?, hb1, Hwc.out]
          clear hb1
          by_cases hlt : i < AR ∧ i < 5
          · obtain ⟨hiA, hi5'⟩ := hlt
            have hi5i : (i : Int) < 5 := by omega
            obtain ⟨ba, oa, rfl, x, c1, HX⟩ := ints_some HA.out (k := i) (by rw [← HAR.out]; exact hiA)
            have hold : Below w.heap.size w wr := HB1.out.trans (HI.out.oth.low (by have := Hbs.out; omega) HB1.out.size)
            have hba : ba < w.heap.size := World.block_lt_of_cell? _ _ c1
            have c1 := below_cell hold (Nat.le_refl _) c1
            obtain ⟨va, vc', rfl⟩ := owns_shape' HI.out.own
            have t3 := HI.out.tcell
            have hlle : l.length < 5 := by rw [HIL.out]; exact hi5'
            have Hvb : Hid (∀ g, (Value.slice va l.length vc').ownBlock = some g → b1 ≠ g ∧ ba ≠ g) := Lib.hid (fun g hg => by
              have h1 := (HI.out.own.lt g hg).1
              have h2 := Htb1.out
              have h3 := HB1.out.size
              exact ⟨by omega, by omega⟩)
            have hn1 : tb ≠ b1 := Ne.symm Htb1.out.2.2
            have hn2 : tb ≠ ba := by have := Hbs.out; omega
            have zi : (0 : Int) ≤ (i : Int) := by omega
            have ziA : (i : Int) < (AR : Int) := by omega
            have cM := fun W => Lib.hid (show Calls Try.prog 33 #[.int .i64 x, .int .i64 4] W fun e w' => ∃ r : Nat, e = .returned (.int .i64 r) ∧ r < 4 ∧ W = w' from mod_any x 4 W (by omega) (by omega))
            clear hold hba HX
            go_upto_region 14 with fail
            obtain ⟨V0, hV0⟩ : ∃ V, V = wr.drew := ⟨_, rfl⟩
            have hbd : Below wr.heap.size wr V0 := by rw [hV0]; exact (Below.refl _ _).drew
            have HI0 := Lib.hid (HI.out.below hbd)
            have r1 := on_cell hbd r1
            have c1 := on_cell hbd c1
            have t3 := on_cell hbd t3
            have hown := HI0.out.own
            have hlow := HI0.out.oth.size
            have hb0 := Below.refl V0.heap.size V0
            clear hbd HI
            refine wp_region_noPanic ?_
            refine wp_region_held_drew (S := (fun w' => w'.cell? ⟨b1, 0, none⟩ = some (.slice (some ⟨ba, oa, none⟩) AR ac) ∧ w'.cell? ⟨ba, oa + i, none⟩ = some (.int .i64 x))) (by kernel_rfl) ?_ (fun hHeld => ?_)
            · rw [← hV0]; exact ⟨r1, c1⟩
            rw [← hV0] at hHeld ⊢
            clear hV0
            refine wpAnyH_take (i := 0) (oi := ⟨some 65, _, _, _, _, _⟩) (v := ?_) rfl (by kernel_rfl) (by kernel_rfl) (by kernel_rfl) (fun _ _ _ h => h) (Or.inl ⟨by rfl, ?_⟩) (by assumption) ?_
            rotate_left 1
            · intro w hSw
              (try dsimp only at hSw)
              go_simp
              all_goals with_reducible rfl
            (try simp only [Act.put, List.setIfInBounds_toArray, List.set_cons_zero, List.set_cons_succ])
            refine wpAnyH_take (i := 2) (oi := ⟨some 67, _, _, _, _, _⟩) (v := ?_) rfl (by kernel_rfl) (by kernel_rfl) (by kernel_rfl) (fun _ _ _ h => h) (Or.inl ⟨by rfl, ?_⟩) (by assumption) ?_
            rotate_left 1
            · intro w hSw
              (try dsimp only at hSw)
              go_simp
              all_goals with_reducible rfl
            (try simp only [Act.put, List.setIfInBounds_toArray, List.set_cons_zero, List.set_cons_succ])
            refine wpAnyH_take (i := 3) (oi := ⟨some 68, _, _, _, _, _⟩) (v := ?_) rfl (by kernel_rfl) (by kernel_rfl) (by kernel_rfl) (fun _ _ _ h => h) (Or.inl ⟨by rfl, ?_⟩) (by assumption) ?_
            rotate_left 1
            · intro w hSw
              (try dsimp only at hSw)
              go_simp
              all_goals with_reducible rfl
            (try simp only [Act.put, List.setIfInBounds_toArray, List.set_cons_zero, List.set_cons_succ])
            refine wpAnyH_take (i := 4) (oi := ⟨some 69, _, _, _, _, _⟩) (v := ?_) rfl (by kernel_rfl) (by kernel_rfl) (by kernel_rfl) (fun _ _ _ h => h) (Or.inl ⟨by rfl, ?_⟩) (by assumption) ?_
            rotate_left 1
            · intro w hSw
              (try dsimp only at hSw)
              go_simp
              all_goals with_reducible rfl
            (try simp only [Act.put, List.setIfInBounds_toArray, List.set_cons_zero, List.set_cons_succ])
            refine wpAnyH_take (i := 5) (oi := ⟨some 70, _, _, _, _, _⟩) (v := ?_) rfl (by kernel_rfl) (by kernel_rfl) (by kernel_rfl) (fun _ _ _ h => h) (Or.inl ⟨by rfl, ?_⟩) (by assumption) ?_
            rotate_left 1
            · intro w hSw
              (try dsimp only at hSw)
              go_simp
              all_goals with_reducible rfl
            (try simp only [Act.put, List.setIfInBounds_toArray, List.set_cons_zero, List.set_cons_succ])
            refine wpAnyH_take (i := 6) (oi := ⟨some 71, _, _, _, _, _⟩) (v := ?_) rfl (by kernel_rfl) (by kernel_rfl) (by kernel_rfl) (fun _ _ _ h => h) (Or.inl ⟨by rfl, ?_⟩) (by assumption) ?_
            rotate_left 1
            · intro w hSw
              (try dsimp only at hSw)
              go_simp
              all_goals with_reducible rfl
            (try simp only [Act.put, List.setIfInBounds_toArray, List.set_cons_zero, List.set_cons_succ])
            refine wpAnyH_ready (rs := [1, 7]) (by kernel_rfl) (by simp) ?_
            refine AllReadyH.cons (o := _) rfl (fun K hK => ?_) ?_
            · have tt := on_cell hb0 t3
              go_simp
              clear tt
              refine hK.out _ _ ?_ (fun hHeld => ?_)
              · exact ⟨on_cell hb0 r1, on_cell hb0 c1⟩
              clear hK K
              (try simp only [Act.put, List.setIfInBounds_toArray, List.set_cons_zero, List.set_cons_succ])
              refine wpAnyH_ready (rs := [7]) (by kernel_rfl) (by simp) ?_
              refine AllReadyH.cons (o := _) rfl (fun K hK => ?_) ?_
              · go_simp
                with_reducible refine (cM _).out.mono ?_
                rintro e _ ⟨r, rfl, hr4, rfl⟩
                refine hK.out _ _ ?_ (fun hHeld => ?_)
                · exact ⟨on_cell hb0 r1, on_cell hb0 c1⟩
                clear hK K
                (try simp only [Act.put, List.setIfInBounds_toArray, List.set_cons_zero, List.set_cons_succ])
                refine wpAnyH_ready (rs := [8]) (by kernel_rfl) (by simp) ?_
                refine AllReadyH.cons (o := _) rfl (fun K hK => ?_) ?_
                · go_simp
                  obtain ⟨V3, hV3⟩ : ∃ W, W = V0.alloc (.cells #[.int .i64 (r : Int)] 3) := ⟨_, rfl⟩
                  obtain ⟨b9, hb9⟩ : ∃ b, b = V0.heap.size := ⟨_, rfl⟩
                  rw [← hV3, ← hb9]
                  have hb3 : Below V0.heap.size V0 V3 := by rw [hV3]; exact (Below.refl _ _).alloc (Nat.le_refl _) _
                  have src3 : Source V3 (some ⟨b9, 0, none⟩) 1 1 [.int .i64 (r : Int)] := by rw [hV3, hb9]; exact source_new V0 [.int .i64 (r : Int)] 3
                  clear hV3 hb9
                  refine hK.out _ _ ?_ (fun hHeld => ?_)
                  · exact ⟨on_cell hb3 r1, on_cell hb3 c1⟩
                  clear hK K
                  (try simp only [Act.put, List.setIfInBounds_toArray, List.set_cons_zero, List.set_cons_succ])
                  refine wpAnyH_ready (rs := [9]) (by kernel_rfl) (by simp) ?_
                  refine AllReadyH.cons (o := _) rfl (fun K hK => ?_) ?_
                  · have hz3 := hb3.size
                    refine step_append_any elemInt _ rfl _ _ rfl W1.heap.size (.slice va l.length vc') l.length (l.map (Value.int .i64)) rfl (owns_below hown hb3 (Nat.le_refl _)) (some ⟨b9, 0, none⟩) 1 1 [.int .i64 (r : Int)] rfl src3 rfl (by simp [Value.oneCell']) (by unfold maxLen; omega) (by omega) (by omega) ?_
                    intro v' V4 hown4 hgrow4 hblk4
                    obtain ⟨va4, vc4, rfl⟩ := owns_shape' hown4
                    obtain ⟨p1, p2, p3⟩ := HI0.out.push Htb1.out.1 hb3 hgrow4 hown4 hlle ⟨by omega, by omega⟩
                    have P1 := Lib.hid p1
                    have hS4 : V4.cell? ⟨b1, 0, none⟩ = some (.slice (some ⟨ba, oa, none⟩) AR ac) ∧ V4.cell? ⟨ba, oa + i, none⟩ = some (.int .i64 x) := ⟨hgrow4.cell (on_cell hb3 r1) (fun e => (Hvb.out _ e.symm).1 rfl), hgrow4.cell (on_cell hb3 c1) (fun e => (Hvb.out _ e.symm).2 rfl)⟩
                    clear p1 hown4 hgrow4 hblk4 src3
                    refine hK.out _ _ ?_ (fun hHeld => ?_)
                    · exact hS4
                    clear hK K
                    (try simp only [Act.put, List.setIfInBounds_toArray, List.set_cons_zero, List.set_cons_succ])
                    refine wpAnyH_take (i := 10) (oi := ⟨some 75, _, _, _, _, _⟩) (v := ?_) rfl (by kernel_rfl) (by kernel_rfl) (by kernel_rfl) (fun _ _ _ h => h) (Or.inl ⟨by rfl, ?_⟩) (by assumption) ?_
                    rotate_left 1
                    · intro w hSw
                      (try dsimp only at hSw)
                      go_simp
                      all_goals with_reducible rfl
                    (try simp only [Act.put, List.setIfInBounds_toArray, List.set_cons_zero, List.set_cons_succ])
                    refine wpAnyH_ready (rs := [11]) (by kernel_rfl) (by simp) ?_
                    refine AllReadyH.cons (o := _) rfl (fun K hK => ?_) ?_
                    · go_simp
                      refine hK.out _ _ ?_ (fun hHeld => ?_)
                      · exact ⟨(World.cell?_setCell_far _ _ _ _ hn1).trans hS4.1, (World.cell?_setCell_far _ _ _ _ hn2).trans hS4.2⟩
                      clear hK K
                      (try simp only [Act.put, List.setIfInBounds_toArray, List.set_cons_zero, List.set_cons_succ])
                      refine wpAnyH_done (by kernel_rfl) ?_ _
                      refine NoPanic.normal ?_
                      have HLX : Hid ((l ++ [(r : Int)]).length = i + 1) := Lib.hid (by rw [List.length_append, HIL.out]; rfl)
                      clear hS4 hHeld
                      go_wp2
                      go_roundw
                      case rel => exact ⟨i + 1, _, _, by go_num, by omega, P1, HLX⟩
                      case measure => simp [intOf]; omega
                    exact AllReadyH.nil
                  exact AllReadyH.nil
                exact AllReadyH.nil
              exact AllReadyH.nil
            refine AllReadyH.cons (o := _) rfl (fun K hK => ?_) ?_
            · go_simp
              with_reducible refine (cM _).out.mono ?_
              rintro e _ ⟨r, rfl, hr4, rfl⟩
              refine hK.out _ _ ?_ (fun hHeld => ?_)
              · exact ⟨on_cell hb0 r1, on_cell hb0 c1⟩
              clear hK K
              (try simp only [Act.put, List.setIfInBounds_toArray, List.set_cons_zero, List.set_cons_succ])
              refine wpAnyH_ready (rs := [1, 8]) (by kernel_rfl) (by simp) ?_
              refine AllReadyH.cons (o := _) rfl (fun K hK => ?_) ?_
              · have tt := on_cell hb0 t3
                go_simp
                clear tt
                refine hK.out _ _ ?_ (fun hHeld => ?_)
                · exact ⟨on_cell hb0 r1, on_cell hb0 c1⟩
                clear hK K
                (try simp only [Act.put, List.setIfInBounds_toArray, List.set_cons_zero, List.set_cons_succ])
                refine wpAnyH_ready (rs := [8]) (by kernel_rfl) (by simp) ?_
                refine AllReadyH.cons (o := _) rfl (fun K hK => ?_) ?_
                · go_simp
                  obtain ⟨V3, hV3⟩ : ∃ W, W = V0.alloc (.cells #[.int .i64 (r : Int)] 3) := ⟨_, rfl⟩
                  obtain ⟨b9, hb9⟩ : ∃ b, b = V0.heap.size := ⟨_, rfl⟩
                  rw [← hV3, ← hb9]
                  have hb3 : Below V0.heap.size V0 V3 := by rw [hV3]; exact (Below.refl _ _).alloc (Nat.le_refl _) _
                  have src3 : Source V3 (some ⟨b9, 0, none⟩) 1 1 [.int .i64 (r : Int)] := by rw [hV3, hb9]; exact source_new V0 [.int .i64 (r : Int)] 3
                  clear hV3 hb9
                  refine hK.out _ _ ?_ (fun hHeld => ?_)
                  · exact ⟨on_cell hb3 r1, on_cell hb3 c1⟩
                  clear hK K
                  (try simp only [Act.put, List.setIfInBounds_toArray, List.set_cons_zero, List.set_cons_succ])
                  refine wpAnyH_ready (rs := [9]) (by kernel_rfl) (by simp) ?_
                  refine AllReadyH.cons (o := _) rfl (fun K hK => ?_) ?_
                  · have hz3 := hb3.size
                    refine step_append_any elemInt _ rfl _ _ rfl W1.heap.size (.slice va l.length vc') l.length (l.map (Value.int .i64)) rfl (owns_below hown hb3 (Nat.le_refl _)) (some ⟨b9, 0, none⟩) 1 1 [.int .i64 (r : Int)] rfl src3 rfl (by simp [Value.oneCell']) (by unfold maxLen; omega) (by omega) (by omega) ?_
                    intro v' V4 hown4 hgrow4 hblk4
                    obtain ⟨va4, vc4, rfl⟩ := owns_shape' hown4
                    obtain ⟨p1, p2, p3⟩ := HI0.out.push Htb1.out.1 hb3 hgrow4 hown4 hlle ⟨by omega, by omega⟩
                    have P1 := Lib.hid p1
                    have hS4 : V4.cell? ⟨b1, 0, none⟩ = some (.slice (some ⟨ba, oa, none⟩) AR ac) ∧ V4.cell? ⟨ba, oa + i, none⟩ = some (.int .i64 x) := ⟨hgrow4.cell (on_cell hb3 r1) (fun e => (Hvb.out _ e.symm).1 rfl), hgrow4.cell (on_cell hb3 c1) (fun e => (Hvb.out _ e.symm).2 rfl)⟩
                    clear p1 hown4 hgrow4 hblk4 src3
                    refine hK.out _ _ ?_ (fun hHeld => ?_)
                    · exact hS4
                    clear hK K
                    (try simp only [Act.put, List.setIfInBounds_toArray, List.set_cons_zero, List.set_cons_succ])
                    refine wpAnyH_take (i := 10) (oi := ⟨some 75, _, _, _, _, _⟩) (v := ?_) rfl (by kernel_rfl) (by kernel_rfl) (by kernel_rfl) (fun _ _ _ h => h) (Or.inl ⟨by rfl, ?_⟩) (by assumption) ?_
                    rotate_left 1
                    · intro w hSw
                      (try dsimp only at hSw)
                      go_simp
                      all_goals with_reducible rfl
                    (try simp only [Act.put, List.setIfInBounds_toArray, List.set_cons_zero, List.set_cons_succ])
                    refine wpAnyH_ready (rs := [11]) (by kernel_rfl) (by simp) ?_
                    refine AllReadyH.cons (o := _) rfl (fun K hK => ?_) ?_
                    · go_simp
                      refine hK.out _ _ ?_ (fun hHeld => ?_)
                      · exact ⟨(World.cell?_setCell_far _ _ _ _ hn1).trans hS4.1, (World.cell?_setCell_far _ _ _ _ hn2).trans hS4.2⟩
                      clear hK K
                      (try simp only [Act.put, List.setIfInBounds_toArray, List.set_cons_zero, List.set_cons_succ])
                      refine wpAnyH_done (by kernel_rfl) ?_ _
                      refine NoPanic.normal ?_
                      have HLX : Hid ((l ++ [(r : Int)]).length = i + 1) := Lib.hid (by rw [List.length_append, HIL.out]; rfl)
                      clear hS4 hHeld
                      go_wp2
                      go_roundw
                      case rel => exact ⟨i + 1, _, _, by go_num, by omega, P1, HLX⟩
                      case measure => simp [intOf]; omega
                    exact AllReadyH.nil
                  exact AllReadyH.nil
                exact AllReadyH.nil
              refine AllReadyH.cons (o := _) rfl (fun K hK => ?_) ?_
              · go_simp
                obtain ⟨V3, hV3⟩ : ∃ W, W = V0.alloc (.cells #[.int .i64 (r : Int)] 3) := ⟨_, rfl⟩
                obtain ⟨b9, hb9⟩ : ∃ b, b = V0.heap.size := ⟨_, rfl⟩
                rw [← hV3, ← hb9]
                have hb3 : Below V0.heap.size V0 V3 := by rw [hV3]; exact (Below.refl _ _).alloc (Nat.le_refl _) _
                have src3 : Source V3 (some ⟨b9, 0, none⟩) 1 1 [.int .i64 (r : Int)] := by rw [hV3, hb9]; exact source_new V0 [.int .i64 (r : Int)] 3
                clear hV3 hb9
                refine hK.out _ _ ?_ (fun hHeld => ?_)
                · exact ⟨on_cell hb3 r1, on_cell hb3 c1⟩
                clear hK K
                (try simp only [Act.put, List.setIfInBounds_toArray, List.set_cons_zero, List.set_cons_succ])
                refine wpAnyH_ready (rs := [1]) (by kernel_rfl) (by simp) ?_
                refine AllReadyH.cons (o := _) rfl (fun K hK => ?_) ?_
                · have tt := on_cell hb3 t3
                  go_simp
                  clear tt
                  refine hK.out _ _ ?_ (fun hHeld => ?_)
                  · exact ⟨on_cell hb3 r1, on_cell hb3 c1⟩
                  clear hK K
                  (try simp only [Act.put, List.setIfInBounds_toArray, List.set_cons_zero, List.set_cons_succ])
                  refine wpAnyH_ready (rs := [9]) (by kernel_rfl) (by simp) ?_
                  refine AllReadyH.cons (o := _) rfl (fun K hK => ?_) ?_
                  · have hz3 := hb3.size
                    refine step_append_any elemInt _ rfl _ _ rfl W1.heap.size (.slice va l.length vc') l.length (l.map (Value.int .i64)) rfl (owns_below hown hb3 (Nat.le_refl _)) (some ⟨b9, 0, none⟩) 1 1 [.int .i64 (r : Int)] rfl src3 rfl (by simp [Value.oneCell']) (by unfold maxLen; omega) (by omega) (by omega) ?_
                    intro v' V4 hown4 hgrow4 hblk4
                    obtain ⟨va4, vc4, rfl⟩ := owns_shape' hown4
                    obtain ⟨p1, p2, p3⟩ := HI0.out.push Htb1.out.1 hb3 hgrow4 hown4 hlle ⟨by omega, by omega⟩
                    have P1 := Lib.hid p1
                    have hS4 : V4.cell? ⟨b1, 0, none⟩ = some (.slice (some ⟨ba, oa, none⟩) AR ac) ∧ V4.cell? ⟨ba, oa + i, none⟩ = some (.int .i64 x) := ⟨hgrow4.cell (on_cell hb3 r1) (fun e => (Hvb.out _ e.symm).1 rfl), hgrow4.cell (on_cell hb3 c1) (fun e => (Hvb.out _ e.symm).2 rfl)⟩
                    clear p1 hown4 hgrow4 hblk4 src3
                    refine hK.out _ _ ?_ (fun hHeld => ?_)
                    · exact hS4
                    clear hK K
                    (try simp only [Act.put, List.setIfInBounds_toArray, List.set_cons_zero, List.set_cons_succ])
                    refine wpAnyH_take (i := 10) (oi := ⟨some 75, _, _, _, _, _⟩) (v := ?_) rfl (by kernel_rfl) (by kernel_rfl) (by kernel_rfl) (fun _ _ _ h => h) (Or.inl ⟨by rfl, ?_⟩) (by assumption) ?_
                    rotate_left 1
                    · intro w hSw
                      (try dsimp only at hSw)
                      go_simp
                      all_goals with_reducible rfl
                    (try simp only [Act.put, List.setIfInBounds_toArray, List.set_cons_zero, List.set_cons_succ])
                    refine wpAnyH_ready (rs := [11]) (by kernel_rfl) (by simp) ?_
                    refine AllReadyH.cons (o := _) rfl (fun K hK => ?_) ?_
                    · go_simp
                      refine hK.out _ _ ?_ (fun hHeld => ?_)
                      · exact ⟨(World.cell?_setCell_far _ _ _ _ hn1).trans hS4.1, (World.cell?_setCell_far _ _ _ _ hn2).trans hS4.2⟩
                      clear hK K
                      (try simp only [Act.put, List.setIfInBounds_toArray, List.set_cons_zero, List.set_cons_succ])
                      refine wpAnyH_done (by kernel_rfl) ?_ _
                      refine NoPanic.normal ?_
                      have HLX : Hid ((l ++ [(r : Int)]).length = i + 1) := Lib.hid (by rw [List.length_append, HIL.out]; rfl)
                      clear hS4 hHeld
                      go_wp2
                      go_roundw
                      case rel => exact ⟨i + 1, _, _, by go_num, by omega, P1, HLX⟩
                      case measure => simp [intOf]; omega
                    exact AllReadyH.nil
                  exact AllReadyH.nil
                exact AllReadyH.nil
              exact AllReadyH.nil
            exact AllReadyH.nil
          · by_cases hiA : i < AR
            · have hi5i : ¬ ((i : Int) < 5) := by omega
              go_wp2_with fail
              go_meet
              exact ⟨av, l, HI⟩
            · go_wp2_with fail
              go_meet
              exact ⟨av, l, HI⟩
      case rest =>
        clear HA0
        obtain ⟨av, l, HI⟩ := hcut
        obtain ⟨va, vc', rfl⟩ := owns_shape' HI.out.own
        have t3 := HI.out.tcell
        go_upto_if 79 with fail
        go_cut [] (fun wr => ∃ (av : Value) (l : List Int), Hid (ASt tb W1 wr (.slice va2 cs.length vc2) av l) ∧ Hid (1 ≤ l.length))
        case first =>
          rcases l with _ | ⟨c, l⟩
          · simp only [List.length_nil] at t3
            have hown : wc.ownsRow W1.heap.size 3 1 (.slice va 0 vc') 0 [] := HI.out.own
            have hz1 := HI.out.oth.size
            go_wp2_with (first | (at_builtin; refine wpList_append_any elemInt _ rfl _ _ rfl W1.heap.size _ 0 [] rfl (hown.alloc _) (some ⟨wc.heap.size, 0, none⟩) 1 1 [.int .i64 1] rfl (source_new _ _ _) rfl (by simp [Value.oneCell']) (by unfold maxLen; omega) (by omega) (by simp; omega) ?_; intro v' w2 hown2 hgrow2 hblk2; obtain ⟨va3, vc3, rfl⟩ := owns_shape' hown2; obtain ⟨p1, p2, p3⟩ := HI.out.push (c := 1) Htb1.out.1 ((Below.refl _ _).alloc (Nat.le_refl _) _) hgrow2 hown2 (by simp) ⟨by omega, by omega⟩; have P1 := Lib.hid p1; clear p1 hown2 hgrow2 hblk2 hown))
            go_meet
            exact ⟨_, _, P1, Lib.hid (by simp)⟩
          · go_wp2_with fail
            go_meet
            exact ⟨_, _, HI, Lib.hid (by simp)⟩
        case rest =>
          clear HI t3
          obtain ⟨av, ar2, HI, HA1⟩ := hcut
          obtain ⟨va, vc', rfl⟩ := owns_shape' HI.out.own
          have t3 := HI.out.tcell
          have HR0 : Hid (WSt tb wc wc (.slice va2 cs.length vc2) (.slice va ar2.length vc') (.slice none 0 0) [] ar2 cs.length) := Lib.hid ⟨Oth.refl _ _, HI.out.t, RowL.nil _ _, by simp, fun r hr => (by cases hr)⟩
          obtain ⟨W2, hW2⟩ : ∃ V, V = wc := ⟨_, rfl⟩
          rw [← hW2] at HR0 HI t3 ⊢
          clear hW2
          have htb2 : tb < W2.heap.size ∧ b1 < W2.heap.size ∧ b1 ≠ tb := by have := HI.out.oth.size; have := Htb1.out; omega
          have Htb2 := Lib.hid htb2
          have HQ2a : Hid (W2.heap[b1]? = some (.cells wcs 34 (0, 0))) := Lib.hid ((HI.out.oth.keep b1 Htb1.out.2.1 htb2.2.2).trans HQ1a.out)
          have HB2 : Hid (Below w.heap.size w W2) := Lib.hid (HB1.out.trans (HI.out.oth.low (by have := Hbs.out; omega) HB1.out.size))
          clear htb2
          go_upto_block 4 with fail
          clear t3
          go_cut [] (fun wr => ∃ (rv : Value) (l : List Row), Hid (WSt tb W2 wr (.slice va2 cs.length vc2) (.slice va ar2.length vc') rv l ar2 cs.length) ∧ Hid (l.length = min RN 24))
          case first =>
            go_wp2_with fail
            go_loopw [8] (fun t wr => ∃ (i : Nat) (rv : Value) (l : List Row), t = .int .i64 i ∧ i ≤ 24 ∧ i ≤ RN ∧ Hid (WSt tb W2 wr (.slice va2 cs.length vc2) (.slice va ar2.length vc') rv l ar2 cs.length) ∧ Hid (l.length = i)) (fun t _ => 25 - (intOf t).toNat)
            case atStart => exact ⟨0, _, [], rfl, by omega, by omega, HR0, Lib.hid rfl⟩
            case round =>
              clear HR0
              obtain ⟨i, rv, l, rfl, hi24, hiN, HW, HWL⟩ := hrel
              have hb1 := (HW.out.oth.keep b1 Htb2.out.2.1 Htb2.out.2.2).trans HQ2a.out
              have r1 : wr.cell? ⟨b1, 1, none⟩ = some (.slice ra RN rc) := by simp [World.cell?, hb1, Hwc.out]
              clear hb1
              by_cases hlt : i < RN ∧ i < 24
              · obtain ⟨hiN', hi24'⟩ := hlt
                have hi24i : (i : Int) < 24 := by omega
                have hil : i < rows.length := by rw [← HRN.out]; exact hiN'
                obtain ⟨br, or, hra, hrr⟩ : ∃ b off, ra = some ⟨b, off, none⟩ ∧ ∀ i (h : i < rows.length), w.cell? ⟨b, off + i * 2, none⟩ = some (.int .i64 rows[i].1) ∧ ∃ ai ci, w.cell? ⟨b, off + i * 2 + 1, none⟩ = some (.slice ai rows[i].2.length ci) ∧ IntsZ (fun _ => True) w ai ci rows[i].2 := by
                  rcases HR.out.1 with h | ⟨b, off, h1, -, h2⟩
                  · rw [h] at hil; simp at hil
                  · exact ⟨b, off, h1, h2⟩
                obtain ⟨c0, ai, ci, c1, hI⟩ := hrr i hil
                obtain ⟨⟨p0, ids0⟩, hx⟩ : ∃ x, x = rows[i] := ⟨_, rfl⟩
                rw [← hx] at c0 c1 hI
                simp only at c0 c1 hI
                have hbr : br < w.heap.size := World.block_lt_of_cell? _ _ c0
                have hold : Below w.heap.size w wr := HB2.out.trans (HW.out.oth.low (by have := Hbs.out; omega) HB2.out.size)
                have c0 := below_cell hold (Nat.le_refl _) c0
                have c1 := below_cell hold (Nat.le_refl _) c1
                have HI0a := Lib.hid hI.ints
                have Hold := Lib.hid hold
                obtain ⟨IL, hIL⟩ : ∃ n, n = ids0.length := ⟨_, rfl⟩
                rw [← hIL] at c1
                have HIL := Lib.hid hIL
                have Hhil := Lib.hid hil
                clear hrr hx hI hold hIL hil
                subst hra
                have t3 := HW.out.tcell.1
                have hA5 := HI.out.le
                obtain ⟨AL, hAL⟩ : ∃ n, n = ar2.length := ⟨_, rfl⟩
                have HAL := Lib.hid hAL
                have hA1 := HA1.out
                rw [← hAL] at t3 hA5 hA1
                clear hAL
                have cM := fun W => Lib.hid (mod_any p0 AL W hA1 (by omega))
                have zi : (0 : Int) ≤ (i : Int) := by omega
                have ziN : (i : Int) < (RN : Int) := by omega
                go_upto_region 20 with fail
                go_cut [9] (fun t w' => ∃ (b9 pi : Nat), t = .pointer (some ⟨b9, 0, none⟩) ∧ pi < AL ∧ Hid (Below wr.heap.size wr w') ∧ Hid (wr.heap.size ≤ b9) ∧ Hid (w'.heap[b9]? = some (.cells #[.int .i64 (pi : Int), .slice none 0 0] 50 (0, 0))))
                case first =>
                  go_wp2
                  obtain ⟨V0, hV0⟩ : ∃ V, V = wr.drew := ⟨_, rfl⟩
                  have hbd : Below wr.heap.size wr V0 := by rw [hV0]; exact (Below.refl _ _).drew
                  have r1 := on_cell hbd r1
                  have c0 := on_cell hbd c0
                  have t3 := on_cell hbd t3
                  have hb0 := Below.refl V0.heap.size V0
                  have Hbd := Lib.hid hbd
                  clear hbd
                  refine wp_region_noPanic ?_
                  refine wp_region_held_drew (S := (fun w' => w'.cell? ⟨b1, 1, none⟩ = some (.slice (some ⟨br, or, none⟩) RN rc) ∧ w'.cell? ⟨br, or + i * 2, none⟩ = some (.int .i64 p0) ∧ w'.cell? ⟨tb, 0, none⟩ = some (.slice va AL vc'))) (by kernel_rfl) ?_ (fun hHeld => ?_)
                  · rw [← hV0]; exact ⟨r1, c0, t3⟩
                  rw [← hV0] at hHeld ⊢
                  clear hV0
                  refine wpAnyH_take (i := 0) (oi := ⟨some 96, _, _, _, _, _⟩) (v := ?_) rfl (by kernel_rfl) (by kernel_rfl) (by kernel_rfl) (fun _ _ _ h => h) (Or.inl ⟨by rfl, ?_⟩) (by assumption) ?_
                  rotate_left 1
                  · intro w hSw
                    (try dsimp only at hSw)
                    go_simp
                    all_goals with_reducible rfl
                  (try simp only [Act.put, List.setIfInBounds_toArray, List.set_cons_zero, List.set_cons_succ])
                  refine wpAnyH_take (i := 1) (oi := ⟨some 97, _, _, _, _, _⟩) (v := ?_) rfl (by kernel_rfl) (by kernel_rfl) (by kernel_rfl) (fun _ _ _ h => h) (Or.inl ⟨by rfl, ?_⟩) (by assumption) ?_
                  rotate_left 1
                  · intro w hSw
                    (try dsimp only at hSw)
                    go_simp
                    all_goals with_reducible rfl
                  (try simp only [Act.put, List.setIfInBounds_toArray, List.set_cons_zero, List.set_cons_succ])
                  refine wpAnyH_take (i := 2) (oi := ⟨some 98, _, _, _, _, _⟩) (v := ?_) rfl (by kernel_rfl) (by kernel_rfl) (by kernel_rfl) (fun _ _ _ h => h) (Or.inl ⟨by rfl, ?_⟩) (by assumption) ?_
                  rotate_left 1
                  · intro w hSw
                    (try dsimp only at hSw)
                    go_simp
                    all_goals with_reducible rfl
                  (try simp only [Act.put, List.setIfInBounds_toArray, List.set_cons_zero, List.set_cons_succ])
                  refine wpAnyH_take (i := 3) (oi := ⟨some 99, _, _, _, _, _⟩) (v := ?_) rfl (by kernel_rfl) (by kernel_rfl) (by kernel_rfl) (fun _ _ _ h => h) (Or.inl ⟨by rfl, ?_⟩) (by assumption) ?_
                  rotate_left 1
                  · intro w hSw
                    (try dsimp only at hSw)
                    go_simp
                    all_goals with_reducible rfl
                  (try simp only [Act.put, List.setIfInBounds_toArray, List.set_cons_zero, List.set_cons_succ])
                  refine wpAnyH_take (i := 4) (oi := ⟨some 100, _, _, _, _, _⟩) (v := ?_) rfl (by kernel_rfl) (by kernel_rfl) (by kernel_rfl) (fun _ _ _ h => h) (Or.inl ⟨by rfl, ?_⟩) (by assumption) ?_
                  rotate_left 1
                  · intro w hSw
                    (try dsimp only at hSw)
                    go_simp
                    all_goals with_reducible rfl
                  (try simp only [Act.put, List.setIfInBounds_toArray, List.set_cons_zero, List.set_cons_succ])
                  refine wpAnyH_take (i := 5) (oi := ⟨some 101, _, _, _, _, _⟩) (v := ?_) rfl (by kernel_rfl) (by kernel_rfl) (by kernel_rfl) (fun _ _ _ h => h) (Or.inl ⟨by rfl, ?_⟩) (by assumption) ?_
                  rotate_left 1
                  · intro w hSw
                    (try dsimp only at hSw)
                    go_simp
                    all_goals with_reducible rfl
                  (try simp only [Act.put, List.setIfInBounds_toArray, List.set_cons_zero, List.set_cons_succ])
                  refine wpAnyH_take (i := 6) (oi := ⟨some 102, _, _, _, _, _⟩) (v := ?_) rfl (by kernel_rfl) (by kernel_rfl) (by kernel_rfl) (fun _ _ _ h => h) (Or.inl ⟨by rfl, ?_⟩) (by assumption) ?_
                  rotate_left 1
                  · intro w hSw
                    (try dsimp only at hSw)
                    go_simp
                    all_goals with_reducible rfl
                  (try simp only [Act.put, List.setIfInBounds_toArray, List.set_cons_zero, List.set_cons_succ])
                  refine wpAnyH_take (i := 7) (oi := ⟨some 103, _, _, _, _, _⟩) (v := ?_) rfl (by kernel_rfl) (by kernel_rfl) (by kernel_rfl) (fun _ _ _ h => h) (Or.inl ⟨by rfl, ?_⟩) (by assumption) ?_
                  rotate_left 1
                  · intro w hSw
                    (try dsimp only at hSw)
                    go_simp
                    all_goals with_reducible rfl
                  (try simp only [Act.put, List.setIfInBounds_toArray, List.set_cons_zero, List.set_cons_succ])
                  refine wpAnyH_take (i := 8) (oi := ⟨some 104, _, _, _, _, _⟩) (v := ?_) rfl (by kernel_rfl) (by kernel_rfl) (by kernel_rfl) (fun _ _ _ h => h) (Or.inl ⟨by rfl, ?_⟩) (by assumption) ?_
                  rotate_left 1
                  · intro w hSw
                    (try dsimp only at hSw)
                    go_simp
                    all_goals with_reducible rfl
                  (try simp only [Act.put, List.setIfInBounds_toArray, List.set_cons_zero, List.set_cons_succ])
                  refine wpAnyH_ready (rs := [9, 11]) (by kernel_rfl) (by simp) ?_
                  refine AllReadyH.cons (o := _) rfl (fun K hK => ?_) ?_
                  · go_simp
                    with_reducible refine (cM _).out.mono ?_
                    rintro e _ ⟨pi, rfl, hpi, rfl⟩
                    refine hK.out _ _ ?_ (fun hHeld => ?_)
                    · exact ⟨on_cell hb0 r1, on_cell hb0 c0, on_cell hb0 t3⟩
                    clear hK K
                    (try simp only [Act.put, List.setIfInBounds_toArray, List.set_cons_zero, List.set_cons_succ])
                    refine wpAnyH_take (i := 10) (oi := ⟨some 106, _, _, _, _, _⟩) (v := ?_) rfl (by kernel_rfl) (by kernel_rfl) (by kernel_rfl) (fun _ _ _ h => h) (Or.inl ⟨by rfl, ?_⟩) (by assumption) ?_
                    rotate_left 1
                    · intro w hSw
                      (try dsimp only at hSw)
                      go_simp
                      all_goals with_reducible rfl
                    (try simp only [Act.put, List.setIfInBounds_toArray, List.set_cons_zero, List.set_cons_succ])
                    refine wpAnyH_ready (rs := [11]) (by kernel_rfl) (by simp) ?_
                    refine AllReadyH.cons (o := _) rfl (fun K hK => ?_) ?_
                    · go_simp
                      obtain ⟨V3, hV3⟩ : ∃ W, W = V0.alloc (.cells #[.int .i64 0, .slice none 0 0] 50) := ⟨_, rfl⟩
                      obtain ⟨b9, hb9⟩ : ∃ b, b = V0.heap.size := ⟨_, rfl⟩
                      rw [← hV3, ← hb9]
                      have hb3 : Below V0.heap.size V0 V3 := by rw [hV3]; exact (Below.refl _ _).alloc (Nat.le_refl _) _
                      have hg9 : V3.heap[b9]? = some (.cells #[.int .i64 0, .slice none 0 0] 50 (0, 0)) := by rw [hV3, hb9]; exact (MapKept.heap_alloc V0 _).1
                      have hz9 : V0.heap.size ≤ b9 := by omega
                      have g0 : V3.cell? ⟨b9, 0, none⟩ = some (.int .i64 0) := by simp [World.cell?, hg9]
                      have g1 : V3.cell? ⟨b9, 1, none⟩ = some (.slice none 0 0) := by simp [World.cell?, hg9]
                      have g2 : V3.frozen? ⟨b9, 0, none⟩ = false := by simp [World.frozen?, hg9]
                      have g3 : V3.frozen? ⟨b9, 1, none⟩ = false := by simp [World.frozen?, hg9]
                      have hn1 : b9 ≠ b1 := by have := World.block_lt_of_cell? _ _ r1; simp only at this; omega
                      have hn2 : b9 ≠ br := by have := World.block_lt_of_cell? _ _ c0; simp only at this; omega
                      have hn3 : b9 ≠ tb := by have := World.block_lt_of_cell? _ _ t3; simp only at this; omega
                      have hS3 : V3.cell? ⟨b1, 1, none⟩ = some (.slice (some ⟨br, or, none⟩) RN rc) ∧ V3.cell? ⟨br, or + i * 2, none⟩ = some (.int .i64 p0) ∧ V3.cell? ⟨tb, 0, none⟩ = some (.slice va AL vc') := ⟨on_cell hb3 r1, on_cell hb3 c0, on_cell hb3 t3⟩
                      clear hV3 hb9
                      refine hK.out _ _ ?_ (fun hHeld => ?_)
                      · exact hS3
                      clear hK K
                      (try simp only [Act.put, List.setIfInBounds_toArray, List.set_cons_zero, List.set_cons_succ])
                      refine wpAnyH_ready (rs := [12]) (by kernel_rfl) (by simp) ?_
                      refine AllReadyH.cons (o := _) rfl (fun K hK => ?_) ?_
                      · go_simp
                        refine hK.out _ _ ?_ (fun hHeld => ?_)
                        · exact ⟨(World.cell?_setCell_far _ _ _ _ hn1).trans ((World.cell?_setCell_far _ _ _ _ hn1).trans hS3.1), (World.cell?_setCell_far _ _ _ _ hn2).trans ((World.cell?_setCell_far _ _ _ _ hn2).trans hS3.2.1), (World.cell?_setCell_far _ _ _ _ hn3).trans ((World.cell?_setCell_far _ _ _ _ hn3).trans hS3.2.2)⟩
                        clear hK K
                        (try simp only [Act.put, List.setIfInBounds_toArray, List.set_cons_zero, List.set_cons_succ])
                        refine wpAnyH_done (by kernel_rfl) ?_ _
                        refine NoPanic.normal ?_
                        clear hS3 hHeld
                        go_wp2
                        go_meet
                        exact ⟨b9, pi, rfl, hpi, Lib.hid (Hbd.out.trans (((hb3.setCell (p := ⟨b9, 0, none⟩) hz9 _).setCell (p := ⟨b9, 1, none⟩) hz9 _).mono Hbd.out.size)), Lib.hid (Nat.le_trans Hbd.out.size hz9), Lib.hid (by simpa using heap_setCell (j := 1) (heap_setCell (j := 0) hg9 (.int .i64 (pi : Int))) (.slice none 0 0))⟩
                      exact AllReadyH.nil
                    exact AllReadyH.nil
                  refine AllReadyH.cons (o := _) rfl (fun K hK => ?_) ?_
                  · go_simp
                    obtain ⟨V3, hV3⟩ : ∃ W, W = V0.alloc (.cells #[.int .i64 0, .slice none 0 0] 50) := ⟨_, rfl⟩
                    obtain ⟨b9, hb9⟩ : ∃ b, b = V0.heap.size := ⟨_, rfl⟩
                    rw [← hV3, ← hb9]
                    have hb3 : Below V0.heap.size V0 V3 := by rw [hV3]; exact (Below.refl _ _).alloc (Nat.le_refl _) _
                    have hg9 : V3.heap[b9]? = some (.cells #[.int .i64 0, .slice none 0 0] 50 (0, 0)) := by rw [hV3, hb9]; exact (MapKept.heap_alloc V0 _).1
                    have hz9 : V0.heap.size ≤ b9 := by omega
                    have g0 : V3.cell? ⟨b9, 0, none⟩ = some (.int .i64 0) := by simp [World.cell?, hg9]
                    have g1 : V3.cell? ⟨b9, 1, none⟩ = some (.slice none 0 0) := by simp [World.cell?, hg9]
                    have g2 : V3.frozen? ⟨b9, 0, none⟩ = false := by simp [World.frozen?, hg9]
                    have g3 : V3.frozen? ⟨b9, 1, none⟩ = false := by simp [World.frozen?, hg9]
                    have hn1 : b9 ≠ b1 := by have := World.block_lt_of_cell? _ _ r1; simp only at this; omega
                    have hn2 : b9 ≠ br := by have := World.block_lt_of_cell? _ _ c0; simp only at this; omega
                    have hn3 : b9 ≠ tb := by have := World.block_lt_of_cell? _ _ t3; simp only at this; omega
                    have hS3 : V3.cell? ⟨b1, 1, none⟩ = some (.slice (some ⟨br, or, none⟩) RN rc) ∧ V3.cell? ⟨br, or + i * 2, none⟩ = some (.int .i64 p0) ∧ V3.cell? ⟨tb, 0, none⟩ = some (.slice va AL vc') := ⟨on_cell hb3 r1, on_cell hb3 c0, on_cell hb3 t3⟩
                    clear hV3 hb9
                    refine hK.out _ _ ?_ (fun hHeld => ?_)
                    · exact hS3
                    clear hK K
                    (try simp only [Act.put, List.setIfInBounds_toArray, List.set_cons_zero, List.set_cons_succ])
                    refine wpAnyH_ready (rs := [9]) (by kernel_rfl) (by simp) ?_
                    refine AllReadyH.cons (o := _) rfl (fun K hK => ?_) ?_
                    · go_simp
                      with_reducible refine (cM _).out.mono ?_
                      rintro e _ ⟨pi, rfl, hpi, rfl⟩
                      refine hK.out _ _ ?_ (fun hHeld => ?_)
                      · exact ⟨on_cell hb3 r1, on_cell hb3 c0, on_cell hb3 t3⟩
                      clear hK K
                      (try simp only [Act.put, List.setIfInBounds_toArray, List.set_cons_zero, List.set_cons_succ])
                      refine wpAnyH_take (i := 10) (oi := ⟨some 106, _, _, _, _, _⟩) (v := ?_) rfl (by kernel_rfl) (by kernel_rfl) (by kernel_rfl) (fun _ _ _ h => h) (Or.inl ⟨by rfl, ?_⟩) (by assumption) ?_
                      rotate_left 1
                      · intro w hSw
                        (try dsimp only at hSw)
                        go_simp
                        all_goals with_reducible rfl
                      (try simp only [Act.put, List.setIfInBounds_toArray, List.set_cons_zero, List.set_cons_succ])
                      refine wpAnyH_ready (rs := [12]) (by kernel_rfl) (by simp) ?_
                      refine AllReadyH.cons (o := _) rfl (fun K hK => ?_) ?_
                      · go_simp
                        refine hK.out _ _ ?_ (fun hHeld => ?_)
                        · exact ⟨(World.cell?_setCell_far _ _ _ _ hn1).trans ((World.cell?_setCell_far _ _ _ _ hn1).trans hS3.1), (World.cell?_setCell_far _ _ _ _ hn2).trans ((World.cell?_setCell_far _ _ _ _ hn2).trans hS3.2.1), (World.cell?_setCell_far _ _ _ _ hn3).trans ((World.cell?_setCell_far _ _ _ _ hn3).trans hS3.2.2)⟩
                        clear hK K
                        (try simp only [Act.put, List.setIfInBounds_toArray, List.set_cons_zero, List.set_cons_succ])
                        refine wpAnyH_done (by kernel_rfl) ?_ _
                        refine NoPanic.normal ?_
                        clear hS3 hHeld
                        go_wp2
                        go_meet
                        exact ⟨b9, pi, rfl, hpi, Lib.hid (Hbd.out.trans (((hb3.setCell (p := ⟨b9, 0, none⟩) hz9 _).setCell (p := ⟨b9, 1, none⟩) hz9 _).mono Hbd.out.size)), Lib.hid (Nat.le_trans Hbd.out.size hz9), Lib.hid (by simpa using heap_setCell (j := 1) (heap_setCell (j := 0) hg9 (.int .i64 (pi : Int))) (.slice none 0 0))⟩
                      exact AllReadyH.nil
                    exact AllReadyH.nil
                  exact AllReadyH.nil
                case rest =>
                  obtain ⟨b9, pi, rfl, hpi, HB9, HZ9, HG9⟩ := hcut
                  obtain ⟨wo, hwo⟩ : ∃ V, V = wr := ⟨_, rfl⟩
                  subst hwo
                  obtain ⟨Wi, hWi⟩ : ∃ V, V = wc := ⟨_, rfl⟩
                  subst hWi
                  have hpa : pi < ar2.length := by rw [← HAL.out]; exact hpi
                  obtain ⟨m, hm⟩ : ∃ m, m = ar2[pi] := ⟨_, rfl⟩
                  have Hm : Hid (ar2[pi]? = some m) := Lib.hid (by rw [hm]; exact List.getElem?_eq_getElem hpa)
                  have hmr := HI.out.ok m (by rw [hm]; exact List.getElem_mem _)
                  clear hm hpa
                  obtain ⟨k, rfl⟩ := Int.eq_ofNat_of_zero_le hmr.1
                  have hk3 : k ≤ 3 := by omega
                  obtain ⟨gA, hgA, hcA⟩ : ∃ g, va = some ⟨g, 0, none⟩ ∧ W2.cell? ⟨g, pi, none⟩ = some (.int .i64 (k : Int)) := by
                    rcases owns_form HI.out.own with ⟨-, h0, -⟩ | ⟨g, cap, h5, -, -, -, -, -, hc, -⟩
                    · have := HAL.out; omega
                    · injection h5 with h5 _ _
                      exact ⟨g, h5, hc pi _ (by rw [List.getElem?_map, Hm.out]; rfl)⟩
                  have hgt : gA ≠ tb := by
                    intro e
                    subst e
                    have h1 := HI.out.own
                    rw [hgA] at h1
                    obtain ⟨cur, hcu⟩ := own_typ h1 (g := gA) rfl
                    exact typ_ne hcu HI.out.t (by decide) rfl
                  have hcA := on_cell HB9.out (HW.out.oth.cell hcA hgt)
                  have t3 := on_cell HB9.out t3
                  have r1 := on_cell HB9.out r1
                  have c0 := on_cell HB9.out c0
                  have c1 := on_cell HB9.out c1
                  subst hgA
                  have g0 : Wi.cell? ⟨b9, 0, none⟩ = some (.int .i64 (pi : Int)) := by have := HG9.out; simp [World.cell?, this]
                  have hpiI : (pi : Int) < (AL : Int) := by omega
                  have zpi : (0 : Int) ≤ (pi : Int) := by omega
                  clear hmr cM
                  go_upto_block 6 with fail
                  clear hcA t3 g0 hpiI zpi
                  have HI0 : Hid (ISt b9 (pi : Int) Wi Wi (.slice none 0 0) [] cs.length) := Lib.hid ⟨Oth.refl _ _, HG9.out, World.ownsRow_nil _ _ _ _, fun x hx => (by cases hx)⟩
                  have h9lt : b9 < Wi.heap.size := (Array.getElem?_eq_some_iff.1 HG9.out).1
                  have hb1n : b1 ≠ b9 := by have := HZ9.out; have := Htb2.out; have := HW.out.oth.size; omega
                  have hbrn : br ≠ b9 := by have := HZ9.out; have := HB2.out.size; have := HW.out.oth.size; omega
                  have h1le : 1 ≤ cs.length ∧ cs.length ≤ 5 := ⟨HL1.out, HS.out.le⟩
                  have cD := fun n W => Lib.hid (mod_any n cs.length W h1le.1 (by omega))
                  clear h1le
                  have HH : Hid (b9 < Wi.heap.size ∧ b1 ≠ b9 ∧ br ≠ b9) := Lib.hid ⟨h9lt, hb1n, hbrn⟩
                  clear h9lt hb1n hbrn
                  have hci : ∀ j : Nat, j < IL → ∃ (bi oi : Nat) (x : Int), ai = some ⟨bi, oi, none⟩ ∧ Wi.cell? ⟨bi, oi + j, none⟩ = some (.int .i64 x) ∧ bi ≠ b9 := fun j hj => by
                    obtain ⟨bi, oi, e, x, k1, k2⟩ := ints_some HI0a.out (k := j) (by rw [← HIL.out]; exact hj)
                    have hbi : bi < w.heap.size := World.block_lt_of_cell? _ _ k1
                    refine ⟨bi, oi, x, e, on_cell HB9.out (below_cell Hold.out (Nat.le_refl _) k1), ?_⟩
                    have := HZ9.out; have := Hold.out.size; omega
                  have HCI := Lib.hid hci
                  clear hci
                  go_cut [] (fun w' => ∃ (u : Value) (li : List Int), Hid (ISt b9 (pi : Int) Wi w' u li cs.length) ∧ Hid (li.length = k))
                  case first =>
                    go_wp2_with fail
                    go_loopw [113] (fun t w' => ∃ (j : Nat) (u : Value) (li : List Int), t = .int .i64 j ∧ j ≤ k ∧ Hid (ISt b9 (pi : Int) Wi w' u li cs.length) ∧ Hid (li.length = j)) (fun t _ => k - (intOf t).toNat)
                    case atStart => exact ⟨0, _, [], rfl, Nat.zero_le _, HI0, Lib.hid rfl⟩
                    case round =>
                      clear HI0
                      obtain ⟨j, u, li, rfl, hjk, HI9, HIl⟩ := hrel
                      have r1 := HI9.out.oth.cell r1 HH.out.2.1
                      have c0 := HI9.out.oth.cell c0 HH.out.2.2
                      have c1 := HI9.out.oth.cell c1 HH.out.2.2
                      obtain ⟨ua, uc, rfl⟩ := owns_shape' HI9.out.own
                      have zj : (0 : Int) ≤ (j : Int) := by omega
                      by_cases hjlt : j < k
                      · go_upto_if 125 with fail
                        go_cut [11] (fun t w' => ∃ x : Int, t = .int .i64 x ∧ Hid (ISt b9 (pi : Int) Wi w' (.slice ua li.length uc) li cs.length))
                        case first =>
                          by_cases hjI : j < IL
                          · have hjIi : (j : Int) < (IL : Int) := by omega
                            obtain ⟨bi, oi, x, rfl, k1, k2⟩ := HCI.out j hjI
                            have k1 := HI9.out.oth.cell k1 k2
                            go_wp2_with fail
                            go_meet
                            exact ⟨x, rfl, HI9⟩
                          · have hjIi : ¬ ((j : Int) < (IL : Int)) := by omega
                            go_wp2_with fail
                            go_meet
                            exact ⟨(j : Int), rfl, HI9⟩
                        case rest =>
                          obtain ⟨x, rfl, HI9⟩ := hcut
                          have q1 := HI9.out.cells.2
                          have hlle : li.length < 3 := by rw [HIl.out]; omega
                          have h9lt := HH.out.1
                          go_upto_region 27 with fail
                          obtain ⟨V0, hV0⟩ : ∃ V, V = wc.drew := ⟨_, rfl⟩
                          have hbd : Below wc.heap.size wc V0 := by rw [hV0]; exact (Below.refl _ _).drew
                          have HI0 := Lib.hid (HI9.out.below hbd)
                          have q1 := on_cell hbd q1
                          have hown := HI0.out.own
                          have hlow := HI0.out.oth.size
                          have hb0 := Below.refl V0.heap.size V0
                          clear hbd HI9
                          refine wp_region_noPanic ?_
                          refine wp_region_held_drew (S := (fun _ => True)) (by kernel_rfl) ?_ (fun hHeld => ?_)
                          · trivial
                          rw [← hV0]
                          clear hV0
                          refine wpAnyH_take (i := 0) (oi := ⟨some 135, _, _, _, _, _⟩) (v := ?_) rfl (by kernel_rfl) (by kernel_rfl) (by kernel_rfl) (fun _ _ _ h => h) (Or.inl ⟨by rfl, ?_⟩) (by assumption) ?_
                          rotate_left 1
                          · intro w hSw
                            (try dsimp only at hSw)
                            go_simp
                            all_goals with_reducible rfl
                          (try simp only [Act.put, List.setIfInBounds_toArray, List.set_cons_zero, List.set_cons_succ])
                          refine wpAnyH_take (i := 2) (oi := ⟨some 137, _, _, _, _, _⟩) (v := ?_) rfl (by kernel_rfl) (by kernel_rfl) (by kernel_rfl) (fun _ _ _ h => h) (Or.inl ⟨by rfl, ?_⟩) (by assumption) ?_
                          rotate_left 1
                          · intro w hSw
                            (try dsimp only at hSw)
                            go_simp
                            all_goals with_reducible rfl
                          (try simp only [Act.put, List.setIfInBounds_toArray, List.set_cons_zero, List.set_cons_succ])
                          refine wpAnyH_take (i := 3) (oi := ⟨some 138, _, _, _, _, _⟩) (v := ?_) rfl (by kernel_rfl) (by kernel_rfl) (by kernel_rfl) (fun _ _ _ h => h) (Or.inl ⟨by rfl, ?_⟩) (by assumption) ?_
                          rotate_left 1
                          · intro w hSw
                            (try dsimp only at hSw)
                            go_simp
                            all_goals with_reducible rfl
                          (try simp only [Act.put, List.setIfInBounds_toArray, List.set_cons_zero, List.set_cons_succ])
                          refine wpAnyH_ready (rs := [1, 4]) (by kernel_rfl) (by simp) ?_
                          refine AllReadyH.cons (o := _) rfl (fun K hK => ?_) ?_
                          · have tt := on_cell hb0 q1
                            go_simp
                            clear tt
                            refine hK.out _ _ ?_ (fun hHeld => ?_)
                            · trivial
                            clear hK K
                            (try simp only [Act.put, List.setIfInBounds_toArray, List.set_cons_zero, List.set_cons_succ])
                            refine wpAnyH_ready (rs := [4]) (by kernel_rfl) (by simp) ?_
                            refine AllReadyH.cons (o := _) rfl (fun K hK => ?_) ?_
                            · go_simp
                              with_reducible refine (cD _ _).out.mono ?_
                              rintro e _ ⟨r, rfl, hr4, rfl⟩
                              refine hK.out _ _ ?_ (fun hHeld => ?_)
                              · trivial
                              clear hK K
                              (try simp only [Act.put, List.setIfInBounds_toArray, List.set_cons_zero, List.set_cons_succ])
                              refine wpAnyH_ready (rs := [5]) (by kernel_rfl) (by simp) ?_
                              refine AllReadyH.cons (o := _) rfl (fun K hK => ?_) ?_
                              · go_simp
                                obtain ⟨V3, hV3⟩ : ∃ W, W = V0.alloc (.cells #[.int .i64 (r : Int)] 3) := ⟨_, rfl⟩
                                obtain ⟨b8, hb8⟩ : ∃ b, b = V0.heap.size := ⟨_, rfl⟩
                                rw [← hV3, ← hb8]
                                have hb3 : Below V0.heap.size V0 V3 := by rw [hV3]; exact (Below.refl _ _).alloc (Nat.le_refl _) _
                                have src3 : Source V3 (some ⟨b8, 0, none⟩) 1 1 [.int .i64 (r : Int)] := by rw [hV3, hb8]; exact source_new V0 [.int .i64 (r : Int)] 3
                                clear hV3 hb8
                                refine hK.out _ _ ?_ (fun hHeld => ?_)
                                · trivial
                                clear hK K
                                (try simp only [Act.put, List.setIfInBounds_toArray, List.set_cons_zero, List.set_cons_succ])
                                refine wpAnyH_ready (rs := [6]) (by kernel_rfl) (by simp) ?_
                                refine AllReadyH.cons (o := _) rfl (fun K hK => ?_) ?_
                                · have hz3 := hb3.size
                                  refine step_append_any elemInt _ rfl _ _ rfl Wi.heap.size (.slice ua li.length uc) li.length (li.map (Value.int .i64)) rfl (owns_below hown hb3 (Nat.le_refl _)) (some ⟨b8, 0, none⟩) 1 1 [.int .i64 (r : Int)] rfl src3 rfl (by simp [Value.oneCell']) (by unfold maxLen; omega) (by omega) (by omega) ?_
                                  intro v' V4 hown4 hgrow4 hblk4
                                  obtain ⟨va4, vc4, rfl⟩ := owns_shape' hown4
                                  obtain ⟨p1, p2, p3⟩ := HI0.out.push h9lt hb3 hgrow4 hown4 ⟨Int.natCast_nonneg r, Int.ofNat_lt.2 hr4⟩
                                  have P1 := Lib.hid p1
                                  clear p1 hown4 hgrow4 hblk4 src3
                                  refine hK.out _ _ ?_ (fun hHeld => ?_)
                                  · trivial
                                  clear hK K
                                  (try simp only [Act.put, List.setIfInBounds_toArray, List.set_cons_zero, List.set_cons_succ])
                                  refine wpAnyH_take (i := 7) (oi := ⟨some 142, _, _, _, _, _⟩) (v := ?_) rfl (by kernel_rfl) (by kernel_rfl) (by kernel_rfl) (fun _ _ _ h => h) (Or.inl ⟨by rfl, ?_⟩) (by assumption) ?_
                                  rotate_left 1
                                  · intro w hSw
                                    (try dsimp only at hSw)
                                    go_simp
                                    all_goals with_reducible rfl
                                  (try simp only [Act.put, List.setIfInBounds_toArray, List.set_cons_zero, List.set_cons_succ])
                                  refine wpAnyH_ready (rs := [8]) (by kernel_rfl) (by simp) ?_
                                  refine AllReadyH.cons (o := _) rfl (fun K hK => ?_) ?_
                                  · go_simp
                                    refine hK.out _ _ ?_ (fun hHeld => ?_)
                                    · trivial
                                    clear hK K
                                    (try simp only [Act.put, List.setIfInBounds_toArray, List.set_cons_zero, List.set_cons_succ])
                                    refine wpAnyH_done (by kernel_rfl) ?_ _
                                    refine NoPanic.normal ?_
                                    have HLX : Hid ((li ++ [(r : Int)]).length = j + 1) := Lib.hid (by rw [List.length_append, HIl.out]; rfl)
                                    clear hHeld
                                    go_wp2
                                    go_roundw
                                    case rel => exact ⟨j + 1, _, _, by go_num, by omega, P1, HLX⟩
                                    case measure => simp [intOf]; omega
                                  exact AllReadyH.nil
                                exact AllReadyH.nil
                              exact AllReadyH.nil
                            exact AllReadyH.nil
                          refine AllReadyH.cons (o := _) rfl (fun K hK => ?_) ?_
                          · go_simp
                            with_reducible refine (cD _ _).out.mono ?_
                            rintro e _ ⟨r, rfl, hr4, rfl⟩
                            refine hK.out _ _ ?_ (fun hHeld => ?_)
                            · trivial
                            clear hK K
                            (try simp only [Act.put, List.setIfInBounds_toArray, List.set_cons_zero, List.set_cons_succ])
                            refine wpAnyH_ready (rs := [1, 5]) (by kernel_rfl) (by simp) ?_
                            refine AllReadyH.cons (o := _) rfl (fun K hK => ?_) ?_
                            · have tt := on_cell hb0 q1
                              go_simp
                              clear tt
                              refine hK.out _ _ ?_ (fun hHeld => ?_)
                              · trivial
                              clear hK K
                              (try simp only [Act.put, List.setIfInBounds_toArray, List.set_cons_zero, List.set_cons_succ])
                              refine wpAnyH_ready (rs := [5]) (by kernel_rfl) (by simp) ?_
                              refine AllReadyH.cons (o := _) rfl (fun K hK => ?_) ?_
                              · go_simp
                                obtain ⟨V3, hV3⟩ : ∃ W, W = V0.alloc (.cells #[.int .i64 (r : Int)] 3) := ⟨_, rfl⟩
                                obtain ⟨b8, hb8⟩ : ∃ b, b = V0.heap.size := ⟨_, rfl⟩
                                rw [← hV3, ← hb8]
                                have hb3 : Below V0.heap.size V0 V3 := by rw [hV3]; exact (Below.refl _ _).alloc (Nat.le_refl _) _
                                have src3 : Source V3 (some ⟨b8, 0, none⟩) 1 1 [.int .i64 (r : Int)] := by rw [hV3, hb8]; exact source_new V0 [.int .i64 (r : Int)] 3
                                clear hV3 hb8
                                refine hK.out _ _ ?_ (fun hHeld => ?_)
                                · trivial
                                clear hK K
                                (try simp only [Act.put, List.setIfInBounds_toArray, List.set_cons_zero, List.set_cons_succ])
                                refine wpAnyH_ready (rs := [6]) (by kernel_rfl) (by simp) ?_
                                refine AllReadyH.cons (o := _) rfl (fun K hK => ?_) ?_
                                · have hz3 := hb3.size
                                  refine step_append_any elemInt _ rfl _ _ rfl Wi.heap.size (.slice ua li.length uc) li.length (li.map (Value.int .i64)) rfl (owns_below hown hb3 (Nat.le_refl _)) (some ⟨b8, 0, none⟩) 1 1 [.int .i64 (r : Int)] rfl src3 rfl (by simp [Value.oneCell']) (by unfold maxLen; omega) (by omega) (by omega) ?_
                                  intro v' V4 hown4 hgrow4 hblk4
                                  obtain ⟨va4, vc4, rfl⟩ := owns_shape' hown4
                                  obtain ⟨p1, p2, p3⟩ := HI0.out.push h9lt hb3 hgrow4 hown4 ⟨Int.natCast_nonneg r, Int.ofNat_lt.2 hr4⟩
                                  have P1 := Lib.hid p1
                                  clear p1 hown4 hgrow4 hblk4 src3
                                  refine hK.out _ _ ?_ (fun hHeld => ?_)
                                  · trivial
                                  clear hK K
                                  (try simp only [Act.put, List.setIfInBounds_toArray, List.set_cons_zero, List.set_cons_succ])
                                  refine wpAnyH_take (i := 7) (oi := ⟨some 142, _, _, _, _, _⟩) (v := ?_) rfl (by kernel_rfl) (by kernel_rfl) (by kernel_rfl) (fun _ _ _ h => h) (Or.inl ⟨by rfl, ?_⟩) (by assumption) ?_
                                  rotate_left 1
                                  · intro w hSw
                                    (try dsimp only at hSw)
                                    go_simp
                                    all_goals with_reducible rfl
                                  (try simp only [Act.put, List.setIfInBounds_toArray, List.set_cons_zero, List.set_cons_succ])
                                  refine wpAnyH_ready (rs := [8]) (by kernel_rfl) (by simp) ?_
                                  refine AllReadyH.cons (o := _) rfl (fun K hK => ?_) ?_
                                  · go_simp
                                    refine hK.out _ _ ?_ (fun hHeld => ?_)
                                    · trivial
                                    clear hK K
                                    (try simp only [Act.put, List.setIfInBounds_toArray, List.set_cons_zero, List.set_cons_succ])
                                    refine wpAnyH_done (by kernel_rfl) ?_ _
                                    refine NoPanic.normal ?_
                                    have HLX : Hid ((li ++ [(r : Int)]).length = j + 1) := Lib.hid (by rw [List.length_append, HIl.out]; rfl)
                                    clear hHeld
                                    go_wp2
                                    go_roundw
                                    case rel => exact ⟨j + 1, _, _, by go_num, by omega, P1, HLX⟩
                                    case measure => simp [intOf]; omega
                                  exact AllReadyH.nil
                                exact AllReadyH.nil
                              exact AllReadyH.nil
                            refine AllReadyH.cons (o := _) rfl (fun K hK => ?_) ?_
                            · go_simp
                              obtain ⟨V3, hV3⟩ : ∃ W, W = V0.alloc (.cells #[.int .i64 (r : Int)] 3) := ⟨_, rfl⟩
                              obtain ⟨b8, hb8⟩ : ∃ b, b = V0.heap.size := ⟨_, rfl⟩
                              rw [← hV3, ← hb8]
                              have hb3 : Below V0.heap.size V0 V3 := by rw [hV3]; exact (Below.refl _ _).alloc (Nat.le_refl _) _
                              have src3 : Source V3 (some ⟨b8, 0, none⟩) 1 1 [.int .i64 (r : Int)] := by rw [hV3, hb8]; exact source_new V0 [.int .i64 (r : Int)] 3
                              clear hV3 hb8
                              refine hK.out _ _ ?_ (fun hHeld => ?_)
                              · trivial
                              clear hK K
                              (try simp only [Act.put, List.setIfInBounds_toArray, List.set_cons_zero, List.set_cons_succ])
                              refine wpAnyH_ready (rs := [1]) (by kernel_rfl) (by simp) ?_
                              refine AllReadyH.cons (o := _) rfl (fun K hK => ?_) ?_
                              · have tt := on_cell hb3 q1
                                go_simp
                                clear tt
                                refine hK.out _ _ ?_ (fun hHeld => ?_)
                                · trivial
                                clear hK K
                                (try simp only [Act.put, List.setIfInBounds_toArray, List.set_cons_zero, List.set_cons_succ])
                                refine wpAnyH_ready (rs := [6]) (by kernel_rfl) (by simp) ?_
                                refine AllReadyH.cons (o := _) rfl (fun K hK => ?_) ?_
                                · have hz3 := hb3.size
                                  refine step_append_any elemInt _ rfl _ _ rfl Wi.heap.size (.slice ua li.length uc) li.length (li.map (Value.int .i64)) rfl (owns_below hown hb3 (Nat.le_refl _)) (some ⟨b8, 0, none⟩) 1 1 [.int .i64 (r : Int)] rfl src3 rfl (by simp [Value.oneCell']) (by unfold maxLen; omega) (by omega) (by omega) ?_
                                  intro v' V4 hown4 hgrow4 hblk4
                                  obtain ⟨va4, vc4, rfl⟩ := owns_shape' hown4
                                  obtain ⟨p1, p2, p3⟩ := HI0.out.push h9lt hb3 hgrow4 hown4 ⟨Int.natCast_nonneg r, Int.ofNat_lt.2 hr4⟩
                                  have P1 := Lib.hid p1
                                  clear p1 hown4 hgrow4 hblk4 src3
                                  refine hK.out _ _ ?_ (fun hHeld => ?_)
                                  · trivial
                                  clear hK K
                                  (try simp only [Act.put, List.setIfInBounds_toArray, List.set_cons_zero, List.set_cons_succ])
                                  refine wpAnyH_take (i := 7) (oi := ⟨some 142, _, _, _, _, _⟩) (v := ?_) rfl (by kernel_rfl) (by kernel_rfl) (by kernel_rfl) (fun _ _ _ h => h) (Or.inl ⟨by rfl, ?_⟩) (by assumption) ?_
                                  rotate_left 1
                                  · intro w hSw
                                    (try dsimp only at hSw)
                                    go_simp
                                    all_goals with_reducible rfl
                                  (try simp only [Act.put, List.setIfInBounds_toArray, List.set_cons_zero, List.set_cons_succ])
                                  refine wpAnyH_ready (rs := [8]) (by kernel_rfl) (by simp) ?_
                                  refine AllReadyH.cons (o := _) rfl (fun K hK => ?_) ?_
                                  · go_simp
                                    refine hK.out _ _ ?_ (fun hHeld => ?_)
                                    · trivial
                                    clear hK K
                                    (try simp only [Act.put, List.setIfInBounds_toArray, List.set_cons_zero, List.set_cons_succ])
                                    refine wpAnyH_done (by kernel_rfl) ?_ _
                                    refine NoPanic.normal ?_
                                    have HLX : Hid ((li ++ [(r : Int)]).length = j + 1) := Lib.hid (by rw [List.length_append, HIl.out]; rfl)
                                    clear hHeld
                                    go_wp2
                                    go_roundw
                                    case rel => exact ⟨j + 1, _, _, by go_num, by omega, P1, HLX⟩
                                    case measure => simp [intOf]; omega
                                  exact AllReadyH.nil
                                exact AllReadyH.nil
                              exact AllReadyH.nil
                            exact AllReadyH.nil
                          exact AllReadyH.nil
                      · have hje : j = k := by omega
                        subst hje
                        go_wp2_with fail
                        go_meet
                        exact ⟨_, li, HI9, HIl⟩
                  case rest =>
                    clear HI0
                    obtain ⟨u, li, HI9, HIl⟩ := hcut
                    obtain ⟨ua, uc, rfl⟩ := owns_shape' HI9.out.own
                    obtain ⟨wa, wcc, rfl⟩ := HW.out.rows.shape
                    have hbo : Below wo.heap.size wo wc := HB9.out.trans (HI9.out.oth.low HZ9.out HB9.out.size)
                    have hW' := HW.out.below hbo
                    have e0 := HI9.out.cells.1
                    have e1 := HI9.out.cells.2
                    have t1 := hW'.tcell.2
                    obtain ⟨rcells, hro, -⟩ := id hW'.rows
                    have hz2 := hW'.oth.size
                    have hz1 := HW.out.oth.size
                    have hz3 := HB9.out.size
                    have hl24 : l.length < 24 := by rw [HWL.out]; exact hi24'
                    have hui : wc.ownsRow W2.heap.size 3 1 (.slice ua li.length uc) li.length (li.map (Value.int .i64)) := owns_base HI9.out.own (Nat.le_trans hz1 hz3)
                    have hfit : FitsRow ar2 ((pi : Int), li) ∧ ∀ x ∈ li, x < (cs.length : Int) := by
                      have h1 := HAL.out
                      have h2 := HS.out.le
                      refine ⟨⟨by simp only; omega, by simp only; omega, ?_, by simp only; rw [HIl.out]; omega, fun x hx => ?_⟩, fun x hx => (HI9.out.ok x hx).2⟩
                      · simp only [Int.toNat_natCast, HIl.out]
                        exact Hm.out
                      · have := HI9.out.ok x hx
                        omega
                    have HWn := Lib.hid hW'
                    have Hui := Lib.hid hui
                    have Hfit := Lib.hid hfit
                    clear hW' hui hfit hbo
                    go_wp2_with (first | (at_builtin; refine wpList_append_any elemRow _ rfl _ _ rfl W2.heap.size _ l.length rcells rfl (hro.alloc _) (some ⟨wc.heap.size, 0, none⟩) 1 1 [.int .i64 (pi : Int), .slice ua li.length uc] rfl (source_new _ _ _) rfl (by simp [Value.oneCell']) (by unfold maxLen; omega) (by omega) (by simp; omega) ?_; intro v' w2 hown2 hgrow2 hblk2; obtain ⟨va3, vc3, rfl⟩ := owns_shape' hown2; obtain ⟨p1, p2, p3⟩ := HWn.out.push (r := ((pi : Int), li)) (u := .slice ua li.length uc) Htb2.out.1 ((Below.refl _ _).alloc (Nat.le_refl _) _) hgrow2 (fun cells hcc => by rw [owns_same hcc hro]; exact hown2) hblk2 Hui.out hl24 Hfit.out; have P1 := Lib.hid p1; clear p1 hown2 hgrow2 hblk2))
                    have HLX : Hid ((l ++ [((pi : Int), li)]).length = i + 1) := Lib.hid (by rw [List.length_append, HWL.out]; rfl)
                    go_roundw
                    case rel => exact ⟨i + 1, _, _, by go_num, by omega, by omega, P1, HLX⟩
                    case measure => simp [intOf]; omega
              · by_cases hiA : i < RN
                · have hi24i : ¬ ((i : Int) < 24) := by omega
                  have HLX : Hid (l.length = min RN 24) := Lib.hid (by rw [HWL.out]; omega)
                  go_wp2_with fail
                  go_meet
                  exact ⟨rv, l, HW, HLX⟩
                · have HLX : Hid (l.length = min RN 24) := Lib.hid (by rw [HWL.out]; omega)
                  go_wp2_with fail
                  go_meet
                  exact ⟨rv, l, HW, HLX⟩
          case rest =>
            clear HR0
            obtain ⟨rv, l, HW, HWL⟩ := hcut
            obtain ⟨wa, wcc, rfl⟩ := HW.out.rows.shape
            have hb1 := (HW.out.oth.keep b1 Htb2.out.2.1 Htb2.out.2.2).trans HQ2a.out
            have hold : Below w.heap.size w wc := HB2.out.trans (HW.out.oth.low (by have := Hbs.out; omega) HB2.out.size)
            have r3 : wc.cell? ⟨b1, 3, none⟩ = some (.int .i64 hp) := by simp [World.cell?, hb1, Hwc.out]
            have r4 : wc.cell? ⟨b1, 4, none⟩ = some (.slice rha rhn rhc) := by simp [World.cell?, hb1, Hwc.out]
            have r5 : wc.cell? ⟨b1, 5, none⟩ = some (.slice pa P pc) := by simp [World.cell?, hb1, Hwc.out]
            have r6 : wc.cell? ⟨b1, 6, none⟩ = some (.slice ta TN tc) := by simp [World.cell?, hb1, Hwc.out]
            have r7 : wc.cell? ⟨b1, 7, none⟩ = some (.slice na G nc) := by simp [World.cell?, hb1, Hwc.out]
            have r8 : wc.cell? ⟨b1, 8, none⟩ = some (.slice rva nv0 rvc) := by simp [World.cell?, hb1, Hwc.out]
            have r9 : wc.cell? ⟨b1, 9, none⟩ = some (.int .i64 cl) := by simp [World.cell?, hb1, Hwc.out]
            have r10 : wc.cell? ⟨b1, 10, none⟩ = some (.int .i64 K) := by simp [World.cell?, hb1, Hwc.out]
            have t0 := HW.out.tcell.1
            have hown2 : wc.ownsRow W1.heap.size 3 1 (.slice va ar2.length vc') ar2.length (ar2.map (Value.int .i64)) := owns_block HI.out.own (fun g hg => HW.out.oth.keep g (HI.out.own.lt g hg).2 (fun e => by
              subst e
              obtain ⟨cur, hcu⟩ := own_typ HI.out.own hg
              exact typ_ne hcu HI.out.t (by decide) rfl))
            obtain ⟨va', vcx, hve, hAi⟩ := ints_of_row hown2
            cases hve
            have cT : Hid (Calls Try.prog 41 #[.agg #[.int .i64 hp, .slice rha rhn rhc, .slice pa P pc, .slice ta TN tc, .slice na G nc, .slice rva nv0 rvc, .int .i64 cl], .slice va ar2.length vc', .int .i64 (cs.length : Int)] wc (TRuleEnd ar2 cs.length ⟨hp, rha, rhn, rhc, pa, pc, pos, ta, tc, tests, na, nc, neg, rva, nv0, rvc, cl⟩ wc)) := Lib.hid (by
              rw [HPl.out, HTl.out, HGl.out]
              exact trule_any ⟨hp, rha, rhn, rhc, pa, pc, pos, ta, tc, tests, na, nc, neg, rva, nv0, rvc, cl⟩ va vc' ar2 cs.length wc (HRU.out.below hold (Nat.le_refl _)) hAi HA1.out (by have := HI.out.le; omega) (fun x hx => by have := HI.out.ok x hx; omega) HL1.out (by have := HS.out.le; omega))
            have Hb1c := Lib.hid hb1
            clear hb1 hown2 hAi hold
            go_upto_region 31 with (first | (go_at_call 41; (with_reducible refine cT.out.mono ?_); rintro e wT ⟨⟨hp', ha', hn', hc', pa', pc', pos', ta', tc', tests', na', nc', neg', va4, nv', vc4, cl'⟩, rfl, hE⟩; simp only [RuleV.cells]; obtain ⟨P', hP'⟩ : ∃ n, n = pos'.length := ⟨_, rfl⟩; obtain ⟨TN', hTN'⟩ : ∃ n, n = tests'.length := ⟨_, rfl⟩; obtain ⟨G', hG'⟩ : ∃ n, n = neg'.length := ⟨_, rfl⟩; rw [← hP', ← hTN', ← hG']; have HP' := Lib.hid hP'; have HTN' := Lib.hid hTN'; have HG' := Lib.hid hG'; have HE := Lib.hid hE; have ht : wT.heap[tb]? = some (.cells #[.slice va ar2.length vc', .slice wa l.length wcc, .slice va2 cs.length vc2, .int .i64 0, .slice none 0 0, .slice none 0 0, .slice none 0 0, .slice none 0 0, .slice none 0 0, .int .i64 0, .int .i64 0] 34 (0, 0)) := (hE.2.2.1.block tb (Array.getElem?_eq_some_iff.1 HW.out.t).1).trans HW.out.t; have Ht := Lib.hid ht; have f3 : wT.frozen? ⟨tb, 3, none⟩ = false := (by simp [World.frozen?, ht]); have f4 : wT.frozen? ⟨tb, 4, none⟩ = false := (by simp [World.frozen?, ht]); have f5 : wT.frozen? ⟨tb, 5, none⟩ = false := (by simp [World.frozen?, ht]); have f6 : wT.frozen? ⟨tb, 6, none⟩ = false := (by simp [World.frozen?, ht]); have f7 : wT.frozen? ⟨tb, 7, none⟩ = false := (by simp [World.frozen?, ht]); have f8 : wT.frozen? ⟨tb, 8, none⟩ = false := (by simp [World.frozen?, ht]); have f9 : wT.frozen? ⟨tb, 9, none⟩ = false := (by simp [World.frozen?, ht]); have c3 : wT.cell? ⟨tb, 3, none⟩ = some (.int .i64 0) := (by simp [World.cell?, ht]); have c4 : wT.cell? ⟨tb, 4, none⟩ = some (.slice none 0 0) := (by simp [World.cell?, ht]); have c5 : wT.cell? ⟨tb, 5, none⟩ = some (.slice none 0 0) := (by simp [World.cell?, ht]); have c6 : wT.cell? ⟨tb, 6, none⟩ = some (.slice none 0 0) := (by simp [World.cell?, ht]); have c7 : wT.cell? ⟨tb, 7, none⟩ = some (.slice none 0 0) := (by simp [World.cell?, ht]); have c8 : wT.cell? ⟨tb, 8, none⟩ = some (.slice none 0 0) := (by simp [World.cell?, ht]); have c9 : wT.cell? ⟨tb, 9, none⟩ = some (.int .i64 0) := (by simp [World.cell?, ht]); clear ht hE hP' hTN' hG'))
            generalize hV3 : World.setCell _ _ _ = V3
            obtain ⟨hv3, hcg3⟩ := seven_stores Ht.out hV3.symm
            clear hV3 f3 f4 f5 f6 f7 f8 f9 c3 c4 c5 c6 c7 c8 c9 cT r3 r4 r5 r6 r7 r8 r9 r10 t0
            have hb1T := (HE.out.2.2.1.block b1 (Array.getElem?_eq_some_iff.1 Hb1c.out).1).trans Hb1c.out
            have hb1V := hcg3.block hb1T Htb2.out.2.2 (by simp)
            have r10 : V3.cell? ⟨b1, 10, none⟩ = some (.int .i64 K) := by simp [World.cell?, hb1V, Hwc.out]
            have t5 : V3.cell? ⟨tb, 5, none⟩ = some (.slice pa' P' pc') := by simp [World.cell?, hv3]
            have t6 : V3.cell? ⟨tb, 6, none⟩ = some (.slice ta' TN' tc') := by simp [World.cell?, hv3]
            have t7 : V3.cell? ⟨tb, 7, none⟩ = some (.slice na' G' nc') := by simp [World.cell?, hv3]
            have t10 : V3.cell? ⟨tb, 10, none⟩ = some (.int .i64 0) := by simp [World.cell?, hv3]
            have f10 : V3.frozen? ⟨tb, 10, none⟩ = false := by simp [World.frozen?, hv3]
            have hP4 : P' ≤ 4 := by rw [HP'.out]; exact HE.out.2.2.2.1
            have hT3 : TN' ≤ 3 := by rw [HTN'.out]; exact HE.out.2.2.2.2.1
            have hG3 : G' ≤ 3 := by rw [HG'.out]; exact HE.out.2.2.2.2.2.1
            have cK : Hid (Calls Try.prog 33 #[.int .i64 K, .int .i64 ((P' : Int) + (TN' : Int) + (G' : Int) + 1)] V3 fun e w' => ∃ r : Nat, e = .returned (.int .i64 r) ∧ r < P' + TN' + G' + 1 ∧ V3 = w') := Lib.hid (by
              have h := mod_any K (P' + TN' + G' + 1) V3 (by omega) (by omega)
              have e : ((P' + TN' + G' + 1 : Nat) : Int) = (P' : Int) + (TN' : Int) + (G' : Int) + 1 := by omega
              rw [e] at h
              exact h)
            have Hv3 := Lib.hid hv3
            have Hcg3 := Lib.hid hcg3
            clear hb1T hb1V hv3 hcg3
            go_upto_region 32 with (first | (go_at_call 33; (with_reducible refine cK.out.mono ?_); rintro e _ ⟨r, rfl, hr, rfl⟩))
            generalize hV4 : World.setCell _ _ _ = V4
            have hv4 : V4.heap[tb]? = some (.cells #[.slice va ar2.length vc', .slice wa l.length wcc, .slice va2 cs.length vc2, .int .i64 hp', .slice ha' hn' hc', .slice pa' P' pc', .slice ta' TN' tc', .slice na' G' nc', .slice va4 nv' vc4, .int .i64 cl', .int .i64 (r : Int)] 34 (0, 0)) := by rw [← hV4]; simpa using heap_setCell (j := 10) Hv3.out (.int .i64 (r : Int))
            have hcg4 : Chg tb none wT V4 := by rw [← hV4]; exact Hcg3.out.trans (chg_store _ _ _ _)
            clear hV4 cK r10 t5 t6 t7 t10 f10
            have hnb2 : b2 ≠ tb := by have := Hbs.out; omega
            have hb2c := (HS.out.oth.keep b2 (Array.getElem?_eq_some_iff.1 HQ2.out).1 hnb2).trans HQ2.out
            have hb2d := (HI.out.oth.keep b2 (Array.getElem?_eq_some_iff.1 hb2c).1 hnb2).trans hb2c
            have hb2e := (HW.out.oth.keep b2 (Array.getElem?_eq_some_iff.1 hb2d).1 hnb2).trans hb2d
            have hb2f := (HE.out.2.2.1.block b2 (Array.getElem?_eq_some_iff.1 hb2e).1).trans hb2e
            have hb2g : V4.heap[b2]? = some (.cells #[.slice none 0 0, .slice none 0 0, .slice none 0 0, .int .i64 0, .slice none 0 0, .slice none 0 0, .slice none 0 0, .slice none 0 0, .slice none 0 0, .int .i64 0, .int .i64 0] 34 (0, 0)) := hcg4.block hb2f hnb2 (by simp)
            have d0 : V4.cell? ⟨tb, 0, none⟩ = some (.slice va ar2.length vc') := by simp [World.cell?, hv4]
            have d1 : V4.cell? ⟨tb, 1, none⟩ = some (.slice wa l.length wcc) := by simp [World.cell?, hv4]
            have d2 : V4.cell? ⟨tb, 2, none⟩ = some (.slice va2 cs.length vc2) := by simp [World.cell?, hv4]
            have d3 : V4.cell? ⟨tb, 3, none⟩ = some (.int .i64 hp') := by simp [World.cell?, hv4]
            have d4 : V4.cell? ⟨tb, 4, none⟩ = some (.slice ha' hn' hc') := by simp [World.cell?, hv4]
            have d5 : V4.cell? ⟨tb, 5, none⟩ = some (.slice pa' P' pc') := by simp [World.cell?, hv4]
            have d6 : V4.cell? ⟨tb, 6, none⟩ = some (.slice ta' TN' tc') := by simp [World.cell?, hv4]
            have d7 : V4.cell? ⟨tb, 7, none⟩ = some (.slice na' G' nc') := by simp [World.cell?, hv4]
            have d8 : V4.cell? ⟨tb, 8, none⟩ = some (.slice va4 nv' vc4) := by simp [World.cell?, hv4]
            have d9 : V4.cell? ⟨tb, 9, none⟩ = some (.int .i64 cl') := by simp [World.cell?, hv4]
            have d10 : V4.cell? ⟨tb, 10, none⟩ = some (.int .i64 (r : Int)) := by simp [World.cell?, hv4]
            have z0 : V4.cell? ⟨b2, 0, none⟩ = some (.slice none 0 0) := by simp [World.cell?, hb2g]
            have z1 : V4.cell? ⟨b2, 1, none⟩ = some (.slice none 0 0) := by simp [World.cell?, hb2g]
            have z2 : V4.cell? ⟨b2, 2, none⟩ = some (.slice none 0 0) := by simp [World.cell?, hb2g]
            have z3 : V4.cell? ⟨b2, 3, none⟩ = some (.int .i64 0) := by simp [World.cell?, hb2g]
            have z4 : V4.cell? ⟨b2, 4, none⟩ = some (.slice none 0 0) := by simp [World.cell?, hb2g]
            have z5 : V4.cell? ⟨b2, 5, none⟩ = some (.slice none 0 0) := by simp [World.cell?, hb2g]
            have z6 : V4.cell? ⟨b2, 6, none⟩ = some (.slice none 0 0) := by simp [World.cell?, hb2g]
            have z7 : V4.cell? ⟨b2, 7, none⟩ = some (.slice none 0 0) := by simp [World.cell?, hb2g]
            have z8 : V4.cell? ⟨b2, 8, none⟩ = some (.slice none 0 0) := by simp [World.cell?, hb2g]
            have z9 : V4.cell? ⟨b2, 9, none⟩ = some (.int .i64 0) := by simp [World.cell?, hb2g]
            have z10 : V4.cell? ⟨b2, 10, none⟩ = some (.int .i64 0) := by simp [World.cell?, hb2g]
            have g0 : V4.frozen? ⟨b2, 0, none⟩ = false := by simp [World.frozen?, hb2g]
            have g1 : V4.frozen? ⟨b2, 1, none⟩ = false := by simp [World.frozen?, hb2g]
            have g2 : V4.frozen? ⟨b2, 2, none⟩ = false := by simp [World.frozen?, hb2g]
            have g3 : V4.frozen? ⟨b2, 3, none⟩ = false := by simp [World.frozen?, hb2g]
            have g4 : V4.frozen? ⟨b2, 4, none⟩ = false := by simp [World.frozen?, hb2g]
            have g5 : V4.frozen? ⟨b2, 5, none⟩ = false := by simp [World.frozen?, hb2g]
            have g6 : V4.frozen? ⟨b2, 6, none⟩ = false := by simp [World.frozen?, hb2g]
            have g7 : V4.frozen? ⟨b2, 7, none⟩ = false := by simp [World.frozen?, hb2g]
            have g8 : V4.frozen? ⟨b2, 8, none⟩ = false := by simp [World.frozen?, hb2g]
            have g9 : V4.frozen? ⟨b2, 9, none⟩ = false := by simp [World.frozen?, hb2g]
            have g10 : V4.frozen? ⟨b2, 10, none⟩ = false := by simp [World.frozen?, hb2g]
            have HF : Hid (∀ V, V = (((((((((((V4.setCell ⟨b2, 0, none⟩ (.slice va ar2.length vc')).setCell ⟨b2, 1, none⟩ (.slice wa l.length wcc)).setCell ⟨b2, 2, none⟩ (.slice va2 cs.length vc2)).setCell ⟨b2, 3, none⟩ (.int .i64 hp')).setCell ⟨b2, 4, none⟩ (.slice ha' hn' hc')).setCell ⟨b2, 5, none⟩ (.slice pa' P' pc')).setCell ⟨b2, 6, none⟩ (.slice ta' TN' tc')).setCell ⟨b2, 7, none⟩ (.slice na' G' nc')).setCell ⟨b2, 8, none⟩ (.slice va4 nv' vc4)).setCell ⟨b2, 9, none⟩ (.int .i64 cl')).setCell ⟨b2, 10, none⟩ (.int .i64 (r : Int))) → V.heap[b2]? = some (.cells #[.slice va ar2.length vc', .slice wa l.length wcc, .slice va2 cs.length vc2, .int .i64 hp', .slice ha' hn' hc', .slice pa' P' pc', .slice ta' TN' tc', .slice na' G' nc', .slice va4 nv' vc4, .int .i64 cl', .int .i64 (r : Int)] 34 (0, 0)) ∧ TamedEnd ⟨aa, ac, ar, ra, rc, rows, ca, cc, cs0, ⟨hp, rha, rhn, rhc, pa, pc, pos, ta, tc, tests, na, nc, neg, rva, nv0, rvc, cl⟩, K⟩ w (.returned (.agg #[.slice va ar2.length vc', .slice wa l.length wcc, .slice va2 cs.length vc2, .int .i64 hp', .slice ha' hn' hc', .slice pa' P' pc', .slice ta' TN' tc', .slice na' G' nc', .slice va4 nv' vc4, .int .i64 cl', .int .i64 (r : Int)])) V) := Lib.hid (fun V hV => by
              obtain ⟨k1, k2⟩ := eleven_stores hb2g hV
              obtain ⟨m1, m2, m3, m4, m5, m6, m7, m8, m9, m10, m11, m12, m13, m14⟩ := HE.out
              have hz := Hbs.out
              have hcg : Chg tb (some b2) wT V := ⟨k2.os.trans hcg4.os, k2.tape.trans hcg4.tape, k2.output.trans hcg4.output, Nat.le_trans hcg4.size k2.size, fun j hj h1 h2 => (k2.keep j (Nat.lt_of_lt_of_le hj hcg4.size) (fun e => h2 (by rw [e])) (by simp)).trans (hcg4.keep j hj h1 (by simp))⟩
              have hfin := tamed_fin (K := (r : Int)) HS.out HI.out HW.out m3 hcg HB0.out (by omega) (by omega) HQ2.out HL1.out HA1.out m1 m2 m4 m5 m6 m7 m8 m14 ⟨by omega, by have := HP'.out; have := HTN'.out; have := HG'.out; simp only; omega⟩ (by have := HWL.out; omega)
              refine ⟨k1, ⟨va, vc', ar2, wa, wcc, l, va2, vc2, cs, ⟨hp', ha', hn', hc', pa', pc', pos', ta', tc', tests', na', nc', neg', va4, nv', vc4, cl'⟩, (r : Int)⟩, ?_, hfin.1, hfin.2, ?_, m9, m10, m11, m12⟩
              · rw [HP'.out, HTN'.out, HG'.out]; rfl
              · simp only; rw [HWL.out, HRN.out])
            clear hv4 hcg4 hb2c hb2d hb2e hb2f hb2g hnb2
            go_wp2_with fail
            generalize hV : World.setCell _ _ _ = V
            obtain ⟨hh, hF⟩ := HF.out V hV.symm
            clear hV HF
            refine bodyPost_ret (v := .agg #[.slice va ar2.length vc', .slice wa l.length wcc, .slice va2 cs.length vc2, .int .i64 hp', .slice ha' hn' hc', .slice pa' P' pc', .slice ta' TN' tc', .slice na' G' nc', .slice va4 nv' vc4, .int .i64 cl', .int .i64 (r : Int)]) ?_ rfl hF
            simp [results, Try.results11, go_sem, World.cell?, hh]
end Mt
end Go.Proofs.Ytkejjiohkhlnnaa

namespace Go.Proofs.Ytkejjiohkhlnnaa
open Go.RowKit
namespace Mt

theorem ground_of {sub : List Int} {l : List (Bool × Int)} {xs : List Int} (hl : l.length = xs.length) (h : ∀ z ∈ l.zip xs, valueL z.1.1 z.1.2 sub = z.2 ∧ 0 ≤ z.2) : groundL sub l = some xs := by
  induction l generalizing xs with
  | nil =>
    cases xs with
    | nil => rfl
    | cons x xs => simp at hl
  | cons s l ih =>
    cases xs with
    | nil => simp at hl
    | cons x xs =>
      obtain ⟨h1, h2⟩ := h (s, x) (by simp)
      have := ih (xs := xs) (by simpa using hl) (fun z hz => h z (by simp [hz]))
      simp only at h1
      simp only [groundL, h1, this]
      rw [if_neg (by omega)]
      rfl
theorem ground_facts {sub : List Int} {l : List (Bool × Int)} {xs : List Int} (h : groundL sub l = some xs) : l.length = xs.length ∧ ∀ z ∈ l.zip xs, valueL z.1.1 z.1.2 sub = z.2 ∧ 0 ≤ z.2 := by
  induction l generalizing xs with
  | nil =>
    simp [groundL] at h
    subst h
    simp
  | cons s l ih =>
    simp only [groundL] at h
    split at h
    · cases h
    · rename_i hv
      rw [Option.map_eq_some_iff] at h
      obtain ⟨ys, hy, rfl⟩ := h
      obtain ⟨h1, h2⟩ := ih hy
      refine ⟨by simp [h1], fun z hz => ?_⟩
      simp only [List.zip_cons_cons, List.mem_cons] at hz
      rcases hz with rfl | hz
      · exact ⟨rfl, by simp only; omega⟩
      · exact h2 z hz
theorem value_facts {v : Bool} {n x : Int} {sub : List Int} (h : valueL v n sub = x) (hx : 0 ≤ x) : 0 ≤ n ∧ (v = true → sub[n.toNat]? = some x) ∧ (v = false → n = x) := by
  unfold valueL at h
  split at h
  · omega
  · rename_i hn
    refine ⟨by omega, fun hv => ?_, fun hv => ?_⟩
    · rw [if_pos hv] at h
      unfold boundL at h
      rw [if_neg hn] at h
      split at h
      · omega
      · rename_i y hy
        split at h
        · omega
        · rw [hy, h]
    · rw [if_neg (by simp [hv])] at h
      exact h
theorem value_var {n : Int} {x : Int} {sub : List Int} (hn : 0 ≤ n) (h : sub[n.toNat]? = some x) (hx : 0 ≤ x) : valueL true n sub = x := by
  unfold valueL
  rw [if_neg (by omega), if_pos rfl]
  unfold boundL
  rw [if_neg (by omega), h]
  simp only
  rw [if_neg (by omega)]
theorem chk_facts {m n : Nat} {zs : List Z} (h : chkL badP m zs = some n) : m ≤ n ∧ ∀ z ∈ zs, badP z = false ∧ (z.1.1 = true → z.1.2.toNat < n) := by
  induction zs generalizing m with
  | nil =>
    simp [chkL] at h
    subst h
    exact ⟨Nat.le_refl _, by simp⟩
  | cons z r ih =>
    simp only [chkL] at h
    split at h
    · cases h
    · rename_i hb
      obtain ⟨h1, h2⟩ := ih h
      refine ⟨?_, fun y hy => ?_⟩
      · split at h1 <;> omega
      · rcases List.mem_cons.1 hy with rfl | hy
        · refine ⟨by simpa using hb, fun hv => ?_⟩
          rw [if_pos hv] at h1
          omega
        · exact h2 y hy
theorem chk_is {zs : List Z} (h : ∀ z ∈ zs, badP z = false) (m : Nat) : ∃ n, chkL badP m zs = some n := by
  induction zs generalizing m with
  | nil => exact ⟨m, rfl⟩
  | cons z r ih =>
    simp only [chkL]
    rw [if_neg (by simp [h z (by simp)])]
    exact ih (fun y hy => h y (by simp [hy])) _
theorem row_is {zs : List Z} {ys : List Int} (f : Nat → Int) (hz : ∀ z ∈ zs, (z.1.1 = true → f z.1.2.toNat = z.2 ∧ z.1.2.toNat < ys.length) ∧ (z.1.1 = false → z.1.2 = z.2)) (hy : ∀ i, i < ys.length → 0 ≤ ys.getD i 0 → ys.getD i 0 = f i) : ∃ xs, rowL ys zs = some xs := by
  induction zs generalizing ys with
  | nil => exact ⟨ys, rfl⟩
  | cons z r ih =>
    obtain ⟨h1, h2⟩ := hz z (by simp)
    simp only [rowL]
    cases hv : z.1.1 with
    | true =>
      obtain ⟨h3, h4⟩ := h1 hv
      simp only [if_true]
      rw [if_neg (fun e => e.2 (by rw [hy _ h4 e.1, h3]))]
      refine ih (fun y hy' => ?_) (fun i hi h0 => ?_)
      · obtain ⟨a, b⟩ := hz y (by simp [hy'])
        exact ⟨fun e => ⟨(a e).1, by rw [List.length_set]; exact (a e).2⟩, b⟩
      · rw [List.length_set] at hi
        by_cases hij : z.1.2.toNat = i
        · subst hij
          have : (ys.set z.1.2.toNat z.2).getD z.1.2.toNat 0 = z.2 := by simp [List.getD_eq_getElem?_getD, hi]
          rw [this, h3]
        · have : (ys.set z.1.2.toNat z.2).getD i 0 = ys.getD i 0 := by simp [List.getD_eq_getElem?_getD, List.getElem?_set_ne hij]
          rw [this] at h0 ⊢
          exact hy i hi h0
    | false =>
      simp only [Bool.false_eq_true, if_false]
      rw [if_pos (h2 hv)]
      exact ih (fun y hy' => hz y (by simp [hy'])) hy
theorem row_facts {zs : List Z} {ys xs : List Int} (h : rowL ys zs = some xs) (hz : ∀ z ∈ zs, 0 ≤ z.2 ∧ (z.1.1 = true → z.1.2.toNat < ys.length)) :
    xs.length = ys.length ∧ (∀ i, i < ys.length → 0 ≤ ys.getD i 0 → xs.getD i 0 = ys.getD i 0) ∧ (∀ i, i < ys.length → xs.getD i 0 ≠ ys.getD i 0 → ∃ z ∈ zs, z.1.1 = true ∧ z.1.2.toNat = i) ∧ ∀ z ∈ zs, (z.1.1 = true → xs.getD z.1.2.toNat 0 = z.2) ∧ (z.1.1 = false → z.1.2 = z.2) := by
  induction zs generalizing ys with
  | nil =>
    simp [rowL] at h
    subst h
    exact ⟨rfl, fun _ _ _ => rfl, fun _ _ e => absurd rfl e, by simp⟩
  | cons z r ih =>
    obtain ⟨g1, g2⟩ := hz z (by simp)
    simp only [rowL] at h
    cases hv : z.1.1 with
    | true =>
      have g3 := g2 hv
      rw [if_pos hv] at h
      split at h
      · cases h
      · rename_i hc
        have hset : ∀ i, i < ys.length → (ys.set z.1.2.toNat z.2).getD i 0 = if z.1.2.toNat = i then z.2 else ys.getD i 0 := fun i hi => by
          by_cases hij : z.1.2.toNat = i
          · subst hij
            rw [if_pos rfl]
            simp [List.getD_eq_getElem?_getD, hi]
          · rw [if_neg hij]
            simp [List.getD_eq_getElem?_getD, List.getElem?_set_ne hij]
        obtain ⟨a, b, c, d⟩ := ih h (fun y hy => by
          obtain ⟨e1, e2⟩ := hz y (by simp [hy])
          exact ⟨e1, fun e => by rw [List.length_set]; exact e2 e⟩)
        rw [List.length_set] at a b c
        have b' : ∀ i, i < ys.length → 0 ≤ ys.getD i 0 → xs.getD i 0 = ys.getD i 0 := fun i hi h0 => by
          by_cases hij : z.1.2.toNat = i
          · have e : ys.getD i 0 = z.2 := by
              rw [← hij] at h0 ⊢
              exact Decidable.byContradiction fun e => hc ⟨h0, e⟩
            have := b i hi (by rw [hset i hi, if_pos hij]; exact g1)
            rw [this, hset i hi, if_pos hij, e]
          · have := b i hi (by rw [hset i hi, if_neg hij]; exact h0)
            rw [this, hset i hi, if_neg hij]
        refine ⟨a, b', fun i hi hne => ?_, fun y hy => ?_⟩
        · by_cases hij : z.1.2.toNat = i
          · exact ⟨z, by simp, hv, hij⟩
          · obtain ⟨y, hy, e1, e2⟩ := c i hi (by rw [hset i hi, if_neg hij]; exact hne)
            exact ⟨y, by simp [hy], e1, e2⟩
        · rcases List.mem_cons.1 hy with rfl | hy
          · refine ⟨fun _ => ?_, fun e => by rw [hv] at e; cases e⟩
            have := b _ g3 (by rw [hset _ g3, if_pos rfl]; exact g1)
            rw [this, hset _ g3, if_pos rfl]
          · exact d y hy
    | false =>
      rw [if_neg (by simp [hv])] at h
      split at h
      · rename_i hc
        obtain ⟨a, b, c, d⟩ := ih h (fun y hy => hz y (by simp [hy]))
        refine ⟨a, b, fun i hi hne => ?_, fun y hy => ?_⟩
        · obtain ⟨y, hy, e1, e2⟩ := c i hi hne
          exact ⟨y, by simp [hy], e1, e2⟩
        · rcases List.mem_cons.1 hy with rfl | hy
          · exact ⟨fun e => (by rw [hv] at e; cases e), fun _ => hc⟩
          · exact d y hy
      · cases h
theorem base_len (sub : List Int) (n : Nat) : (baseL sub n).length = n := by simp [baseL]
theorem base_at (sub : List Int) {n i : Nat} (h : i < n) : (baseL sub n).getD i 0 = boundL sub (i : Int) := by
  simp [baseL, List.getD_eq_getElem?_getD, h]
/-- a substitution that keeps what was bound and makes the pattern the row: then Extend has one -/
theorem least_is {l : List (Bool × Int)} {args sub more : List Int} (hg : groundL more l = some args) (keeps : ∀ i : Nat, 0 ≤ boundL sub (i : Int) → more[i]? = some (boundL sub (i : Int))) (low : ∀ s ∈ l, s.1 = true → s.2 < 16) : ∃ xs, extL l args sub = some xs := by
  obtain ⟨hl, hz⟩ := ground_facts hg
  have hok : ∀ z ∈ l.zip args, badP z = false := fun z hz' => by
    obtain ⟨h1, h2⟩ := hz z hz'
    obtain ⟨h3, -, -⟩ := value_facts h1 h2
    have hm : z.1 ∈ l := (List.of_mem_zip (a := z.1) (b := z.2) hz').1
    have h4 := low z.1 hm
    unfold badP
    cases hv : z.1.1 with
    | true =>
      have := h4 hv
      simp; omega
    | false => simp; omega
  obtain ⟨n, hn⟩ := chk_is hok sub.length
  obtain ⟨h1, h2⟩ := chk_facts hn
  unfold extL
  rw [if_pos hl, hn]
  refine row_is (fun i => more.getD i 0) (fun z hz' => ⟨fun hv => ⟨?_, ?_⟩, fun hv => ?_⟩) (fun i hi h0 => ?_)
  · obtain ⟨a, b⟩ := hz z hz'
    have := (value_facts a b).2.1 hv
    simp [List.getD_eq_getElem?_getD, this]
  · rw [base_len]
    exact (h2 z hz').2 hv
  · obtain ⟨a, b⟩ := hz z hz'
    exact (value_facts a b).2.2 hv
  · rw [base_len] at hi
    rw [base_at sub hi] at h0 ⊢
    have := keeps i h0
    simp [List.getD_eq_getElem?_getD, this]
/-- what Extend answers makes the pattern the row, keeps what was bound, and binds nothing else -/
theorem least_facts {l : List (Bool × Int)} {args sub xs : List Int} (h : extL l args sub = some xs) :
    groundL xs l = some args ∧ sub.length ≤ xs.length ∧ ∀ i, i < xs.length → (0 ≤ boundL sub (i : Int) → xs.getD i 0 = boundL sub (i : Int)) ∧ (boundL sub (i : Int) < 0 → xs.getD i 0 = -1 ∨ ∃ s ∈ l, s.1 = true ∧ s.2 = i) := by
  unfold extL at h
  split at h
  · rename_i hl
    rw [Option.bind_eq_some_iff] at h
    obtain ⟨n, hn, hr⟩ := h
    obtain ⟨h1, h2⟩ := chk_facts hn
    have hb : ∀ z ∈ l.zip args, 0 ≤ z.1.2 ∧ 0 ≤ z.2 := fun z hz => by
      have := (h2 z hz).1
      simp [badP] at this
      omega
    obtain ⟨a, b, c, d⟩ := row_facts hr (fun z hz => ⟨(hb z hz).2, fun hv => by rw [base_len]; exact (h2 z hz).2 hv⟩)
    rw [base_len] at a b c
    refine ⟨ground_of hl (fun z hz => ⟨?_, (hb z hz).2⟩), by omega, fun i hi => ⟨fun h0 => ?_, fun h0 => ?_⟩⟩
    · cases hv : z.1.1 with
      | true =>
        have e := (d z hz).1 hv
        have hlt := (h2 z hz).2 hv
        refine value_var (hb z hz).1 ?_ (hb z hz).2
        rw [List.getD_eq_getElem?_getD, List.getElem?_eq_getElem (by omega)] at e
        rw [List.getElem?_eq_getElem (by omega)]
        simpa using e
      | false =>
        have e := (d z hz).2 hv
        unfold valueL
        rw [if_neg (by have := (hb z hz).1; omega), if_neg (by simp)]
        exact e
    · have hi' : i < n := by omega
      have := b i hi' (by rw [base_at sub hi']; exact h0)
      rw [this, base_at sub hi']
    · have hi' : i < n := by omega
      by_cases he : xs.getD i 0 = (baseL sub n).getD i 0
      · left
        rw [he, base_at sub hi']
        rw [base_at sub hi'] at he
        unfold boundL at h0 ⊢
        split at h0
        · rename_i hc; rw [if_pos hc]
        · rename_i hc
          rw [if_neg hc]
          split at h0
          · rfl
          · split at h0
            · rename_i hx; simp [hx]
            · omega
      · obtain ⟨z, hz, e1, e2⟩ := c i hi' he
        right
        refine ⟨z.1, (List.of_mem_zip (a := z.1) (b := z.2) hz).1, e1, ?_⟩
        have := (hb z hz).1
        omega
  · cases h
end Mt
end Go.Proofs.Ytkejjiohkhlnnaa

namespace Go.Proofs.Ytkejjiohkhlnnaa
open Go.RowKit
namespace Mt

/-- what a slot is under a substitution -/
def putL (s : Sl) (x : List Int) : Int := if s.1 then x.getD s.2.toNat 0 else s.2
def argsL (l : List Sl) (x : List Int) : List Int := l.map fun s => putL s x
theorem value_put {d L : Nat} {s : Sl} {x : List Int} (hs : SlotOk L d s) (hx : ∀ v ∈ x, 0 ≤ v) (hl : L ≤ x.length) : valueL s.1 s.2 x = putL s x ∧ 0 ≤ putL s x := by
  obtain ⟨b, n⟩ := s
  obtain ⟨h0, h1⟩ := hs
  simp only at h0 h1
  unfold putL valueL
  simp only
  rw [if_neg (by omega)]
  cases b with
  | false => exact ⟨rfl, h0⟩
  | true =>
    simp only [if_true] at h1 ⊢
    have hlt : n.toNat < x.length := by omega
    unfold boundL
    rw [if_neg (by omega), List.getElem?_eq_getElem hlt, List.getD_eq_getElem?_getD, List.getElem?_eq_getElem hlt]
    have := hx _ (List.getElem_mem hlt)
    simp only [Option.getD_some]
    rw [if_neg (by omega)]
    exact ⟨rfl, this⟩
theorem ground_put {d L : Nat} {l : List Sl} {x : List Int} (hs : ∀ s ∈ l, SlotOk L d s) (hx : ∀ v ∈ x, 0 ≤ v) (hl : L ≤ x.length) : groundL x l = some (argsL l x) := by
  induction l with
  | nil => rfl
  | cons s l ih =>
    obtain ⟨h1, h2⟩ := value_put (hs s (List.mem_cons_self ..)) hx hl
    simp only [groundL, h1]
    rw [if_neg (by omega), ih (fun q hq => hs q (List.mem_cons_of_mem _ hq))]
    rfl
theorem put_take {d m : Nat} {s : Sl} (x : List Int) (hs : SlotOk m d s) : putL s (x.take m) = putL s x := by
  obtain ⟨b, n⟩ := s
  unfold putL
  cases b with
  | false => rfl
  | true =>
    obtain ⟨h0, h1⟩ := hs
    simp only [if_true] at h0 h1 ⊢
    rw [List.getD_eq_getElem?_getD, List.getD_eq_getElem?_getD, List.getElem?_take, if_pos (by omega)]
theorem args_take {d m : Nat} {l : List Sl} (x : List Int) (hs : ∀ s ∈ l, SlotOk m d s) : argsL l (x.take m) = argsL l x := by
  unfold argsL
  exact List.map_congr_left fun s h => put_take x (hs s h)
theorem next_lt {l : List Sl} {m L : Nat} (h : nextL l m = some L) : ∀ s ∈ l, s.1 = true → s.2 < L := by
  induction l generalizing m with
  | nil => intro s hs; cases hs
  | cons s r ih =>
    intro q hq hq1
    simp only [nextL] at h
    split at h
    · rename_i hs
      split at h
      · cases h
      · rename_i h1
        split at h
        · rename_i h2
          have := (next_new h).1
          rcases List.mem_cons.1 hq with rfl | hq
          · omega
          · exact ih h q hq hq1
        · rename_i h2
          have := (next_new h).1
          rcases List.mem_cons.1 hq with rfl | hq
          · omega
          · exact ih h q hq hq1
    · rename_i hs
      rcases List.mem_cons.1 hq with rfl | hq
      · exact absurd hq1 hs
      · exact ih h q hq hq1
theorem next_ok {V d m L : Nat} {l : List Sl} (h : nextL l m = some L) (hs : ∀ s ∈ l, SlotOk V d s) : ∀ s ∈ l, SlotOk L d s := fun s h1 => by
  obtain ⟨k0, k1⟩ := hs s h1
  refine ⟨k0, ?_⟩
  by_cases hv : s.1 = true
  · rw [if_pos hv]; exact next_lt h s h1 hv
  · rw [if_neg hv] at k1 ⊢; exact k1
theorem bound_in {d : Nat} {sub : List Int} (hs : IdsIn d sub) {i : Nat} (hi : i < sub.length) : boundL sub (i : Int) = sub[i] ∧ 0 ≤ boundL sub (i : Int) := by
  have h := hs _ (List.getElem_mem hi)
  have e : boundL sub (i : Int) = sub[i] := by
    rw [boundL_in (List.getElem?_eq_getElem hi), if_neg (by omega)]
  exact ⟨e, by rw [e]; exact h.1⟩
theorem ext_fwd {d L : Nat} {l : List Sl} {args sub y : List Int} (hn : nextL l sub.length = some L) (hs : IdsIn d sub) (ha : IdsIn d args) (h : extL l args sub = some y) : y.length = L ∧ IdsIn d y ∧ y.take sub.length = sub ∧ groundL y l = some args := by
  obtain ⟨k1, k2⟩ := ext_ok h hn hs ha
  obtain ⟨q1, q2, q3⟩ := least_facts h
  refine ⟨k1, k2, ?_, q1⟩
  apply List.ext_getElem
  · rw [List.length_take]; omega
  · intro i h1 h2
    rw [List.getElem_take]
    obtain ⟨b1, b2⟩ := bound_in hs h2
    have := (q3 i (by omega)).1 b2
    rw [List.getD_eq_getElem?_getD, List.getElem?_eq_getElem (by omega), Option.getD_some] at this
    rw [this, b1]
theorem ext_iff {d L : Nat} {l : List Sl} {args sub y : List Int} (hn : nextL l sub.length = some L) (hL : L ≤ 16) (hs : IdsIn d sub) (ha : IdsIn d args) :
    extL l args sub = some y ↔ y.length = L ∧ IdsIn d y ∧ y.take sub.length = sub ∧ groundL y l = some args := by
  refine ⟨ext_fwd hn hs ha, fun ⟨h1, h2, h3, h4⟩ => ?_⟩
  obtain ⟨xs, hx⟩ := least_is h4 (sub := sub) (fun i hi => by
    by_cases hl : i < sub.length
    · have b1 := (bound_in hs hl).1
      rw [b1]
      have : (y.take sub.length)[i]? = sub[i]? := by rw [h3]
      rw [List.getElem?_take, if_pos hl] at this
      rw [this, List.getElem?_eq_getElem hl]
    · rw [boundL_out (by omega)] at hi
      omega) (fun s hs1 hv => by have := next_lt hn s hs1 hv; omega)
  obtain ⟨k1, k2, k3, k4⟩ := ext_fwd hn hs ha hx
  have e : xs = y := by
    apply List.ext_getElem?
    intro i
    by_cases hl : i < sub.length
    · have e1 : (y.take sub.length)[i]? = (xs.take sub.length)[i]? := by rw [h3, k3]
      rw [List.getElem?_take, List.getElem?_take, if_pos hl, if_pos hl] at e1
      exact e1.symm
    · by_cases hL2 : i < L
      · obtain ⟨s, q1, q2, q3⟩ := (next_new hn).2 i (by omega) hL2
        obtain ⟨g1, g2⟩ := ground_facts h4
        obtain ⟨g3, g4⟩ := ground_facts k4
        obtain ⟨k, hk⟩ := List.mem_iff_getElem?.1 q1
        obtain ⟨hk1, -⟩ := List.getElem?_eq_some_iff.1 hk
        have hza : (s, args[k]'(by omega)) ∈ l.zip args := by
          rw [List.mem_iff_getElem?]
          exact ⟨k, by rw [List.getElem?_zip_eq_some]; exact ⟨hk, List.getElem?_eq_getElem (by omega)⟩⟩
        have a1 := (value_facts (g2 _ hza).1 (g2 _ hza).2).2.1 q2
        have a2 := (value_facts (g4 _ hza).1 (g4 _ hza).2).2.1 q2
        simp only [q3, Int.toNat_natCast] at a1 a2
        rw [a1, a2]
      · rw [List.getElem?_eq_none (by omega), List.getElem?_eq_none (by omega)]
  rw [← e]
  exact hx
theorem narrow_at {sub : List Int} : ∀ {l : List Sl} {k i : Nat} {x : Int}, narrowL sub l k = some (i, x) → k ≤ i ∧ ∃ s, l[i - k]? = some s ∧ valueL s.1 s.2 sub = x ∧ 0 ≤ x
  | [], k, i, x, h => by simp [narrowL] at h
  | s :: r, k, i, x, h => by
    simp only [narrowL] at h
    split at h
    · rename_i h0
      cases h
      exact ⟨Nat.le_refl _, s, by simp, rfl, h0⟩
    · obtain ⟨k1, q, k2, k3, k4⟩ := narrow_at h
      refine ⟨by omega, q, ?_, k3, k4⟩
      have e : i - k = (i - (k + 1)) + 1 := by omega
      rw [e, List.getElem?_cons_succ]
      exact k2
theorem idxL_mem {q : Row → Prop} {rows : List Row} {i : Nat} {r : Row} (h : rows[i]? = some r) (hq : q r) : (i : Int) ∈ idxL q rows := by
  unfold idxL
  rw [List.mem_filterMap]
  exact ⟨(r, i), by rw [List.mk_mem_zipIdx_iff_getElem?]; exact h, by simp [hq]⟩
theorem nums_sub {rows : List Row} {p : Pat} {sub : List Int} : ∃ q : Row → Prop, numsL rows p sub = idxL q rows ∧ (∀ r, q r → r.1 = p.1) ∧ ∀ r, r.1 = p.1 → (∀ i x, narrowL sub p.2 0 = some (i, x) → r.2[i]? = some x) → q r := by
  unfold numsL
  split
  · rename_i i x h
    rw [whK_nat]
    exact ⟨_, rfl, fun r h => h.1, fun r h1 h2 => ⟨h1, h2 i x h⟩⟩
  · exact ⟨_, rfl, fun r h => by injection h with _ h; exact h.symm, fun r h1 _ => by rw [h1]⟩
theorem step_iff {d L : Nat} {rows : List Row} {p : Pat} {sub y : List Int} (hn : nextL p.2 sub.length = some L) (hs : IdsIn d sub) (hr : ∀ r ∈ rows, IdsIn d r.2) : y ∈ stepL rows p sub ↔ ∃ r ∈ rows, r.1 = p.1 ∧ extL p.2 r.2 sub = some y := by
  obtain ⟨q, e, q1, q2⟩ := nums_sub (rows := rows) (p := p) (sub := sub)
  unfold stepL
  rw [e, List.mem_filterMap]
  constructor
  · rintro ⟨n, h1, h2⟩
    obtain ⟨i, r, rfl, h3, h4⟩ := idxL_at h1
    rw [Int.toNat_natCast, h3] at h2
    exact ⟨r, List.mem_of_getElem? h3, q1 r h4, h2⟩
  · rintro ⟨r, h1, h2, h3⟩
    obtain ⟨i, hi⟩ := List.mem_iff_getElem?.1 h1
    refine ⟨(i : Int), idxL_mem hi (q2 r h2 fun j x hj => ?_), by rw [Int.toNat_natCast, hi]; exact h3⟩
    obtain ⟨-, s, k1, k2, k3⟩ := narrow_at hj
    rw [Nat.sub_zero] at k1
    obtain ⟨-, -, f3, f4⟩ := ext_fwd hn hs (hr r h1) h3
    obtain ⟨g1, g2⟩ := ground_facts f4
    obtain ⟨hj1, -⟩ := List.getElem?_eq_some_iff.1 k1
    have hz : (s, r.2[j]'(by omega)) ∈ p.2.zip r.2 := by
      rw [List.mem_iff_getElem?]
      exact ⟨j, by rw [List.getElem?_zip_eq_some]; exact ⟨k1, List.getElem?_eq_getElem (by omega)⟩⟩
    rw [List.getElem?_eq_getElem (by omega)]
    have v1 := g2 _ hz
    obtain ⟨w1, w2, w3⟩ := value_facts k2 k3
    simp only at v1
    obtain ⟨u1, u2, u3⟩ := value_facts v1.1 v1.2
    cases hv : s.1 with
    | false => rw [← u3 hv, w3 hv]
    | true =>
      have a1 := u2 hv
      have a2 := w2 hv
      have hlt := (List.getElem?_eq_some_iff.1 a2).1
      have : (y.take sub.length)[s.2.toNat]? = some x := by rw [f3]; exact a2
      rw [List.getElem?_take, if_pos hlt, a1] at this
      exact this
/-- does a condition hold under a substitution? -/
def CdSat (rows : List Row) (cs : List C3) (x : List Int) : Cd → Prop
  | .pos p => (p.1, argsL p.2 x) ∈ rows
  | .tst t => (holdsR cs t.1 (putL t.2.1 x) (putL t.2.2 x)).1 = true
  | .neg p => (p.1, argsL p.2 x) ∉ rows
/-- conditions whose slots are bound where they are asked -/
def CdOk (d : Nat) : List Cd → Nat → Prop
  | [], _ => True
  | .pos p :: r, n => ∃ k, nextL p.2 n = some k ∧ (∀ s ∈ p.2, SlotOk k d s) ∧ CdOk d r k
  | .tst t :: r, n => TstOk n d t ∧ CdOk d r n
  | .neg p :: r, n => PatOk n d p ∧ CdOk d r n
theorem ids_take {d m : Nat} {x : List Int} (h : IdsIn d x) : IdsIn d (x.take m) := fun v hv => h v (List.mem_of_mem_take hv)
theorem ids_pos {d : Nat} {x : List Int} (h : IdsIn d x) : ∀ v ∈ x, 0 ≤ v := fun v hv => (h v hv).1
theorem res_iff {rows : List Row} {cs : List C3} {d : Nat} (hr : ∀ r ∈ rows, IdsIn d r.2) : ∀ (c : List Cd) (sub : List Int) (L : Nat), IdsIn d sub → nextC c sub.length = some L → L ≤ 16 → CdOk d c sub.length → ∀ x, x ∈ resL rows cs c sub ↔ x.length = L ∧ IdsIn d x ∧ x.take sub.length = sub ∧ ∀ q ∈ c, CdSat rows cs x q
  | [], sub, L, hs, hn, hL, ho, x => by
    simp only [nextC, Option.some.injEq] at hn
    simp only [resL, List.mem_singleton]
    constructor
    · rintro rfl
      exact ⟨hn, hs, List.take_length, fun q hq => by cases hq⟩
    · rintro ⟨h1, -, h3, -⟩
      rw [List.take_of_length_le (by omega)] at h3
      exact h3
  | .pos p :: c, sub, L, hs, hn, hL, ho, x => by
    simp only [nextC] at hn
    obtain ⟨k, h1, h2⟩ := Option.bind_eq_some_iff.1 hn
    obtain ⟨k', h3, h4, h5⟩ := ho
    rw [h1] at h3
    cases h3
    have hkL := nextC_mono _ _ _ h2
    have hmk := (next_new h1).1
    simp only [resL, List.mem_flatMap]
    constructor
    · rintro ⟨y, hy, hx⟩
      obtain ⟨r, r1, r2, r3⟩ := (step_iff h1 hs hr).1 hy
      obtain ⟨e1, e2, e3, e4⟩ := ext_fwd h1 hs (hr r r1) r3
      obtain ⟨i1, i2, i3, i4⟩ := (res_iff hr c y L e2 (by rw [e1]; exact h2) hL (by rw [e1]; exact h5) x).1 hx
      refine ⟨i1, i2, ?_, fun q hq => ?_⟩
      · have e5 : (x.take k).take sub.length = sub := by rw [← e1, i3]; exact e3
        rw [List.take_take, Nat.min_eq_left hmk] at e5
        exact e5
      · rcases List.mem_cons.1 hq with rfl | hq
        · have g := ground_put (d := d) h4 (ids_pos e2) (by omega)
          have g := Option.some.inj (e4.symm.trans g)
          have e5 : x.take k = y := by rw [← e1]; exact i3
          show (p.1, argsL p.2 x) ∈ rows
          rw [← args_take (d := d) (m := k) x h4, e5, ← g, ← r2]
          exact r1
        · exact i4 q hq
    · rintro ⟨i1, i2, i3, i4⟩
      have hp : (p.1, argsL p.2 x) ∈ rows := i4 _ (List.mem_cons_self ..)
      have hlen : (x.take k).length = k := by rw [List.length_take]; omega
      refine ⟨x.take k, (step_iff h1 hs hr).2 ⟨_, hp, rfl, (ext_iff h1 (by omega) hs (hr _ hp)).2 ⟨hlen, ids_take i2, ?_, ?_⟩⟩, ?_⟩
      · rw [List.take_take, Nat.min_eq_left hmk]; exact i3
      · rw [ground_put (d := d) h4 (ids_pos (ids_take i2)) (by omega), args_take x h4]
      · exact (res_iff hr c (x.take k) L (ids_take i2) (by rw [hlen]; exact h2) hL (by rw [hlen]; exact h5) x).2 ⟨i1, i2, by rw [hlen], fun q hq => i4 q (List.mem_cons_of_mem _ hq)⟩
  | .tst t :: c, sub, L, hs, hn, hL, ho, x => by
    obtain ⟨⟨t1, t2, t3, t4⟩, ho⟩ := ho
    simp only [nextC] at hn
    have IH := res_iff (cs := cs) hr c sub L hs hn hL ho x
    have hm := nextC_mono _ _ _ hn
    have v1 := (value_put t3 (ids_pos hs) (Nat.le_refl _)).1
    have v2 := (value_put t4 (ids_pos hs) (Nat.le_refl _)).1
    simp only [resL, v1, v2]
    have key : x.take sub.length = sub → putL t.2.1 sub = putL t.2.1 x ∧ putL t.2.2 sub = putL t.2.2 x := fun e => by
      have a := put_take x t3
      have b := put_take x t4
      rw [e] at a b
      exact ⟨a, b⟩
    split
    · rename_i hh
      rw [IH]
      constructor
      · rintro ⟨i1, i2, i3, i4⟩
        refine ⟨i1, i2, i3, fun q hq => ?_⟩
        rcases List.mem_cons.1 hq with rfl | hq
        · obtain ⟨a, b⟩ := key i3
          show (holdsR cs t.1 (putL t.2.1 x) (putL t.2.2 x)).1 = true
          rw [← a, ← b]; exact hh
        · exact i4 q hq
      · rintro ⟨i1, i2, i3, i4⟩
        exact ⟨i1, i2, i3, fun q hq => i4 q (List.mem_cons_of_mem _ hq)⟩
    · rename_i hh
      constructor
      · intro h; cases h
      · rintro ⟨i1, i2, i3, i4⟩
        exfalso
        apply hh
        obtain ⟨a, b⟩ := key i3
        rw [a, b]
        exact i4 _ (List.mem_cons_self ..)
  | .neg p :: c, sub, L, hs, hn, hL, ho, x => by
    obtain ⟨⟨t1, t2, t3⟩, ho⟩ := ho
    simp only [nextC] at hn
    have IH := res_iff (cs := cs) hr c sub L hs hn hL ho x
    have hm := nextC_mono _ _ _ hn
    have g := ground_put t3 (ids_pos hs) (Nat.le_refl _)
    simp only [resL, g]
    have key : x.take sub.length = sub → argsL p.2 sub = argsL p.2 x := fun e => by
      have a := args_take x t3
      rw [e] at a
      exact a
    rcases numI_cases rows (p.1, argsL p.2 sub) with ⟨i, h1, h2⟩ | ⟨h1, h2⟩
    · rw [h2, if_pos (Int.natCast_nonneg i)]
      constructor
      · intro h; cases h
      · rintro ⟨i1, i2, i3, i4⟩
        exfalso
        have a : (p.1, argsL p.2 x) ∉ rows := i4 (.neg p) (List.mem_cons_self ..)
        rw [← key i3] at a
        exact a (List.mem_of_getElem? h1)
    · rw [h2, if_neg (by omega), IH]
      constructor
      · rintro ⟨i1, i2, i3, i4⟩
        refine ⟨i1, i2, i3, fun q hq => ?_⟩
        rcases List.mem_cons.1 hq with rfl | hq
        · show (p.1, argsL p.2 x) ∉ rows
          rw [← key i3]; exact h1
        · exact i4 q hq
      · rintro ⟨i1, i2, i3, i4⟩
        exact ⟨i1, i2, i3, fun q hq => i4 q (List.mem_cons_of_mem _ hq)⟩
/-- a fitting rule's first k conditions -/
theorem conds_ok {R : RuleV} {d : Nat} (ok : RuleOk R d) (k : Nat) : CdOk d ((condsL R).take k) 0 := by
  have hP : ∀ (l : List Pat) (rest : List Cd) (m L : Nat) (j : Nat), (∀ p ∈ l, PatOk R.nv d p) → nextP l m = some L → (∀ j, CdOk d (rest.take j) L) → CdOk d ((l.map Cd.pos ++ rest).take j) m := by
    intro l
    induction l with
    | nil =>
      intro rest m L j h1 h2 h3
      simp only [nextP, Option.some.injEq] at h2
      subst h2
      exact h3 j
    | cons p l ih =>
      intro rest m L j h1 h2 h3
      cases j with
      | zero => exact trivial
      | succ j =>
        simp only [nextP] at h2
        obtain ⟨n, k1, k2⟩ := Option.bind_eq_some_iff.1 h2
        simp only [List.map_cons, List.cons_append, List.take_succ_cons]
        exact ⟨n, k1, next_ok k1 (h1 p (List.mem_cons_self ..)).2.2, ih rest n L j (fun q hq => h1 q (List.mem_cons_of_mem _ hq)) k2 h3⟩
  have hT : ∀ (l : List Tst) (rest : List Cd) (j : Nat), (∀ t ∈ l, TstOk R.nv d t) → (∀ j, CdOk d (rest.take j) R.nv) → CdOk d ((l.map Cd.tst ++ rest).take j) R.nv := by
    intro l
    induction l with
    | nil => intro rest j h1 h2; exact h2 j
    | cons t l ih =>
      intro rest j h1 h2
      cases j with
      | zero => exact trivial
      | succ j => exact ⟨h1 t (List.mem_cons_self ..), ih rest j (fun q hq => h1 q (List.mem_cons_of_mem _ hq)) h2⟩
  have hN : ∀ (l : List Pat) (j : Nat), (∀ p ∈ l, PatOk R.nv d p) → CdOk d ((l.map Cd.neg).take j) R.nv := by
    intro l
    induction l with
    | nil => intro j h1; simp [CdOk]
    | cons t l ih =>
      intro j h1
      cases j with
      | zero => exact trivial
      | succ j => exact ⟨h1 t (List.mem_cons_self ..), ih j (fun q hq => h1 q (List.mem_cons_of_mem _ hq))⟩
  unfold condsL
  rw [List.append_assoc]
  exact hP _ _ 0 R.nv k ok.pos ok.next (fun j => hT _ _ j ok.tests (fun j => hN _ j ok.neg))
/-- a substitution that the first k conditions tell -/
def Sat (rows : List Row) (cs : List C3) (R : RuleV) (k : Nat) (x : List Int) : Prop := x.length = wid R k ∧ IdsIn cs.length x ∧ ∀ q ∈ (condsL R).take k, CdSat rows cs x q
theorem pre_iff {rows : List Row} {cs : List C3} {R : RuleV} (hr : ∀ r ∈ rows, IdsIn cs.length r.2) (ok : RuleOk R cs.length) (k : Nat) (x : List Int) : x ∈ pre rows cs R k ↔ Sat rows cs R k x := by
  unfold pre
  rw [(srtL_perm _ _ _).mem_iff]
  have hw := wid_is ok k
  have := res_iff (cs := cs) hr ((condsL R).take k) [] (wid R k) (fun x hx => by cases hx) hw.1 (Nat.le_trans hw.2 ok.vars) (conds_ok ok k) x
  rw [this]
  exact ⟨fun ⟨h1, h2, _, h4⟩ => ⟨h1, h2, h4⟩, fun ⟨h1, h2, h4⟩ => ⟨h1, h2, by simp, h4⟩⟩
end Mt
end Go.Proofs.Ytkejjiohkhlnnaa

namespace Go.Proofs.Ytkejjiohkhlnnaa
open Go.RowKit
namespace Mt

/-- blocks that are not the store's: those before it, and those made since its last turn -/
def Free (n0 n1 : Nat) (j : Nat) : Prop := j < n0 ∨ n1 ≤ j
structure KeepZ (Z : Nat → Prop) (w w' : World) : Prop where
  os : w'.os = w.os
  tape : w'.tape = w.tape
  output : w'.output = w.output
  size : w.heap.size ≤ w'.heap.size
  keep : ∀ j, j < w.heap.size → Z j → w'.heap[j]? = w.heap[j]?
theorem KeepZ.below {n0 n1 n : Nat} {w w' : World} (h : KeepZ (Free n0 n1) w w') (h1 : n ≤ n0) (h2 : n ≤ w.heap.size) : Below n w w' := ⟨h.os, h.tape, h.output, h.size, fun j hj => h.keep j (by omega) (.inl (by omega))⟩
/-- the store at sb: its rows, at most m were ever put in -/
def StoreL (n0 n1 m : Nat) (ar : List Int) (rows : List Row) (sb : Nat) (w : World) : Prop :=
  ∃ σ τ, IsStore 0 sb σ τ w ∧ σ.rows = rows ∧ σ.ar = ar ∧ σ.births ≤ m ∧ (n0 ≤ n1 ∧ n1 ≤ w.heap.size) ∧ ∀ j, Free n0 n1 j → τ j = none
section
variable {n0 n1 m sb : Nat} {ar : List Int} {rows : List Row} {w W V : World}
theorem StoreL.below (h : StoreL n0 n1 m ar rows sb w) (hb : Below w.heap.size w V) : StoreL n0 n1 m ar rows sb V := by
  obtain ⟨σ, τ, h1, h2, h3, h4, h5, h6⟩ := h
  exact ⟨σ, τ, h1.below hb, h2, h3, h4, ⟨h5.1, Nat.le_trans h5.2 hb.size⟩, h6⟩
theorem StoreL.sound (h : StoreL n0 n1 m ar rows sb w) : rows.Nodup ∧ (∀ r ∈ rows, FitsRow ar r) ∧ rows.length ≤ m := by
  obtain ⟨σ, τ, ⟨hd, h1⟩, rfl, rfl, h4, h5, h6⟩ := h
  exact ⟨h1.sound.once, h1.sound.fits, Nat.le_trans h1.sound.many h4⟩
theorem new_L {Z : Nat → Prop} (aa : Option Addr) (ca : Nat) (ar : List Int) (w : World) (ha : IntsZ Z w aa ca ar) (har : ∀ x ∈ ar, 0 ≤ x ∧ x ≤ 8) (hn : ar.length ≤ 128) :
    Calls Try.prog 25 #[.slice aa ar.length ca] w fun e w' => ∃ sb, e = .returned (.tuple #[.pointer (some ⟨sb, 0, none⟩), .int .i64 0]) ∧ StoreL w.heap.size w'.heap.size 0 ar [] sb w' ∧ Below w.heap.size w w' := by
  refine (new_any (s := 0) (τ := fun _ => none) aa ca ar w (fun _ _ => rfl) ha har hn).mono ?_
  rintro e w' ⟨sb, τ', rfl, h1, h2, h3⟩
  refine ⟨sb, rfl, ⟨_, τ', h1, rfl, rfl, Nat.le_refl _, ⟨h3.size, Nat.le_refl _⟩, fun j hj => ?_⟩, h3⟩
  rcases hj with hj | hj
  · rw [h2.own j hj]
  · exact h2.fresh j hj
theorem add_L (hs : StoreL n0 n1 m ar rows sb w) (hb : Below w.heap.size w W) (a : Option Addr) (c : Nat) (l : List Row) (hl : RowsZ (Free n0 n1) W a c l) (hf : ∀ r ∈ l, FitsRow ar r) (hm : m + l.length ≤ 100000) :
    Calls Try.prog 21 #[.pointer (some ⟨sb, 0, none⟩), .slice a l.length c] W fun e w' => ∃ k : Int, e = .returned (.tuple #[.int .i64 k, .int .i64 0]) ∧ StoreL n0 w'.heap.size (m + l.length) ar (joinedL rows l) sb w' ∧ KeepZ (Free n0 n1) W w' := by
  obtain ⟨σ, τ, h1, rfl, rfl, h4, h5, h6⟩ := hs
  refine (add_any (h1.below hb) a c l (hl.zone h6) hf (by omega)).mono ?_
  rintro e w' ⟨rfl, τ', k1, k2⟩
  have hsz := hb.size
  have hsz2 := k2.size
  refine ⟨_, rfl, ⟨_, τ', k1, addAll_rows _ _, addAll_ar _ _, Nat.le_trans (addAll_births _ _) (by omega), ⟨by omega, Nat.le_refl _⟩, fun j hj => ?_⟩, ⟨k2.os, k2.tape, k2.output, k2.size, fun j hj hz => k2.keep j hj (fun r e => by rw [h6 j hz] at e; cases e)⟩⟩
  rcases hj with hj | hj
  · rw [k2.own j (by omega)]; exact h6 j (.inl hj)
  · exact k2.fresh j hj
/-- rules and constants that fit a store's rows -/
structure FitL (T : WorldV) (rows : List Row) : Prop where
  few : rows.length ≤ 30
  ids : ∀ r ∈ rows, IdsIn T.cs.length r.2
theorem prefix_L (hs : StoreL n0 n1 m ar rows sb w) (hb : Below w.heap.size w W) (R : RuleV) (hr : RuleIn W R) (ca : Option Addr) (cc : Nat) (cs : List C3) (hc : Consts W ca cs) (ok : RuleOk R cs.length) (cok : ConstsOk cs) (hrows : rows.length ≤ 30) (hpos : R.pos.length ≤ 4) (hall : ∀ r ∈ rows, IdsIn cs.length r.2)
    (hpr : (∀ p ∈ R.pos, Rng p.1) ∧ ∀ p ∈ R.neg, Rng p.1) (k : Nat) (hk : k ≤ (condsL R).length) :
    Calls Try.prog 15 #[.pointer (some ⟨sb, 0, none⟩), .slice ca cs.length cc, .agg R.cells, .int .i64 k] W (AllEnd (pre rows cs R k) W) := by
  obtain ⟨σ, τ, ⟨hd, h1⟩, rfl, rfl, h4, h5, h6⟩ := hs
  exact prefix_full (h1.below hb) R hr ca cc cs hc ok cok hrows hpos hall hpr k hk
theorem all_L (hs : StoreL n0 n1 m ar rows sb w) (hb : Below w.heap.size w W) (R : RuleV) (hr : RuleIn W R) (ca : Option Addr) (cc : Nat) (cs : List C3) (hc : Consts W ca cs) (ok : RuleOk R cs.length) (cok : ConstsOk cs) (hrows : rows.length ≤ 30) (hpos : R.pos.length ≤ 4) (hall : ∀ r ∈ rows, IdsIn cs.length r.2)
    (hpr : (∀ p ∈ R.pos, Rng p.1) ∧ ∀ p ∈ R.neg, Rng p.1) :
    Calls Try.prog 14 #[.pointer (some ⟨sb, 0, none⟩), .slice ca cs.length cc, .agg R.cells] W (AllEnd (pre rows cs R (condsL R).length) W) := by
  obtain ⟨σ, τ, ⟨hd, h1⟩, rfl, rfl, h4, h5, h6⟩ := hs
  exact all_full (h1.below hb) R hr ca cc cs hc ok cok hrows hpos hall hpr
end
theorem intsZ_of_row {w : World} {B : Nat} {a : Option Addr} {n c : Nat} {xs : List Int} (h : w.ownsRow B 3 1 (.slice a n c) xs.length (xs.map (Value.int .i64))) : IntsZ (fun j => B ≤ j) w a c xs := by
  rcases owns_form h with ⟨h0, h1, _⟩ | ⟨g, cap, h5, hb, _, _, _, _, hc, _⟩
  · have : xs = [] := List.eq_nil_of_length_eq_zero h1
    subst this
    cases h0
    exact ⟨.inl rfl, fun _ => ⟨rfl, rfl⟩⟩
  · cases h5
    refine ⟨.inr ⟨g, 0, rfl, hb, fun k hk => ?_⟩, fun e => by cases e⟩
    rw [Nat.zero_add]
    exact hc _ _ (by simp [hk])
section
variable {B : Nat} {w V : World} {T : WorldV}
theorem TameW.below (h : TameW B w T) (hb : Below w.heap.size w V) : TameW B V T :=
  ⟨owns_below h.ars hb (Nat.le_refl _), h.arOk, h.rows.below hb, h.rowsOk, h.con.below hb (Nat.le_refl _), h.conOk, h.rule.below hb (Nat.le_refl _), h.ruleOk, h.lens, h.pos, h.neg, owns_below h.vars hb (Nat.le_refl _), h.K⟩
theorem TameW.rng (h : TameW B w T) : (∀ p ∈ T.R.pos, Rng p.1) ∧ ∀ p ∈ T.R.neg, Rng p.1 := by
  have key : ∀ p, PatT T.ar T.cs.length p → Rng p.1 := fun p ⟨i, h1, h2, _, _⟩ => by
    have := h.arOk
    unfold Rng
    omega
  exact ⟨fun p hp => key p (h.pos p hp), fun p hp => key p (h.neg p hp)⟩
theorem TameW.ids (h : TameW B w T) : ∀ r ∈ T.rows, IdsIn T.cs.length r.2 := fun r hr x hx => ⟨((h.rowsOk.2.1 r hr).2.2.2.2 x hx).1, h.rowsOk.2.2 r hr x hx⟩
theorem TameW.joined (h : TameW B w T) : (joinedL [] T.rows).length ≤ 24 ∧ ∀ r ∈ joinedL [] T.rows, IdsIn T.cs.length r.2 := by
  have h1 := joinedL_length [] T.rows
  have h2 := h.rowsOk.1
  refine ⟨by simp only [List.length_nil] at h1; omega, fun r hr => h.ids r ?_⟩
  rcases (joinedL_mem _ _ _).1 hr with h | h
  · cases h
  · exact h
end
def FullEnd (T : WorldV) (w : World) (e : Ending) (w' : World) : Prop := ∃ sb n1, e = .returned (.pointer (some ⟨sb, 0, none⟩)) ∧ StoreL (w.heap.size + 1) n1 24 T.ar (joinedL [] T.rows) sb w' ∧ Below w.heap.size w w'
set_option maxHeartbeats 4000000 in
set_option maxRecDepth 100000 in
theorem full_any (T : WorldV) (B : Nat) (w : World) (hT : TameW B w T) : Calls Try.prog 12 #[.agg T.cells] w (FullEnd T w) := by
  obtain ⟨W0, hW0⟩ : ∃ V, V = w.alloc (.cells T.cells 34) := ⟨_, rfl⟩
  have hb0 : Below w.heap.size w W0 := by rw [hW0]; exact (Below.refl _ _).alloc (Nat.le_refl _) _
  have hs0 : W0.heap.size = w.heap.size + 1 := by rw [hW0]; simp
  have cN := Lib.hid (new_L T.aa T.ac T.ar W0 (intsZ_of_row (hT.below hb0).ars) (fun x hx => by have := hT.arOk.2.2 x hx; omega) (by have := hT.arOk; omega))
  have cA : Hid (∀ sb w1, StoreL W0.heap.size w1.heap.size 0 T.ar [] sb w1 → Below W0.heap.size W0 w1 → Calls Try.prog 21 #[.pointer (some ⟨sb, 0, none⟩), .slice T.ra T.rows.length T.rc] w1 fun e w' => ∃ k : Int, e = .returned (.tuple #[.int .i64 k, .int .i64 0]) ∧ StoreL W0.heap.size w'.heap.size (0 + T.rows.length) T.ar (joinedL [] T.rows) sb w' ∧ KeepZ (Free W0.heap.size w1.heap.size) w1 w') := Lib.hid (fun sb w1 hs hb => by
    refine add_L hs (Below.refl _ _) T.ra T.rc T.rows ?_ hT.rowsOk.2.1 (by have := hT.rowsOk.1; omega)
    refine ((hT.below hb0).rows.rows).keep (fun j hj _ => hb.block j hj) (fun j hj _ => .inl hj))
  have h24 := hT.rowsOk.1
  obtain ⟨RN, hRN⟩ : ∃ n, n = T.rows.length := ⟨_, rfl⟩
  obtain ⟨AN, hAN⟩ : ∃ n, n = T.ar.length := ⟨_, rfl⟩
  obtain ⟨ra, hra⟩ : ∃ n, n = T.ra := ⟨_, rfl⟩
  obtain ⟨rc, hrc⟩ : ∃ n, n = T.rc := ⟨_, rfl⟩
  obtain ⟨aa, haa⟩ : ∃ n, n = T.aa := ⟨_, rfl⟩
  obtain ⟨ac, hac⟩ : ∃ n, n = T.ac := ⟨_, rfl⟩
  obtain ⟨rows, hrows⟩ : ∃ n, n = T.rows := ⟨_, rfl⟩
  obtain ⟨ar, har⟩ : ∃ n, n = T.ar := ⟨_, rfl⟩
  rw [← hRN, ← hra, ← hrc, ← har] at cA
  rw [← hAN, ← haa, ← hac, ← har] at cN
  unfold FullEnd
  rw [← hrows] at cA ⊢
  rw [← har]
  rw [← hRN] at h24
  have y0 : W0.cell? ⟨w.heap.size, 0, none⟩ = some (.slice aa AN ac) := by rw [hW0, haa, hAN, hac]; simp [WorldV.cells]
  have y1 : W0.cell? ⟨w.heap.size, 1, none⟩ = some (.slice ra RN rc) := by rw [hW0, hra, hRN, hrc]; simp [WorldV.cells]
  have HW0 := Lib.hid hW0
  have Hs0 := Lib.hid hs0
  have Hb0 := Lib.hid hb0
  clear hW0 hs0 hb0 hRN hAN hra hrc haa hac hrows har hT
  go_enter Try.func12, Try.ntmps12
  go_upto_region 1 with fail
  rw [← HW0.out]
  go_upto_region 2 with (first | (go_at_call 25; (with_reducible refine cN.out.mono ?_); rintro e w1 ⟨sb, rfl, h1, hb1⟩; replace y1 := on_cell hb1 y1))
  have cA2 := Lib.hid (cA.out sb w1 h1 hb1)
  have Hb1 := Lib.hid hb1
  clear h1 hb1 cA cN
  go_wp2_with (first | (go_at_call 21; (with_reducible refine cA2.out.mono ?_); rintro e w2 ⟨k, rfl, h2, hk2⟩))
  go_ret
  have hz := Hs0.out
  have hz1 := Hb1.out.size
  refine ⟨sb, w2.heap.size, rfl, ?_, (Hb0.out.trans (Hb1.out.mono (by omega))).trans (hk2.below (by omega) (by omega))⟩
  obtain ⟨σ, τ, q1, q2, q3, q4, q5, q6⟩ := h2
  rw [← hz]
  exact ⟨σ, τ, q1, q2, q3, by omega, q5, q6⟩
end Mt
end Go.Proofs.Ytkejjiohkhlnnaa
