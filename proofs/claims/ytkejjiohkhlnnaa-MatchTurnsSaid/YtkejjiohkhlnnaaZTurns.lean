/-
  The law MatchTurns is proved: for every input the call returns true, and its arguments read behind it as they read before. No condition.
-/
import Derived.Test.YtkejjiohkhlnnaaZ7
import Derived.Deep.CutBlock
import Derived.Deep.RegionHeld3
import Derived.Test.YtkejjiohkhlnnaaCopies
import Derived.ProofKit
import Derived.OpenShut
import Derived.ShutString
import Derived.ChangeOld
import Derived.SizedLaws
import Derived.Lib.SmallJoins
import Derived.Deep.Slices
import Derived.Test.YtkejjiohkhlnnaaSBatch
import Derived.Below
namespace Go.Proofs.Ytkejjiohkhlnnaa
open Go.RowKit
namespace Mt
open Sq (Oth)

def uV : Value := .string { data := #[95] }
/-- a list of patterns whose slots lie in an older world -/
def NegRow (Wp : World) (B : Nat) (w : World) (v : Value) (ps : List Pat) : Prop := ∃ cells, w.ownsRow B 27 2 v ps.length cells ∧ ∀ (i : Nat) p, ps[i]? = some p → ∃ a c, cells[i * 2]? = some (.int .i64 p.1) ∧ cells[i * 2 + 1]? = some (.slice a p.2.length c) ∧ Slots Wp a p.2
theorem NegRow.nil (Wp : World) (B : Nat) (w : World) : NegRow Wp B w (.slice none 0 0) [] := ⟨[], World.ownsRow_nil _ _ _ _, fun i p h => by simp at h⟩
theorem NegRow.chg {Wp w V : World} {B tb : Nat} {vb : Option Nat} {v : Value} {ps : List Pat} (h : NegRow Wp B w v ps) (k : Chg tb vb w V) (h1 : ∀ g cur, v.ownBlock = some g → w.heap[g]? = some (.cells cur 27 (0, 0)) → g ≠ tb ∧ vb ≠ some g) : NegRow Wp B V v ps := by
  obtain ⟨cells, q1, q2⟩ := h
  exact ⟨cells, k.owns q1 h1, q2⟩
theorem NegRow.below {Wp w V : World} {B : Nat} {v : Value} {ps : List Pat} (h : NegRow Wp B w v ps) (hb : Below w.heap.size w V) : NegRow Wp B V v ps := by
  obtain ⟨cells, q1, q2⟩ := h
  exact ⟨cells, owns_below q1 hb (Nat.le_refl _), q2⟩
theorem NegRow.shape {Wp w : World} {B : Nat} {v : Value} {ps : List Pat} (h : NegRow Wp B w v ps) : ∃ a c, v = .slice a ps.length c := by
  obtain ⟨cells, q1, -⟩ := h
  exact owns_shape' q1
theorem NegRow.pats {Wp w : World} {B : Nat} {a : Option Addr} {n c : Nat} {ps : List Pat} (h : NegRow Wp B w (.slice a n c) ps) (hb : Below Wp.heap.size Wp w) : Pats w a ps := by
  obtain ⟨cells, q1, q2⟩ := h
  rcases owns_form q1 with ⟨h0, h1, _⟩ | ⟨g, cap, h5, hg, _, _, _, _, hc, _⟩
  · exact .inl (List.eq_nil_of_length_eq_zero h1)
  · cases h5
    refine .inr ⟨g, 0, rfl, fun i p hp => ?_⟩
    obtain ⟨sa, sc, k1, k2, k3⟩ := q2 i p hp
    exact ⟨by rw [Nat.zero_add]; exact hc _ _ k1, sa, sc, by rw [Nat.zero_add]; exact hc _ _ k2, k3.below hb (Nat.le_refl _)⟩
/-- the state of the rule laid anew -/
structure USt (Wp Wu : World) (ub : Nat) (hp : Int) (hv pv : Value) (K : Int) (tv gv vv : Value) (ts : List Tst) (ns : List Pat) (nv : Nat) (w : World) : Prop where
  oth : Oth ub Wu w
  box : w.heap[ub]? = some (.cells #[.int .i64 hp, hv, pv, tv, gv, vv, .int .i64 K] 32 (0, 0))
  tst : w.ownsRow Wu.heap.size 60 5 tv ts.length (tstCells ts)
  neg : NegRow Wp Wu.heap.size w gv ns
  vars : w.ownsRow Wu.heap.size 9 1 vv nv (List.replicate nv uV)
section
variable {Wp Wu w V0 V1 : World} {ub : Nat} {hp : Int} {hv pv : Value} {K : Int} {tv gv vv v' : Value} {ts : List Tst} {ns : List Pat} {nv : Nat}
theorem USt.below {V : World} (h : USt Wp Wu ub hp hv pv K tv gv vv ts ns nv w) (hb : Below w.heap.size w V) : USt Wp Wu ub hp hv pv K tv gv vv ts ns nv V :=
  ⟨h.oth.trans (.below hb), (hb.block ub (Array.getElem?_eq_some_iff.1 h.box).1).trans h.box, owns_below h.tst hb (Nat.le_refl _), h.neg.below hb, owns_below h.vars hb (Nat.le_refl _)⟩
theorem USt.cells (h : USt Wp Wu ub hp hv pv K tv gv vv ts ns nv w) : w.cell? ⟨ub, 0, none⟩ = some (.int .i64 hp) ∧ w.cell? ⟨ub, 1, none⟩ = some hv ∧ w.cell? ⟨ub, 2, none⟩ = some pv ∧ w.cell? ⟨ub, 3, none⟩ = some tv ∧ w.cell? ⟨ub, 4, none⟩ = some gv ∧ w.cell? ⟨ub, 5, none⟩ = some vv ∧ w.cell? ⟨ub, 6, none⟩ = some (.int .i64 K) := by
  have := h.box
  refine ⟨?_, ?_, ?_, ?_, ?_, ?_, ?_⟩ <;> simp [World.cell?, this]
theorem USt.pushTst (h : USt Wp Wu ub hp hv pv K tv gv vv ts ns nv w) (hub : ub < Wu.heap.size) {t : Tst} (hb : Below w.heap.size w V0) (hg : V0.grownBy V1 tv.ownBlock) (hv' : V1.ownsRow Wu.heap.size 60 5 v' (ts.length + 1) (tstCells ts ++ [.int .i64 t.1, .bool t.2.1.1, .int .i64 t.2.1.2, .bool t.2.2.1, .int .i64 t.2.2.2])) :
    USt Wp Wu ub hp hv pv K v' gv vv (ts ++ [t]) ns nv (V1.setCell ⟨ub, 3, none⟩ v') ∧ V1.cell? ⟨ub, 3, none⟩ = some tv ∧ V1.frozen? ⟨ub, 3, none⟩ = false := by
  obtain ⟨k1, k2, k3, k4, k5⟩ := push_step (off := 3) h.oth h.box hub h.tst hb hg hv'
  have c : Chg ub tv.ownBlock w (V1.setCell ⟨ub, 3, none⟩ v') := chg_push hb hg
  have vt : ∀ {g : Nat} {cur : Array Value} {T : TypeId}, w.heap[g]? = some (.cells cur T (0, 0)) → T ≠ 60 → tv.ownBlock ≠ some g := fun {g cur T} hc hT e => by
    obtain ⟨cur2, hc2⟩ := own_typ h.tst e
    exact typ_ne hc hc2 hT rfl
  refine ⟨⟨k1, by simpa using k2, by rw [tstCells_snoc, List.length_append]; exact k3, h.neg.chg c (fun g cur _ hc => ⟨typ_ne hc h.box (by decide), vt hc (by decide)⟩), c.owns h.vars (fun g cur _ hc => ⟨typ_ne hc h.box (by decide), vt hc (by decide)⟩)⟩, by rw [k4]; simp, k5⟩
theorem USt.pushNeg (h : USt Wp Wu ub hp hv pv K tv gv vv ts ns nv w) (hub : ub < Wu.heap.size) {p : Pat} {a : Option Addr} {c' : Nat} (hb : Below w.heap.size w V0) (hg : V0.grownBy V1 gv.ownBlock) (hv' : ∀ cells, w.ownsRow Wu.heap.size 27 2 gv ns.length cells → V1.ownsRow Wu.heap.size 27 2 v' (ns.length + 1) (cells ++ [.int .i64 p.1, .slice a p.2.length c'])) (hs : Slots Wp a p.2) :
    USt Wp Wu ub hp hv pv K tv v' vv ts (ns ++ [p]) nv (V1.setCell ⟨ub, 4, none⟩ v') ∧ V1.cell? ⟨ub, 4, none⟩ = some gv ∧ V1.frozen? ⟨ub, 4, none⟩ = false := by
  obtain ⟨cells, q1, q2⟩ := id h.neg
  obtain ⟨k1, k2, k3, k4, k5⟩ := push_step (off := 4) h.oth h.box hub q1 hb hg (hv' cells q1)
  have c : Chg ub gv.ownBlock w (V1.setCell ⟨ub, 4, none⟩ v') := chg_push hb hg
  have vt : ∀ {g : Nat} {cur : Array Value} {T : TypeId}, w.heap[g]? = some (.cells cur T (0, 0)) → T ≠ 27 → gv.ownBlock ≠ some g := fun {g cur T} hc hT e => by
    obtain ⟨cur2, hc2⟩ := own_typ q1 e
    exact typ_ne hc hc2 hT rfl
  have hl : cells.length = ns.length * 2 := q1.1
  refine ⟨⟨k1, by simpa using k2, c.owns h.tst (fun g cur _ hc => ⟨typ_ne hc h.box (by decide), vt hc (by decide)⟩), ⟨_, by rw [List.length_append]; exact k3, fun i p' hp' => ?_⟩, c.owns h.vars (fun g cur _ hc => ⟨typ_ne hc h.box (by decide), vt hc (by decide)⟩)⟩, by rw [k4]; simp, k5⟩
  by_cases hi : i < ns.length
  · rw [List.getElem?_append_left hi] at hp'
    obtain ⟨a', c'', k1, k2, k3⟩ := q2 i p' hp'
    exact ⟨a', c'', by rw [List.getElem?_append_left (by omega)]; exact k1, by rw [List.getElem?_append_left (by omega)]; exact k2, k3⟩
  · have hie : i = ns.length := by
      have := (List.getElem?_eq_some_iff.1 hp').1
      simp at this
      omega
    subst hie
    rw [List.getElem?_append_right (Nat.le_refl _)] at hp'
    simp at hp'
    subst hp'
    exact ⟨a, c', by rw [List.getElem?_append_right (by omega)]; simp [hl], by rw [List.getElem?_append_right (by omega)]; simp [hl], hs⟩
theorem USt.pushVar (h : USt Wp Wu ub hp hv pv K tv gv vv ts ns nv w) (hub : ub < Wu.heap.size) (hb : Below w.heap.size w V0) (hg : V0.grownBy V1 vv.ownBlock) (hv' : V1.ownsRow Wu.heap.size 9 1 v' (nv + 1) (List.replicate nv uV ++ [uV])) :
    USt Wp Wu ub hp hv pv K tv gv v' ts ns (nv + 1) (V1.setCell ⟨ub, 5, none⟩ v') ∧ V1.cell? ⟨ub, 5, none⟩ = some vv ∧ V1.frozen? ⟨ub, 5, none⟩ = false := by
  obtain ⟨k1, k2, k3, k4, k5⟩ := push_step (off := 5) h.oth h.box hub h.vars hb hg hv'
  have c : Chg ub vv.ownBlock w (V1.setCell ⟨ub, 5, none⟩ v') := chg_push hb hg
  have vt : ∀ {g : Nat} {cur : Array Value} {T : TypeId}, w.heap[g]? = some (.cells cur T (0, 0)) → T ≠ 9 → vv.ownBlock ≠ some g := fun {g cur T} hc hT e => by
    obtain ⟨cur2, hc2⟩ := own_typ h.vars e
    exact typ_ne hc hc2 hT rfl
  have e : List.replicate (nv + 1) uV = List.replicate nv uV ++ [uV] := List.replicate_succ'
  exact ⟨⟨k1, by simpa using k2, c.owns h.tst (fun g cur _ hc => ⟨typ_ne hc h.box (by decide), vt hc (by decide)⟩), h.neg.chg c (fun g cur _ hc => ⟨typ_ne hc h.box (by decide), vt hc (by decide)⟩), by rw [e]; exact k3⟩, by rw [k4]; simp, k5⟩
end
theorem rev_take {α : Type} {l : List α} {i j : Nat} {x : α} (h : j + i + 1 = l.length) (hx : l[j]? = some x) (hi : i < l.length) : l.reverse.take (i + 1) = l.reverse.take i ++ [x] := by
  have e : l.reverse[i]? = some x := by
    rw [List.getElem?_reverse hi]
    have : l.length - 1 - i = j := by omega
    rw [this]
    exact hx
  exact take_snoc' e
theorem joinedL_nod : ∀ (m l : List Row), l.Nodup → (joinedL l m).Nodup
  | [], l, h => h
  | r :: m, l, h => by
    have e : joinedL l (r :: m) = joinedL (if r ∈ l then l else l ++ [r]) m := rfl
    rw [e]
    refine joinedL_nod m _ ?_
    split
    · exact h
    · rename_i hn
      rw [List.nodup_append]
      exact ⟨h, by simp, fun a ha b hb => by rw [List.mem_singleton] at hb; subst hb; exact fun e => hn (e ▸ ha)⟩
theorem joinedL_nodup (m : List Row) : (joinedL [] m).Nodup := joinedL_nod m [] List.nodup_nil
theorem below_chain {w V V2 : World} (h : Below w.heap.size w V) (k : Below V.heap.size V V2) : Below w.heap.size w V2 := h.trans (k.mono h.size)
theorem joinedL_app (l a b : List Row) : joinedL l (a ++ b) = joinedL (joinedL l a) b := by
  unfold joinedL
  rw [List.foldl_append]
/-- one row in a block of its own, its list somewhere else -/
theorem rows_one {w : World} {Z1 Z : Nat → Prop} {pp : Int} {ai : Option Addr} {ci : Nat} {xs : List Int} {ty : TypeId} (hI : IntsZ Z1 w ai ci xs) (hz : ∀ j, Z1 j → Z j) (hn : Z w.heap.size) (_ : 0 ≤ w.heap.size) : RowsZ Z (w.alloc (.cells #[.int .i64 pp, .slice ai xs.length ci] ty)) (some ⟨w.heap.size, 0, none⟩) 1 [(pp, xs)] := by
  have hq := World.alloc_heap_new w (.cells #[.int .i64 pp, .slice ai xs.length ci] ty)
  have hb : Below w.heap.size w (w.alloc (.cells #[.int .i64 pp, .slice ai xs.length ci] ty)) := (Below.refl _ _).alloc (Nat.le_refl _) _
  refine ⟨.inr ⟨_, 0, rfl, hn, fun i hi => ?_⟩, fun e => by cases e⟩
  match i, hi with
  | 0, _ => exact ⟨cell_of hq rfl, ai, ci, cell_of hq rfl, hI.keep (fun j hj _ => hb.block j hj) (fun j _ h => hz j h)⟩
  | i + 1, hi => exact absurd hi (by simp)
/-- the order of the tests, of the negated patterns and of the rows is of no account -/
theorem turns_same {rows rows' : List Row} {cs : List C3} {R U : RuleV} (hr : ∀ r ∈ rows, IdsIn cs.length r.2) (hd : rows.Nodup) (hr' : ∀ r ∈ rows', IdsIn cs.length r.2) (hd' : rows'.Nodup) (hm : ∀ r, r ∈ rows' ↔ r ∈ rows) (ok : RuleOk R cs.length) (hc : cs.Nodup) (e1 : U.pos = R.pos) (e2 : U.tests = R.tests.reverse) (e3 : U.neg = R.neg.reverse) (e4 : U.nv = R.nv) :
    RuleOk U cs.length ∧ pre rows' cs U (condsL U).length = pre rows cs R (condsL R).length := by
  have okU : RuleOk U cs.length := by
    refine ⟨by rw [e1, e2, e3, List.length_reverse, List.length_reverse]; exact ok.conds, by rw [e4]; exact ok.vars, fun p hp => ?_, fun p hp => ?_, fun p hp => ?_, by rw [e1, e4]; exact ok.next⟩
    · rw [e1] at hp; rw [e4]; exact ok.pos p hp
    · rw [e3, List.mem_reverse] at hp; rw [e4]; exact ok.neg p hp
    · rw [e2, List.mem_reverse] at hp; rw [e4]; exact ok.tests p hp
  refine ⟨okU, pre_same hr' hd' okU hr hd ok hc _ _ (by rw [wid_all ok (Nat.le_refl _), wid_all okU (Nat.le_refl _), e4]) fun x => ?_⟩
  unfold Sat
  rw [wid_all ok (Nat.le_refl _), wid_all okU (Nat.le_refl _), e4, List.take_length, List.take_length]
  have key : ∀ q, q ∈ condsL U ↔ q ∈ condsL R := fun q => by
    unfold condsL
    rw [e1, e2, e3]
    simp only [List.mem_append, List.mem_map, List.mem_reverse]
  have key2 : ∀ q, CdSat rows' cs x q ↔ CdSat rows cs x q := fun q => by
    cases q with
    | pos p => exact hm _
    | tst t => exact Iff.rfl
    | neg p => exact not_congr (hm _)
  exact ⟨fun ⟨h1, h2, h3⟩ => ⟨h1, h2, fun q hq => (key2 q).1 (h3 q ((key q).2 hq))⟩, fun ⟨h1, h2, h3⟩ => ⟨h1, h2, fun q hq => (key2 q).2 (h3 q ((key q).1 hq))⟩⟩
end Mt
end Go.Proofs.Ytkejjiohkhlnnaa

namespace Go.Proofs.Ytkejjiohkhlnnaa
open Go.RowKit
namespace Mt
open Sq (Oth)

/-- a world as a law is handed it -/
structure WorldIn (w : World) (T : WorldV) : Prop where
  ars : Ints w T.aa T.ar
  rows : RowsZ (fun _ => True) w T.ra T.rc T.rows
  con : Consts w T.ca T.cs
  conOk : ∀ c ∈ T.cs, C3Ok c
  rule : RuleIn w T.R
  many : T.cs.length ≤ maxLen
theorem WorldIn.below {w V : World} {T : WorldV} (h : WorldIn w T) (hb : Below w.heap.size w V) : WorldIn V T :=
  ⟨h.ars.below hb, h.rows.keep (fun j hj _ => hb.block j hj) (fun _ _ h => h), h.con.below hb (Nat.le_refl _), h.conOk, h.rule.below hb (Nat.le_refl _), h.many⟩
theorem WorldIn.tamed {w : World} {T : WorldV} (h : WorldIn w T) : Calls Try.prog 11 #[.agg T.cells] w (TamedEnd T w) := tamed_any T w h.ars h.rows h.con h.conOk h.rule h.many
/-- a world's cells in a block -/
theorem world_cells {w : World} {b : Nat} {T : WorldV} {ty : TypeId} (h : w.heap[b]? = some (.cells T.cells ty (0, 0))) : (w.cell? ⟨b, 0, none⟩ = some (.slice T.aa T.ar.length T.ac) ∧ w.cell? ⟨b, 1, none⟩ = some (.slice T.ra T.rows.length T.rc) ∧ w.cell? ⟨b, 2, none⟩ = some (.slice T.ca T.cs.length T.cc)) ∧ (w.cell? ⟨b, 3, none⟩ = some (.int .i64 T.R.hp) ∧ w.cell? ⟨b, 4, none⟩ = some (.slice T.R.ha T.R.hn T.R.hc) ∧ w.cell? ⟨b, 5, none⟩ = some (.slice T.R.pa T.R.pos.length T.R.pc) ∧ w.cell? ⟨b, 6, none⟩ = some (.slice T.R.ta T.R.tests.length T.R.tc) ∧ w.cell? ⟨b, 7, none⟩ = some (.slice T.R.na T.R.neg.length T.R.nc) ∧ w.cell? ⟨b, 8, none⟩ = some (.slice T.R.va T.R.nv T.R.vc) ∧ w.cell? ⟨b, 9, none⟩ = some (.int .i64 T.R.cl)) ∧ w.cell? ⟨b, 10, none⟩ = some (.int .i64 T.K) := by
  refine ⟨⟨?_, ?_, ?_⟩, ⟨?_, ?_, ?_, ?_, ?_, ?_, ?_⟩, ?_⟩ <;> simp [World.cell?, h, WorldV.cells]
set_option linter.unusedSimpArgs false in
set_option maxHeartbeats 16000000 in
set_option maxRecDepth 100000 in
theorem matchTurns_any (T0 : WorldV) (hp0 : Int) (ha0 : Option Addr) (hn0 hc0 : Nat) (w : World) (hin : WorldIn w T0) :
    Calls Try.prog 6 #[.agg T0.cells, .agg #[.int .i64 hp0, .slice ha0 hn0 hc0]] w fun e w' => e = .returned (.bool true) ∧ Below w.heap.size w w' := by
  obtain ⟨W0, hW0⟩ : ∃ V, V = (w.alloc (.cells T0.cells 34)).alloc (.cells #[.int .i64 hp0, .slice ha0 hn0 hc0] 27) := ⟨_, rfl⟩
  obtain ⟨b2, hb2⟩ : ∃ b, b = w.heap.size := ⟨_, rfl⟩
  obtain ⟨b3, hb3⟩ : ∃ b, b = w.heap.size + 1 := ⟨_, rfl⟩
  have hb0 : Below w.heap.size w W0 := by rw [hW0]; exact ((Below.refl _ _).alloc (Nat.le_refl _) _).alloc (by simp) _
  have hs0 : W0.heap.size = w.heap.size + 2 := by rw [hW0]; simp
  have hq2 : W0.heap[b2]? = some (.cells T0.cells 34 (0, 0)) := by rw [hW0, hb2]; exact (Below.heap_alloc _ _ _ (by simp)).trans (World.alloc_heap_new w _)
  have hq3 : W0.heap[b3]? = some (.cells #[.int .i64 hp0, .slice ha0 hn0 hc0] 27 (0, 0)) := by
    rw [hW0, hb3]
    have := World.alloc_heap_new (w.alloc (.cells T0.cells 34)) (.cells #[.int .i64 hp0, .slice ha0 hn0 hc0] 27)
    rwa [World.size_alloc] at this
  have cT := Lib.hid (hin.below hb0).tamed
  obtain ⟨⟨x0, x1, x2⟩, ⟨x3, x4, x5, x6, x7, x8, x9⟩, x10⟩ := world_cells hq2
  have HW0 : Hid (W0 = (w.alloc (.cells #[.slice T0.aa T0.ar.length T0.ac, .slice T0.ra T0.rows.length T0.rc, .slice T0.ca T0.cs.length T0.cc, .int .i64 T0.R.hp, .slice T0.R.ha T0.R.hn T0.R.hc, .slice T0.R.pa T0.R.pos.length T0.R.pc, .slice T0.R.ta T0.R.tests.length T0.R.tc, .slice T0.R.na T0.R.neg.length T0.R.nc, .slice T0.R.va T0.R.nv T0.R.vc, .int .i64 T0.R.cl, .int .i64 T0.K] 34)).alloc (.cells #[.int .i64 hp0, .slice ha0 hn0 hc0] 27)) := Lib.hid hW0
  have Hb2 := Lib.hid hb2
  have Hb3 := Lib.hid hb3
  have Hs0 := Lib.hid hs0
  have Hb0 := Lib.hid hb0
  have Hq3 := Lib.hid hq3
  have z0 : W0.cell? ⟨b3, 0, none⟩ = some (.int .i64 hp0) := by simp [World.cell?, hq3]
  have z1 : W0.cell? ⟨b3, 1, none⟩ = some (.slice ha0 hn0 hc0) := by simp [World.cell?, hq3]
  simp only [WorldV.cells] at cT ⊢
  clear hW0 hb2 hb3 hs0 hb0 hq2 hq3 hin
  go_enter Try.func6, Try.ntmps6
  go_upto_region 1 with fail
  rw [← HW0.out, ← Hb3.out, ← Hb2.out]
  clear HW0
  go_upto_region 2 with (first | (go_at_call 11; (with_reducible refine cT.out.mono ?_); rintro e w1 ⟨T, rfl, hT, hb1, -⟩; simp only [WorldV.cells]; have HT1 := Lib.hid hT; have Hb1 := Lib.hid hb1; clear hT hb1))
  obtain ⟨W2, hW2⟩ : ∃ V, V = w1.alloc (.cells #[.slice T.aa T.ar.length T.ac, .slice T.ra T.rows.length T.rc, .slice T.ca T.cs.length T.cc, .int .i64 T.R.hp, .slice T.R.ha T.R.hn T.R.hc, .slice T.R.pa T.R.pos.length T.R.pc, .slice T.R.ta T.R.tests.length T.R.tc, .slice T.R.na T.R.neg.length T.R.nc, .slice T.R.va T.R.nv T.R.vc, .int .i64 T.R.cl, .int .i64 T.K] 34) := ⟨_, rfl⟩
  obtain ⟨b5, hb5⟩ : ∃ b, b = w1.heap.size := ⟨_, rfl⟩
  rw [← hW2, ← hb5]
  have hbw2 : Below w1.heap.size w1 W2 := by rw [hW2]; exact (Below.refl _ _).alloc (Nat.le_refl _) _
  have hq5 : W2.heap[b5]? = some (.cells T.cells 34 (0, 0)) := by rw [hW2, hb5]; exact World.alloc_heap_new w1 _
  have x10 := on_cell hbw2 (on_cell Hb1.out x10)
  have z0 := on_cell hbw2 (on_cell Hb1.out z0)
  have z1 := on_cell hbw2 (on_cell Hb1.out z1)
  have HT := Lib.hid (HT1.out.below hbw2)
  have HB2 : Hid (Below W0.heap.size W0 W2) := Lib.hid (Hb1.out.trans (hbw2.mono Hb1.out.size))
  obtain ⟨⟨y0, y1, y2⟩, ⟨y3, y4, y5, y6, y7, y8, y9⟩, y10⟩ := world_cells hq5
  have h5lt : b5 < W2.heap.size := (Array.getElem?_eq_some_iff.1 hq5).1
  have H5 : Hid (W0.heap.size ≤ b5 ∧ b5 < W2.heap.size) := Lib.hid ⟨by have := Hb1.out.size; omega, h5lt⟩
  clear hW2 hb5 hbw2 hq5 HT1 Hb1 x0 x1 x2 x3 x4 x5 x6 x7 x8 x9 cT h5lt
  obtain ⟨P, hP⟩ : ∃ P, P = pre (joinedL [] T.rows) T.cs T.R (condsL T.R).length := ⟨_, rfl⟩
  have HP := Lib.hid hP
  have cF : Hid (∀ V, Below W2.heap.size W2 V → Calls Try.prog 12 #[.agg #[.slice T.aa T.ar.length T.ac, .slice T.ra T.rows.length T.rc, .slice T.ca T.cs.length T.cc, .int .i64 T.R.hp, .slice T.R.ha T.R.hn T.R.hc, .slice T.R.pa T.R.pos.length T.R.pc, .slice T.R.ta T.R.tests.length T.R.tc, .slice T.R.na T.R.neg.length T.R.nc, .slice T.R.va T.R.nv T.R.vc, .int .i64 T.R.cl, .int .i64 T.K]] V (FullEnd T V)) := Lib.hid (fun V hV => full_any T _ V (HT.out.below hV))
  have cA : Hid (∀ sb n0 n1 V, StoreL n0 n1 24 T.ar (joinedL [] T.rows) sb V → Below W2.heap.size W2 V → Calls Try.prog 14 #[.pointer (some ⟨sb, 0, none⟩), .slice T.ca T.cs.length T.cc, .agg #[.int .i64 T.R.hp, .slice T.R.ha T.R.hn T.R.hc, .slice T.R.pa T.R.pos.length T.R.pc, .slice T.R.ta T.R.tests.length T.R.tc, .slice T.R.na T.R.neg.length T.R.nc, .slice T.R.va T.R.nv T.R.vc, .int .i64 T.R.cl]] V (AllEnd P V)) := Lib.hid (fun sb n0 n1 V hs hV => by
    rw [hP]
    have h := HT.out.below hV
    exact all_L hs (Below.refl _ _) T.R h.rule T.ca T.cc T.cs h.con h.ruleOk h.conOk.1 (by have := h.joined.1; omega) h.lens.1 h.joined.2 h.rng)
  clear hP
  have hd2 : Below W2.heap.size W2 W2.drew := (Below.refl _ _).drew
  go_region_held3 (fun w' => w'.cell? ⟨b5, 0, none⟩ = some (.slice T.aa T.ar.length T.ac) ∧ w'.cell? ⟨b5, 1, none⟩ = some (.slice T.ra T.rows.length T.rc) ∧ w'.cell? ⟨b5, 2, none⟩ = some (.slice T.ca T.cs.length T.cc) ∧ w'.cell? ⟨b5, 3, none⟩ = some (.int .i64 T.R.hp) ∧ w'.cell? ⟨b5, 4, none⟩ = some (.slice T.R.ha T.R.hn T.R.hc) ∧ w'.cell? ⟨b5, 5, none⟩ = some (.slice T.R.pa T.R.pos.length T.R.pc) ∧ w'.cell? ⟨b5, 6, none⟩ = some (.slice T.R.ta T.R.tests.length T.R.tc) ∧ w'.cell? ⟨b5, 7, none⟩ = some (.slice T.R.na T.R.neg.length T.R.nc) ∧ w'.cell? ⟨b5, 8, none⟩ = some (.slice T.R.va T.R.nv T.R.vc) ∧ w'.cell? ⟨b5, 9, none⟩ = some (.int .i64 T.R.cl) ∧ w'.cell? ⟨b5, 10, none⟩ = some (.int .i64 T.K)) (first | assumption | go_keep) (first
    | (go_at_call 12
       with_reducible refine (cF.out _ hd2).mono ?_
       rintro e V1 ⟨sb, n1, rfl, h1, hv1⟩
       have hB1 : Below W2.heap.size W2 V1 := hd2.trans (hv1.mono hd2.size)
       have hSV1 : V1.cell? ⟨b5, 0, none⟩ = some (.slice T.aa T.ar.length T.ac) ∧ V1.cell? ⟨b5, 1, none⟩ = some (.slice T.ra T.rows.length T.rc) ∧ V1.cell? ⟨b5, 2, none⟩ = some (.slice T.ca T.cs.length T.cc) ∧ V1.cell? ⟨b5, 3, none⟩ = some (.int .i64 T.R.hp) ∧ V1.cell? ⟨b5, 4, none⟩ = some (.slice T.R.ha T.R.hn T.R.hc) ∧ V1.cell? ⟨b5, 5, none⟩ = some (.slice T.R.pa T.R.pos.length T.R.pc) ∧ V1.cell? ⟨b5, 6, none⟩ = some (.slice T.R.ta T.R.tests.length T.R.tc) ∧ V1.cell? ⟨b5, 7, none⟩ = some (.slice T.R.na T.R.neg.length T.R.nc) ∧ V1.cell? ⟨b5, 8, none⟩ = some (.slice T.R.va T.R.nv T.R.vc) ∧ V1.cell? ⟨b5, 9, none⟩ = some (.int .i64 T.R.cl) ∧ V1.cell? ⟨b5, 10, none⟩ = some (.int .i64 T.K) := ⟨on_cell hB1 y0, on_cell hB1 y1, on_cell hB1 y2, on_cell hB1 y3, on_cell hB1 y4, on_cell hB1 y5, on_cell hB1 y6, on_cell hB1 y7, on_cell hB1 y8, on_cell hB1 y9, on_cell hB1 y10⟩)
    | (go_at_call 14
       with_reducible refine (cA.out sb _ n1 _ h1 hB1).mono ?_
       rintro e V2 ⟨v, ob, rfl, O2, hv2, ho2⟩
       have hB2 : Below W2.heap.size W2 V2 := hB1.trans (hv2.mono hB1.size)
       have hSV2 : V2.cell? ⟨b5, 0, none⟩ = some (.slice T.aa T.ar.length T.ac) ∧ V2.cell? ⟨b5, 1, none⟩ = some (.slice T.ra T.rows.length T.rc) ∧ V2.cell? ⟨b5, 2, none⟩ = some (.slice T.ca T.cs.length T.cc) ∧ V2.cell? ⟨b5, 3, none⟩ = some (.int .i64 T.R.hp) ∧ V2.cell? ⟨b5, 4, none⟩ = some (.slice T.R.ha T.R.hn T.R.hc) ∧ V2.cell? ⟨b5, 5, none⟩ = some (.slice T.R.pa T.R.pos.length T.R.pc) ∧ V2.cell? ⟨b5, 6, none⟩ = some (.slice T.R.ta T.R.tests.length T.R.tc) ∧ V2.cell? ⟨b5, 7, none⟩ = some (.slice T.R.na T.R.neg.length T.R.nc) ∧ V2.cell? ⟨b5, 8, none⟩ = some (.slice T.R.va T.R.nv T.R.vc) ∧ V2.cell? ⟨b5, 9, none⟩ = some (.int .i64 T.R.cl) ∧ V2.cell? ⟨b5, 10, none⟩ = some (.int .i64 T.K) := ⟨on_cell hB2 y0, on_cell hB2 y1, on_cell hB2 y2, on_cell hB2 y3, on_cell hB2 y4, on_cell hB2 y5, on_cell hB2 y6, on_cell hB2 y7, on_cell hB2 y8, on_cell hB2 y9, on_cell hB2 y10⟩))
  clear cF cA hSV1 h1
  obtain ⟨va0, vc0, rfl, hL0⟩ := O2.lists
  have HL0 := Lib.hid hL0
  clear hL0
  obtain ⟨y0, y1, y2, -, -, y5, y6, y7, y8, -, -⟩ := hSV2
  have x10 := on_cell hB2 x10
  have z0 := on_cell hB2 z0
  have z1 := on_cell hB2 z1
  go_upto_region 4 with fail
  obtain ⟨Wu, hWu⟩ : ∃ V, V = V2.alloc (.cells #[.int .i64 hp0, .slice ha0 hn0 hc0, .slice T.R.pa T.R.pos.length T.R.pc, .slice none 0 0, .slice none 0 0, .slice none 0 0, .int .i64 T0.K] 32) := ⟨_, rfl⟩
  obtain ⟨ub, hub⟩ : ∃ b, b = V2.heap.size := ⟨_, rfl⟩
  rw [← hWu, ← hub]
  have hbu : Below V2.heap.size V2 Wu := by rw [hWu]; exact (Below.refl _ _).alloc (Nat.le_refl _) _
  have hqu : Wu.heap[ub]? = some (.cells #[.int .i64 hp0, .slice ha0 hn0 hc0, .slice T.R.pa T.R.pos.length T.R.pc, .slice none 0 0, .slice none 0 0, .slice none 0 0, .int .i64 T0.K] 32 (0, 0)) := by rw [hWu, hub]; exact World.alloc_heap_new V2 _
  have hult : ub < Wu.heap.size := (Array.getElem?_eq_some_iff.1 hqu).1
  have h5u : b5 ≠ ub := by have := H5.out; have := hB2.size; omega
  have HU0 : Hid (USt V2 Wu ub hp0 (.slice ha0 hn0 hc0) (.slice T.R.pa T.R.pos.length T.R.pc) T0.K (.slice none 0 0) (.slice none 0 0) (.slice none 0 0) [] [] 0 Wu) := Lib.hid ⟨Oth.refl _ _, hqu, World.ownsRow_nil _ _ _ _, NegRow.nil _ _ _, World.ownsRow_nil _ _ _ _⟩
  have HB3 := Lib.hid hB2
  have HBu := Lib.hid hbu
  have HTu := Lib.hid (HT.out.below hB2)
  have Hub : Hid (ub = V2.heap.size ∧ ub < Wu.heap.size ∧ b5 ≠ ub ∧ W2.heap.size ≤ ob) := Lib.hid ⟨hub, hult, h5u, by have := hB1.size; omega⟩
  have y0 := on_cell hbu y0
  have y1 := on_cell hbu y1
  have y2 := on_cell hbu y2
  have y6 := on_cell hbu y6
  have y7 := on_cell hbu y7
  have y8 := on_cell hbu y8
  obtain ⟨TN, hTN⟩ : ∃ n, n = T.R.tests.length := ⟨_, rfl⟩
  obtain ⟨GN, hGN⟩ : ∃ n, n = T.R.neg.length := ⟨_, rfl⟩
  obtain ⟨RN, hRN⟩ : ∃ n, n = T.rows.length := ⟨_, rfl⟩
  obtain ⟨VN, hVN⟩ : ∃ n, n = T.R.nv := ⟨_, rfl⟩
  rw [← hTN] at y6
  rw [← hGN] at y7
  rw [← hRN] at y1
  rw [← hVN] at y8
  have HTN := Lib.hid hTN
  have HGN := Lib.hid hGN
  have HRN := Lib.hid hRN
  have HVN := Lib.hid hVN
  have hT3 : TN ≤ 3 := by rw [hTN]; exact HT.out.lens.2.1
  have hG3 : GN ≤ 3 := by rw [hGN]; exact HT.out.lens.2.2
  have hV16 : VN ≤ 16 := by rw [hVN]; exact HT.out.ruleOk.vars
  have hR24 : RN ≤ 24 := by rw [hRN]; exact HT.out.rowsOk.1
  clear hWu hub hbu hqu hult h5u hTN hGN hRN hVN hB1 hB2 O2 hv1 hv2 hd2 x10 z0 z1 y5
  go_upto_block 0 with fail
  go_cut [] (fun w' => ∃ (tv : Value) (ts : List Tst), Hid (USt V2 Wu ub hp0 (.slice ha0 hn0 hc0) (.slice T.R.pa T.R.pos.length T.R.pc) T0.K tv (.slice none 0 0) (.slice none 0 0) ts [] 0 w') ∧ Hid (ts = T.R.tests.reverse))
  case first =>
    go_wp2_with fail
    go_loopw [39] (fun t w' => ∃ (i : Nat) (tv : Value) (ts : List Tst), t = .int .i64 i ∧ i ≤ TN ∧ Hid (USt V2 Wu ub hp0 (.slice ha0 hn0 hc0) (.slice T.R.pa T.R.pos.length T.R.pc) T0.K tv (.slice none 0 0) (.slice none 0 0) ts [] 0 w') ∧ Hid (ts = T.R.tests.reverse.take i)) (fun t _ => TN - (intOf t).toNat)
    case atStart => exact ⟨0, _, [], rfl, Nat.zero_le _, HU0, Lib.hid (by simp)⟩
    case round =>
      clear HU0
      obtain ⟨i, tv, ts, rfl, hiT, HU, HTs⟩ := hrel
      have y6 := HU.out.oth.cell y6 Hub.out.2.2.1
      obtain ⟨ta1, tc1, rfl⟩ := owns_shape' HU.out.tst
      by_cases hlt : i < TN
      · obtain ⟨j, hj⟩ : ∃ j, TN = j + i + 1 := ⟨TN - 1 - i, by omega⟩
        subst hj
        obtain ⟨t, ht⟩ : ∃ t, t = T.R.tests[j]'(by have := HTN.out; omega) := ⟨_, rfl⟩
        have Ht : Hid (T.R.tests[j]? = some t) := Lib.hid (by rw [ht]; exact List.getElem?_eq_getElem _)
        clear ht
        obtain ⟨bt, ot, hta, htc⟩ : ∃ b off, T.R.ta = some ⟨b, off, none⟩ ∧ ∀ (i : Nat) (t : Tst), T.R.tests[i]? = some t → V2.cell? ⟨b, off + i * 5, none⟩ = some (.int .i64 t.1) ∧ V2.cell? ⟨b, off + i * 5 + 1, none⟩ = some (.bool t.2.1.1) ∧ V2.cell? ⟨b, off + i * 5 + 2, none⟩ = some (.int .i64 t.2.1.2) ∧ V2.cell? ⟨b, off + i * 5 + 3, none⟩ = some (.bool t.2.2.1) ∧ V2.cell? ⟨b, off + i * 5 + 4, none⟩ = some (.int .i64 t.2.2.2) := by
          rcases HTu.out.rule.tests with h | h
          · have := HTN.out; rw [h] at this; simp at this
          · exact h
        obtain ⟨c0, c1, c2, c3, c4⟩ := htc j t Ht.out
        have c0v := c0
        rw [hta] at y6
        have hold : Below V2.heap.size V2 wr := HBu.out.trans (HU.out.oth.low (by have := Hub.out; omega) HBu.out.size)
        have c0 := below_cell hold (Nat.le_refl _) c0
        have c1 := below_cell hold (Nat.le_refl _) c1
        have c2 := below_cell hold (Nat.le_refl _) c2
        have c3 := below_cell hold (Nat.le_refl _) c3
        have c4 := below_cell hold (Nat.le_refl _) c4
        have q3 := HU.out.cells.2.2.2.1
        obtain ⟨t0, ⟨t1, t2⟩, t3, t4⟩ := t
        simp only at c0 c1 c2 c3 c4
        have hbt : bt < V2.heap.size := World.block_lt_of_cell? _ _ c0v
        clear htc hta hold
        have hlen : ts.length = i := by rw [HTs.out, List.length_take, List.length_reverse, ← HTN.out]; omega
        have Hlen := Lib.hid hlen
        have hlle : ts.length < 3 := by omega
        clear hlen
        have zj : (0 : Int) ≤ (j : Int) := by omega
        have zji : (j : Int) + (i : Int) ≤ 9223372036854775807 := by omega
        have zji0 : -9223372036854775808 ≤ (j : Int) + (i : Int) := by omega
        have zj1 : (j : Int) ≤ 9223372036854775807 := by omega
        have zj2 : -9223372036854775808 ≤ (j : Int) := by omega
        have zjl : (j : Int) < (j : Int) + (i : Int) + 1 := by omega
        go_upto_region 7 with fail
        obtain ⟨V0, hV0⟩ : ∃ V, V = wr.drew := ⟨_, rfl⟩
        have hbd : Below wr.heap.size wr V0 := by rw [hV0]; exact (Below.refl _ _).drew
        have HI0 := Lib.hid (HU.out.below hbd)
        have y6 := on_cell hbd y6
        have c0 := on_cell hbd c0
        have c1 := on_cell hbd c1
        have c2 := on_cell hbd c2
        have c3 := on_cell hbd c3
        have c4 := on_cell hbd c4
        have q3 := on_cell hbd q3
        have hown := HI0.out.tst
        have hlow := HI0.out.oth.size
        have hb0 := Below.refl V0.heap.size V0
        have Hvb : Hid (∀ g, (Value.slice ta1 ts.length tc1).ownBlock = some g → b5 ≠ g ∧ bt ≠ g) := Lib.hid (fun g hg => by have h1 := (hown.lt g hg).1; have h2 := H5.out; have h3 := HB3.out.size; have h4 := HBu.out.size; exact ⟨by omega, by omega⟩)
        have hn1 : ub ≠ b5 := Ne.symm Hub.out.2.2.1
        have hn2 : ub ≠ bt := by have := Hub.out; omega
        clear hbd HU
        refine wp_region_noPanic ?_
        refine wp_region_held_drew (S := (fun w' => w'.cell? ⟨b5, 6, none⟩ = some (.slice (some ⟨bt, ot, none⟩) (j + i + 1) T.R.tc) ∧ w'.cell? ⟨bt, ot + j * 5, none⟩ = some (.int .i64 t0) ∧ w'.cell? ⟨bt, ot + j * 5 + 1, none⟩ = some (.bool t1) ∧ w'.cell? ⟨bt, ot + j * 5 + 2, none⟩ = some (.int .i64 t2) ∧ w'.cell? ⟨bt, ot + j * 5 + 3, none⟩ = some (.bool t3) ∧ w'.cell? ⟨bt, ot + j * 5 + 4, none⟩ = some (.int .i64 t4))) (by kernel_rfl) ?_ (fun hHeld => ?_)
        · rw [← hV0]; exact ⟨y6, c0, c1, c2, c3, c4⟩
        rw [← hV0] at hHeld ⊢
        clear hV0
        refine wpAnyH_take (i := 0) (oi := ⟨some 42, _, _, _, _, _⟩) (v := ?_) rfl (by kernel_rfl) (by kernel_rfl) (by kernel_rfl) (fun _ _ _ h => h) (Or.inl ⟨by rfl, ?_⟩) (by assumption) ?_
        rotate_left 1
        · intro w hSw
          (try dsimp only at hSw)
          go_simp
          all_goals with_reducible rfl
        (try simp only [Act.put, List.setIfInBounds_toArray, List.set_cons_zero, List.set_cons_succ])
        refine wpAnyH_take (i := 2) (oi := ⟨some 44, _, _, _, _, _⟩) (v := ?_) rfl (by kernel_rfl) (by kernel_rfl) (by kernel_rfl) (fun _ _ _ h => h) (Or.inl ⟨by rfl, ?_⟩) (by assumption) ?_
        rotate_left 1
        · intro w hSw
          (try dsimp only at hSw)
          go_simp
          all_goals with_reducible rfl
        (try simp only [Act.put, List.setIfInBounds_toArray, List.set_cons_zero, List.set_cons_succ])
        refine wpAnyH_take (i := 3) (oi := ⟨some 45, _, _, _, _, _⟩) (v := ?_) rfl (by kernel_rfl) (by kernel_rfl) (by kernel_rfl) (fun _ _ _ h => h) (Or.inl ⟨by rfl, ?_⟩) (by assumption) ?_
        rotate_left 1
        · intro w hSw
          (try dsimp only at hSw)
          go_simp
          all_goals with_reducible rfl
        (try simp only [Act.put, List.setIfInBounds_toArray, List.set_cons_zero, List.set_cons_succ])
        refine wpAnyH_take (i := 4) (oi := ⟨some 46, _, _, _, _, _⟩) (v := ?_) rfl (by kernel_rfl) (by kernel_rfl) (by kernel_rfl) (fun _ _ _ h => h) (Or.inl ⟨by rfl, ?_⟩) (by assumption) ?_
        rotate_left 1
        · intro w hSw
          (try dsimp only at hSw)
          go_simp
          all_goals with_reducible rfl
        (try simp only [Act.put, List.setIfInBounds_toArray, List.set_cons_zero, List.set_cons_succ])
        refine wpAnyH_take (i := 5) (oi := ⟨some 47, _, _, _, _, _⟩) (v := ?_) rfl (by kernel_rfl) (by kernel_rfl) (by kernel_rfl) (fun _ _ _ h => h) (Or.inl ⟨by rfl, ?_⟩) (by assumption) ?_
        rotate_left 1
        · intro w hSw
          (try dsimp only at hSw)
          go_simp
          all_goals with_reducible rfl
        (try simp only [Act.put, List.setIfInBounds_toArray, List.set_cons_zero, List.set_cons_succ])
        refine wpAnyH_take (i := 6) (oi := ⟨some 48, _, _, _, _, _⟩) (v := ?_) rfl (by kernel_rfl) (by kernel_rfl) (by kernel_rfl) (fun _ _ _ h => h) (Or.inl ⟨by rfl, ?_⟩) (by assumption) ?_
        rotate_left 1
        · intro w hSw
          (try dsimp only at hSw)
          go_simp
          all_goals with_reducible rfl
        (try simp only [Act.put, List.setIfInBounds_toArray, List.set_cons_zero, List.set_cons_succ])
        refine wpAnyH_take (i := 7) (oi := ⟨some 49, _, _, _, _, _⟩) (v := ?_) rfl (by kernel_rfl) (by kernel_rfl) (by kernel_rfl) (fun _ _ _ h => h) (Or.inl ⟨by rfl, ?_⟩) (by assumption) ?_
        rotate_left 1
        · intro w hSw
          (try dsimp only at hSw)
          go_simp
          all_goals with_reducible rfl
        (try simp only [Act.put, List.setIfInBounds_toArray, List.set_cons_zero, List.set_cons_succ])
        refine wpAnyH_take (i := 8) (oi := ⟨some 50, _, _, _, _, _⟩) (v := ?_) rfl (by kernel_rfl) (by kernel_rfl) (by kernel_rfl) (fun _ _ _ h => h) (Or.inl ⟨by rfl, ?_⟩) (by assumption) ?_
        rotate_left 1
        · intro w hSw
          (try dsimp only at hSw)
          go_simp
          all_goals with_reducible rfl
        (try simp only [Act.put, List.setIfInBounds_toArray, List.set_cons_zero, List.set_cons_succ])
        refine wpAnyH_take (i := 9) (oi := ⟨some 51, _, _, _, _, _⟩) (v := ?_) rfl (by kernel_rfl) (by kernel_rfl) (by kernel_rfl) (fun _ _ _ h => h) (Or.inl ⟨by rfl, ?_⟩) (by assumption) ?_
        rotate_left 1
        · intro w hSw
          (try dsimp only at hSw)
          go_simp
          (try rw [IntWalk.i64_in _ (by omega)])
          all_goals with_reducible rfl
        (try simp only [Act.put, List.setIfInBounds_toArray, List.set_cons_zero, List.set_cons_succ])
        refine wpAnyH_take (i := 10) (oi := ⟨some 52, _, _, _, _, _⟩) (v := ?_) rfl (by kernel_rfl) (by kernel_rfl) (by kernel_rfl) (fun _ _ _ h => h) (Or.inl ⟨by rfl, ?_⟩) (by assumption) ?_
        rotate_left 1
        · intro w hSw
          (try dsimp only at hSw)
          go_simp
          all_goals with_reducible rfl
        (try simp only [Act.put, List.setIfInBounds_toArray, List.set_cons_zero, List.set_cons_succ])
        refine wpAnyH_take (i := 11) (oi := ⟨some 53, _, _, _, _, _⟩) (v := ?_) rfl (by kernel_rfl) (by kernel_rfl) (by kernel_rfl) (fun _ _ _ h => h) (Or.inl ⟨by rfl, ?_⟩) (by assumption) ?_
        rotate_left 1
        · intro w hSw
          (try dsimp only at hSw)
          go_simp
          (try rw [IntWalk.i64_in _ (by omega)])
          (try rw [show (j : Int) + (i : Int) - (i : Int) = (j : Int) by omega])
          all_goals with_reducible rfl
        (try simp only [Act.put, List.setIfInBounds_toArray, List.set_cons_zero, List.set_cons_succ])
        refine wpAnyH_take (i := 12) (oi := ⟨some 54, _, _, _, _, _⟩) (v := ?_) rfl (by kernel_rfl) (by kernel_rfl) (by kernel_rfl) (fun _ _ _ h => h) (Or.inl ⟨by rfl, ?_⟩) (by assumption) ?_
        rotate_left 1
        · intro w hSw
          (try dsimp only at hSw)
          go_simp
          all_goals with_reducible rfl
        (try simp only [Act.put, List.setIfInBounds_toArray, List.set_cons_zero, List.set_cons_succ])
        refine wpAnyH_take (i := 13) (oi := ⟨some 55, _, _, _, _, _⟩) (v := ?_) rfl (by kernel_rfl) (by kernel_rfl) (by kernel_rfl) (fun _ _ _ h => h) (Or.inl ⟨by rfl, ?_⟩) (by assumption) ?_
        rotate_left 1
        · intro w hSw
          (try dsimp only at hSw)
          go_simp
          all_goals with_reducible rfl
        (try simp only [Act.put, List.setIfInBounds_toArray, List.set_cons_zero, List.set_cons_succ])
        refine wpAnyH_ready (rs := [1, 14]) (by kernel_rfl) (by simp) ?_
        refine AllReadyH.cons (o := _) rfl (fun K hK => ?_) ?_
        · have tt := on_cell hb0 q3
          go_simp
          clear tt
          refine hK.out _ _ ?_ (fun hHeld => ?_)
          · exact ⟨on_cell hb0 y6, on_cell hb0 c0, on_cell hb0 c1, on_cell hb0 c2, on_cell hb0 c3, on_cell hb0 c4⟩
          clear hK K
          (try simp only [Act.put, List.setIfInBounds_toArray, List.set_cons_zero, List.set_cons_succ])
          refine wpAnyH_ready (rs := [14]) (by kernel_rfl) (by simp) ?_
          refine AllReadyH.cons (o := _) rfl (fun K hK => ?_) ?_
          · go_simp
            obtain ⟨V3, hV3⟩ : ∃ W, W = V0.alloc (.cells #[.int .i64 t0, .bool t1, .int .i64 t2, .bool t3, .int .i64 t4] 60) := ⟨_, rfl⟩
            obtain ⟨b9, hb9⟩ : ∃ b, b = V0.heap.size := ⟨_, rfl⟩
            rw [← hV3, ← hb9]
            have hb3 : Below V0.heap.size V0 V3 := by rw [hV3]; exact (Below.refl _ _).alloc (Nat.le_refl _) _
            have src3 : Source V3 (some ⟨b9, 0, none⟩) 1 1 [.int .i64 t0, .bool t1, .int .i64 t2, .bool t3, .int .i64 t4] := by rw [hV3, hb9]; exact source_new V0 [.int .i64 t0, .bool t1, .int .i64 t2, .bool t3, .int .i64 t4] 60
            clear hV3 hb9
            refine hK.out _ _ ?_ (fun hHeld => ?_)
            · exact ⟨on_cell hb3 y6, on_cell hb3 c0, on_cell hb3 c1, on_cell hb3 c2, on_cell hb3 c3, on_cell hb3 c4⟩
            clear hK K
            (try simp only [Act.put, List.setIfInBounds_toArray, List.set_cons_zero, List.set_cons_succ])
            refine wpAnyH_ready (rs := [15]) (by kernel_rfl) (by simp) ?_
            refine AllReadyH.cons (o := _) rfl (fun K hK => ?_) ?_
            · have hz3 := hb3.size
              refine step_append_any elemTst _ rfl _ _ rfl Wu.heap.size (.slice ta1 ts.length tc1) ts.length (tstCells ts) rfl (owns_below hown hb3 (Nat.le_refl _)) (some ⟨b9, 0, none⟩) 1 1 [.int .i64 t0, .bool t1, .int .i64 t2, .bool t3, .int .i64 t4] rfl src3 rfl (by simp [Value.oneCell']) (by unfold maxLen; omega) (by omega) (by omega) ?_
              intro v' V4 hown4 hgrow4 hblk4
              obtain ⟨va4, vc4, rfl⟩ := owns_shape' hown4
              obtain ⟨p1, p2, p3⟩ := HI0.out.pushTst (t := (t0, (t1, t2), t3, t4)) Hub.out.2.1 hb3 hgrow4 hown4
              have P1 := Lib.hid p1
              have hS4 : V4.cell? ⟨b5, 6, none⟩ = some (.slice (some ⟨bt, ot, none⟩) (j + i + 1) T.R.tc) ∧ V4.cell? ⟨bt, ot + j * 5, none⟩ = some (.int .i64 t0) ∧ V4.cell? ⟨bt, ot + j * 5 + 1, none⟩ = some (.bool t1) ∧ V4.cell? ⟨bt, ot + j * 5 + 2, none⟩ = some (.int .i64 t2) ∧ V4.cell? ⟨bt, ot + j * 5 + 3, none⟩ = some (.bool t3) ∧ V4.cell? ⟨bt, ot + j * 5 + 4, none⟩ = some (.int .i64 t4) := ⟨hgrow4.cell (on_cell hb3 y6) (fun e => (Hvb.out _ e.symm).1 rfl), hgrow4.cell (on_cell hb3 c0) (fun e => (Hvb.out _ e.symm).2 rfl), hgrow4.cell (on_cell hb3 c1) (fun e => (Hvb.out _ e.symm).2 rfl), hgrow4.cell (on_cell hb3 c2) (fun e => (Hvb.out _ e.symm).2 rfl), hgrow4.cell (on_cell hb3 c3) (fun e => (Hvb.out _ e.symm).2 rfl), hgrow4.cell (on_cell hb3 c4) (fun e => (Hvb.out _ e.symm).2 rfl)⟩
              clear p1 hown4 hgrow4 hblk4 src3
              refine hK.out _ _ ?_ (fun hHeld => ?_)
              · exact hS4
              clear hK K
              (try simp only [Act.put, List.setIfInBounds_toArray, List.set_cons_zero, List.set_cons_succ])
              refine wpAnyH_take (i := 16) (oi := ⟨some 58, _, _, _, _, _⟩) (v := ?_) rfl (by kernel_rfl) (by kernel_rfl) (by kernel_rfl) (fun _ _ _ h => h) (Or.inl ⟨by rfl, ?_⟩) (by assumption) ?_
              rotate_left 1
              · intro w hSw
                (try dsimp only at hSw)
                go_simp
                all_goals with_reducible rfl
              (try simp only [Act.put, List.setIfInBounds_toArray, List.set_cons_zero, List.set_cons_succ])
              refine wpAnyH_ready (rs := [17]) (by kernel_rfl) (by simp) ?_
              refine AllReadyH.cons (o := _) rfl (fun K hK => ?_) ?_
              · go_simp
                refine hK.out _ _ ?_ (fun hHeld => ?_)
                · exact ⟨(World.cell?_setCell_far _ _ _ _ hn1).trans hS4.1, (World.cell?_setCell_far _ _ _ _ hn2).trans hS4.2.1, (World.cell?_setCell_far _ _ _ _ hn2).trans hS4.2.2.1, (World.cell?_setCell_far _ _ _ _ hn2).trans hS4.2.2.2.1, (World.cell?_setCell_far _ _ _ _ hn2).trans hS4.2.2.2.2.1, (World.cell?_setCell_far _ _ _ _ hn2).trans hS4.2.2.2.2.2⟩
                clear hK K
                (try simp only [Act.put, List.setIfInBounds_toArray, List.set_cons_zero, List.set_cons_succ])
                refine wpAnyH_done (by kernel_rfl) ?_ _
                refine NoPanic.normal ?_
                have HLX : Hid (ts ++ [(t0, (t1, t2), t3, t4)] = T.R.tests.reverse.take (i + 1)) := Lib.hid (by rw [rev_take HTN.out Ht.out (by rw [← HTN.out]; omega), ← HTs.out])
                clear hS4 hHeld
                go_wp2
                go_roundw
                case rel => exact ⟨i + 1, by go_num, by omega, _, _, P1, HLX⟩
                case measure => simp [intOf]; omega
              exact AllReadyH.nil
            exact AllReadyH.nil
          exact AllReadyH.nil
        refine AllReadyH.cons (o := _) rfl (fun K hK => ?_) ?_
        · go_simp
          obtain ⟨V3, hV3⟩ : ∃ W, W = V0.alloc (.cells #[.int .i64 t0, .bool t1, .int .i64 t2, .bool t3, .int .i64 t4] 60) := ⟨_, rfl⟩
          obtain ⟨b9, hb9⟩ : ∃ b, b = V0.heap.size := ⟨_, rfl⟩
          rw [← hV3, ← hb9]
          have hb3 : Below V0.heap.size V0 V3 := by rw [hV3]; exact (Below.refl _ _).alloc (Nat.le_refl _) _
          have src3 : Source V3 (some ⟨b9, 0, none⟩) 1 1 [.int .i64 t0, .bool t1, .int .i64 t2, .bool t3, .int .i64 t4] := by rw [hV3, hb9]; exact source_new V0 [.int .i64 t0, .bool t1, .int .i64 t2, .bool t3, .int .i64 t4] 60
          clear hV3 hb9
          refine hK.out _ _ ?_ (fun hHeld => ?_)
          · exact ⟨on_cell hb3 y6, on_cell hb3 c0, on_cell hb3 c1, on_cell hb3 c2, on_cell hb3 c3, on_cell hb3 c4⟩
          clear hK K
          (try simp only [Act.put, List.setIfInBounds_toArray, List.set_cons_zero, List.set_cons_succ])
          refine wpAnyH_ready (rs := [1]) (by kernel_rfl) (by simp) ?_
          refine AllReadyH.cons (o := _) rfl (fun K hK => ?_) ?_
          · have tt := on_cell hb3 q3
            go_simp
            clear tt
            refine hK.out _ _ ?_ (fun hHeld => ?_)
            · exact ⟨on_cell hb3 y6, on_cell hb3 c0, on_cell hb3 c1, on_cell hb3 c2, on_cell hb3 c3, on_cell hb3 c4⟩
            clear hK K
            (try simp only [Act.put, List.setIfInBounds_toArray, List.set_cons_zero, List.set_cons_succ])
            refine wpAnyH_ready (rs := [15]) (by kernel_rfl) (by simp) ?_
            refine AllReadyH.cons (o := _) rfl (fun K hK => ?_) ?_
            · have hz3 := hb3.size
              refine step_append_any elemTst _ rfl _ _ rfl Wu.heap.size (.slice ta1 ts.length tc1) ts.length (tstCells ts) rfl (owns_below hown hb3 (Nat.le_refl _)) (some ⟨b9, 0, none⟩) 1 1 [.int .i64 t0, .bool t1, .int .i64 t2, .bool t3, .int .i64 t4] rfl src3 rfl (by simp [Value.oneCell']) (by unfold maxLen; omega) (by omega) (by omega) ?_
              intro v' V4 hown4 hgrow4 hblk4
              obtain ⟨va4, vc4, rfl⟩ := owns_shape' hown4
              obtain ⟨p1, p2, p3⟩ := HI0.out.pushTst (t := (t0, (t1, t2), t3, t4)) Hub.out.2.1 hb3 hgrow4 hown4
              have P1 := Lib.hid p1
              have hS4 : V4.cell? ⟨b5, 6, none⟩ = some (.slice (some ⟨bt, ot, none⟩) (j + i + 1) T.R.tc) ∧ V4.cell? ⟨bt, ot + j * 5, none⟩ = some (.int .i64 t0) ∧ V4.cell? ⟨bt, ot + j * 5 + 1, none⟩ = some (.bool t1) ∧ V4.cell? ⟨bt, ot + j * 5 + 2, none⟩ = some (.int .i64 t2) ∧ V4.cell? ⟨bt, ot + j * 5 + 3, none⟩ = some (.bool t3) ∧ V4.cell? ⟨bt, ot + j * 5 + 4, none⟩ = some (.int .i64 t4) := ⟨hgrow4.cell (on_cell hb3 y6) (fun e => (Hvb.out _ e.symm).1 rfl), hgrow4.cell (on_cell hb3 c0) (fun e => (Hvb.out _ e.symm).2 rfl), hgrow4.cell (on_cell hb3 c1) (fun e => (Hvb.out _ e.symm).2 rfl), hgrow4.cell (on_cell hb3 c2) (fun e => (Hvb.out _ e.symm).2 rfl), hgrow4.cell (on_cell hb3 c3) (fun e => (Hvb.out _ e.symm).2 rfl), hgrow4.cell (on_cell hb3 c4) (fun e => (Hvb.out _ e.symm).2 rfl)⟩
              clear p1 hown4 hgrow4 hblk4 src3
              refine hK.out _ _ ?_ (fun hHeld => ?_)
              · exact hS4
              clear hK K
              (try simp only [Act.put, List.setIfInBounds_toArray, List.set_cons_zero, List.set_cons_succ])
              refine wpAnyH_take (i := 16) (oi := ⟨some 58, _, _, _, _, _⟩) (v := ?_) rfl (by kernel_rfl) (by kernel_rfl) (by kernel_rfl) (fun _ _ _ h => h) (Or.inl ⟨by rfl, ?_⟩) (by assumption) ?_
              rotate_left 1
              · intro w hSw
                (try dsimp only at hSw)
                go_simp
                all_goals with_reducible rfl
              (try simp only [Act.put, List.setIfInBounds_toArray, List.set_cons_zero, List.set_cons_succ])
              refine wpAnyH_ready (rs := [17]) (by kernel_rfl) (by simp) ?_
              refine AllReadyH.cons (o := _) rfl (fun K hK => ?_) ?_
              · go_simp
                refine hK.out _ _ ?_ (fun hHeld => ?_)
                · exact ⟨(World.cell?_setCell_far _ _ _ _ hn1).trans hS4.1, (World.cell?_setCell_far _ _ _ _ hn2).trans hS4.2.1, (World.cell?_setCell_far _ _ _ _ hn2).trans hS4.2.2.1, (World.cell?_setCell_far _ _ _ _ hn2).trans hS4.2.2.2.1, (World.cell?_setCell_far _ _ _ _ hn2).trans hS4.2.2.2.2.1, (World.cell?_setCell_far _ _ _ _ hn2).trans hS4.2.2.2.2.2⟩
                clear hK K
                (try simp only [Act.put, List.setIfInBounds_toArray, List.set_cons_zero, List.set_cons_succ])
                refine wpAnyH_done (by kernel_rfl) ?_ _
                refine NoPanic.normal ?_
                have HLX : Hid (ts ++ [(t0, (t1, t2), t3, t4)] = T.R.tests.reverse.take (i + 1)) := Lib.hid (by rw [rev_take HTN.out Ht.out (by rw [← HTN.out]; omega), ← HTs.out])
                clear hS4 hHeld
                go_wp2
                go_roundw
                case rel => exact ⟨i + 1, by go_num, by omega, _, _, P1, HLX⟩
                case measure => simp [intOf]; omega
              exact AllReadyH.nil
            exact AllReadyH.nil
          exact AllReadyH.nil
        exact AllReadyH.nil
      · have hie : i = TN := by omega
        subst hie
        have HX : Hid (ts = T.R.tests.reverse) := Lib.hid (by rw [HTs.out, List.take_of_length_le (by rw [List.length_reverse, ← HTN.out]; exact Nat.le_refl _)])
        go_wp2_with fail
        go_meet
        exact ⟨_, ts, HU, HX⟩
  case rest =>
    clear HU0
    obtain ⟨tv, ts, HU, HTs⟩ := hcut
    obtain ⟨ta1, tc1, rfl⟩ := owns_shape' HU.out.tst
    have y7a := HU.out.oth.cell y7 Hub.out.2.2.1
    go_upto_block 2 with fail
    clear y7a
    go_cut [] (fun w' => ∃ (gv : Value) (ns : List Pat), Hid (USt V2 Wu ub hp0 (.slice ha0 hn0 hc0) (.slice T.R.pa T.R.pos.length T.R.pc) T0.K (.slice ta1 ts.length tc1) gv (.slice none 0 0) ts ns 0 w') ∧ Hid (ns = T.R.neg.reverse))
    case first =>
      have y7a := HU.out.oth.cell y7 Hub.out.2.2.1
      go_wp2_with fail
      go_loopw [64] (fun t w' => ∃ (i : Nat) (gv : Value) (ns : List Pat), t = .int .i64 i ∧ i ≤ GN ∧ Hid (USt V2 Wu ub hp0 (.slice ha0 hn0 hc0) (.slice T.R.pa T.R.pos.length T.R.pc) T0.K (.slice ta1 ts.length tc1) gv (.slice none 0 0) ts ns 0 w') ∧ Hid (ns = T.R.neg.reverse.take i)) (fun t _ => GN - (intOf t).toNat)
      case atStart => exact ⟨0, _, [], rfl, Nat.zero_le _, HU, Lib.hid (by simp)⟩
      case round =>
        clear HU y7a
        obtain ⟨i, gv, ns, rfl, hiT, HU, HNs⟩ := hrel
        have y7 := HU.out.oth.cell y7 Hub.out.2.2.1
        obtain ⟨ga1, gc1, rfl⟩ := HU.out.neg.shape
        by_cases hlt : i < GN
        · obtain ⟨j, hj⟩ : ∃ j, GN = j + i + 1 := ⟨GN - 1 - i, by omega⟩
          subst hj
          obtain ⟨t, ht⟩ : ∃ t, t = T.R.neg[j]'(by have := HGN.out; omega) := ⟨_, rfl⟩
          have Ht : Hid (T.R.neg[j]? = some t) := Lib.hid (by rw [ht]; exact List.getElem?_eq_getElem _)
          clear ht
          obtain ⟨bt, ot, hta, htc⟩ : ∃ b off, T.R.na = some ⟨b, off, none⟩ ∧ ∀ (i : Nat) (p : Pat), T.R.neg[i]? = some p → V2.cell? ⟨b, off + i * 2, none⟩ = some (.int .i64 p.1) ∧ ∃ sa sc, V2.cell? ⟨b, off + i * 2 + 1, none⟩ = some (.slice sa p.2.length sc) ∧ Slots V2 sa p.2 := by
            rcases HTu.out.rule.neg with h | h
            · have := HGN.out; rw [h] at this; simp at this
            · exact h
          obtain ⟨c0, sa, sc, c1, hsl⟩ := htc j t Ht.out
          have hbt : bt < V2.heap.size := World.block_lt_of_cell? _ _ c0
          have HSl := Lib.hid hsl
          rw [hta] at y7
          have hold : Below V2.heap.size V2 wr := HBu.out.trans (HU.out.oth.low (by have := Hub.out; omega) HBu.out.size)
          have c0 := below_cell hold (Nat.le_refl _) c0
          have c1 := below_cell hold (Nat.le_refl _) c1
          have q4 := HU.out.cells.2.2.2.2.1
          obtain ⟨pp, sl⟩ := t
          simp only at c0 c1
          clear htc hta hold hsl
          have hlen : ns.length = i := by rw [HNs.out, List.length_take, List.length_reverse, ← HGN.out]; omega
          have hlle : ns.length < 3 := by omega
          clear hlen
          have zj : (0 : Int) ≤ (j : Int) := by omega
          have zjl : (j : Int) < (j : Int) + (i : Int) + 1 := by omega
          go_upto_region 12 with fail
          obtain ⟨V0, hV0⟩ : ∃ V, V = wr.drew := ⟨_, rfl⟩
          have hbd : Below wr.heap.size wr V0 := by rw [hV0]; exact (Below.refl _ _).drew
          have HI0 := Lib.hid (HU.out.below hbd)
          have y7 := on_cell hbd y7
          have c0 := on_cell hbd c0
          have c1 := on_cell hbd c1
          have q4 := on_cell hbd q4
          obtain ⟨ncells, hown, -⟩ := id HI0.out.neg
          have hlow := HI0.out.oth.size
          have hb0 := Below.refl V0.heap.size V0
          have Hvb : Hid (∀ g, (Value.slice ga1 ns.length gc1).ownBlock = some g → b5 ≠ g ∧ bt ≠ g) := Lib.hid (fun g hg => by have h1 := (hown.lt g hg).1; have h2 := H5.out; have h3 := HB3.out.size; have h4 := HBu.out.size; exact ⟨by omega, by omega⟩)
          have hn1 : ub ≠ b5 := Ne.symm Hub.out.2.2.1
          have hn2 : ub ≠ bt := by have := Hub.out; omega
          clear hbd HU
          refine wp_region_noPanic ?_
          refine wp_region_held_drew (S := (fun w' => w'.cell? ⟨b5, 7, none⟩ = some (.slice (some ⟨bt, ot, none⟩) (j + i + 1) T.R.nc) ∧ w'.cell? ⟨bt, ot + j * 2, none⟩ = some (.int .i64 pp) ∧ w'.cell? ⟨bt, ot + j * 2 + 1, none⟩ = some (.slice sa sl.length sc))) (by kernel_rfl) ?_ (fun hHeld => ?_)
          · rw [← hV0]; exact ⟨y7, c0, c1⟩
          rw [← hV0] at hHeld ⊢
          clear hV0
          refine wpAnyH_take (i := 0) (oi := ⟨some 67, _, _, _, _, _⟩) (v := ?_) rfl (by kernel_rfl) (by kernel_rfl) (by kernel_rfl) (fun _ _ _ h => h) (Or.inl ⟨by rfl, ?_⟩) (by assumption) ?_
          rotate_left 1
          · intro w hSw
            (try dsimp only at hSw)
            go_simp
            all_goals with_reducible rfl
          (try simp only [Act.put, List.setIfInBounds_toArray, List.set_cons_zero, List.set_cons_succ])
          refine wpAnyH_take (i := 2) (oi := ⟨some 69, _, _, _, _, _⟩) (v := ?_) rfl (by kernel_rfl) (by kernel_rfl) (by kernel_rfl) (fun _ _ _ h => h) (Or.inl ⟨by rfl, ?_⟩) (by assumption) ?_
          rotate_left 1
          · intro w hSw
            (try dsimp only at hSw)
            go_simp
            all_goals with_reducible rfl
          (try simp only [Act.put, List.setIfInBounds_toArray, List.set_cons_zero, List.set_cons_succ])
          refine wpAnyH_take (i := 3) (oi := ⟨some 70, _, _, _, _, _⟩) (v := ?_) rfl (by kernel_rfl) (by kernel_rfl) (by kernel_rfl) (fun _ _ _ h => h) (Or.inl ⟨by rfl, ?_⟩) (by assumption) ?_
          rotate_left 1
          · intro w hSw
            (try dsimp only at hSw)
            go_simp
            all_goals with_reducible rfl
          (try simp only [Act.put, List.setIfInBounds_toArray, List.set_cons_zero, List.set_cons_succ])
          refine wpAnyH_take (i := 4) (oi := ⟨some 71, _, _, _, _, _⟩) (v := ?_) rfl (by kernel_rfl) (by kernel_rfl) (by kernel_rfl) (fun _ _ _ h => h) (Or.inl ⟨by rfl, ?_⟩) (by assumption) ?_
          rotate_left 1
          · intro w hSw
            (try dsimp only at hSw)
            go_simp
            all_goals with_reducible rfl
          (try simp only [Act.put, List.setIfInBounds_toArray, List.set_cons_zero, List.set_cons_succ])
          refine wpAnyH_take (i := 5) (oi := ⟨some 72, _, _, _, _, _⟩) (v := ?_) rfl (by kernel_rfl) (by kernel_rfl) (by kernel_rfl) (fun _ _ _ h => h) (Or.inl ⟨by rfl, ?_⟩) (by assumption) ?_
          rotate_left 1
          · intro w hSw
            (try dsimp only at hSw)
            go_simp
            all_goals with_reducible rfl
          (try simp only [Act.put, List.setIfInBounds_toArray, List.set_cons_zero, List.set_cons_succ])
          refine wpAnyH_take (i := 6) (oi := ⟨some 73, _, _, _, _, _⟩) (v := ?_) rfl (by kernel_rfl) (by kernel_rfl) (by kernel_rfl) (fun _ _ _ h => h) (Or.inl ⟨by rfl, ?_⟩) (by assumption) ?_
          rotate_left 1
          · intro w hSw
            (try dsimp only at hSw)
            go_simp
            all_goals with_reducible rfl
          (try simp only [Act.put, List.setIfInBounds_toArray, List.set_cons_zero, List.set_cons_succ])
          refine wpAnyH_take (i := 7) (oi := ⟨some 74, _, _, _, _, _⟩) (v := ?_) rfl (by kernel_rfl) (by kernel_rfl) (by kernel_rfl) (fun _ _ _ h => h) (Or.inl ⟨by rfl, ?_⟩) (by assumption) ?_
          rotate_left 1
          · intro w hSw
            (try dsimp only at hSw)
            go_simp
            all_goals with_reducible rfl
          (try simp only [Act.put, List.setIfInBounds_toArray, List.set_cons_zero, List.set_cons_succ])
          refine wpAnyH_take (i := 8) (oi := ⟨some 75, _, _, _, _, _⟩) (v := ?_) rfl (by kernel_rfl) (by kernel_rfl) (by kernel_rfl) (fun _ _ _ h => h) (Or.inl ⟨by rfl, ?_⟩) (by assumption) ?_
          rotate_left 1
          · intro w hSw
            (try dsimp only at hSw)
            go_simp
            all_goals with_reducible rfl
          (try simp only [Act.put, List.setIfInBounds_toArray, List.set_cons_zero, List.set_cons_succ])
          refine wpAnyH_take (i := 9) (oi := ⟨some 76, _, _, _, _, _⟩) (v := ?_) rfl (by kernel_rfl) (by kernel_rfl) (by kernel_rfl) (fun _ _ _ h => h) (Or.inl ⟨by rfl, ?_⟩) (by assumption) ?_
          rotate_left 1
          · intro w hSw
            (try dsimp only at hSw)
            go_simp
            (try rw [IntWalk.i64_in _ (by omega)])
            all_goals with_reducible rfl
          (try simp only [Act.put, List.setIfInBounds_toArray, List.set_cons_zero, List.set_cons_succ])
          refine wpAnyH_take (i := 10) (oi := ⟨some 77, _, _, _, _, _⟩) (v := ?_) rfl (by kernel_rfl) (by kernel_rfl) (by kernel_rfl) (fun _ _ _ h => h) (Or.inl ⟨by rfl, ?_⟩) (by assumption) ?_
          rotate_left 1
          · intro w hSw
            (try dsimp only at hSw)
            go_simp
            all_goals with_reducible rfl
          (try simp only [Act.put, List.setIfInBounds_toArray, List.set_cons_zero, List.set_cons_succ])
          refine wpAnyH_take (i := 11) (oi := ⟨some 78, _, _, _, _, _⟩) (v := ?_) rfl (by kernel_rfl) (by kernel_rfl) (by kernel_rfl) (fun _ _ _ h => h) (Or.inl ⟨by rfl, ?_⟩) (by assumption) ?_
          rotate_left 1
          · intro w hSw
            (try dsimp only at hSw)
            go_simp
            (try rw [IntWalk.i64_in _ (by omega)])
            (try rw [show (j : Int) + (i : Int) - (i : Int) = (j : Int) by omega])
            all_goals with_reducible rfl
          (try simp only [Act.put, List.setIfInBounds_toArray, List.set_cons_zero, List.set_cons_succ])
          refine wpAnyH_take (i := 12) (oi := ⟨some 79, _, _, _, _, _⟩) (v := ?_) rfl (by kernel_rfl) (by kernel_rfl) (by kernel_rfl) (fun _ _ _ h => h) (Or.inl ⟨by rfl, ?_⟩) (by assumption) ?_
          rotate_left 1
          · intro w hSw
            (try dsimp only at hSw)
            go_simp
            all_goals with_reducible rfl
          (try simp only [Act.put, List.setIfInBounds_toArray, List.set_cons_zero, List.set_cons_succ])
          refine wpAnyH_take (i := 13) (oi := ⟨some 80, _, _, _, _, _⟩) (v := ?_) rfl (by kernel_rfl) (by kernel_rfl) (by kernel_rfl) (fun _ _ _ h => h) (Or.inl ⟨by rfl, ?_⟩) (by assumption) ?_
          rotate_left 1
          · intro w hSw
            (try dsimp only at hSw)
            go_simp
            all_goals with_reducible rfl
          (try simp only [Act.put, List.setIfInBounds_toArray, List.set_cons_zero, List.set_cons_succ])
          refine wpAnyH_ready (rs := [1, 14]) (by kernel_rfl) (by simp) ?_
          refine AllReadyH.cons (o := _) rfl (fun K hK => ?_) ?_
          · have tt := on_cell hb0 q4
            go_simp
            clear tt
            refine hK.out _ _ ?_ (fun hHeld => ?_)
            · exact ⟨on_cell hb0 y7, on_cell hb0 c0, on_cell hb0 c1⟩
            clear hK K
            (try simp only [Act.put, List.setIfInBounds_toArray, List.set_cons_zero, List.set_cons_succ])
            refine wpAnyH_ready (rs := [14]) (by kernel_rfl) (by simp) ?_
            refine AllReadyH.cons (o := _) rfl (fun K hK => ?_) ?_
            · go_simp
              obtain ⟨V3, hV3⟩ : ∃ W, W = V0.alloc (.cells #[.int .i64 pp, .slice sa sl.length sc] 27) := ⟨_, rfl⟩
              obtain ⟨b9, hb9⟩ : ∃ b, b = V0.heap.size := ⟨_, rfl⟩
              rw [← hV3, ← hb9]
              have hb3 : Below V0.heap.size V0 V3 := by rw [hV3]; exact (Below.refl _ _).alloc (Nat.le_refl _) _
              have src3 : Source V3 (some ⟨b9, 0, none⟩) 1 1 [.int .i64 pp, .slice sa sl.length sc] := by rw [hV3, hb9]; exact source_new V0 [.int .i64 pp, .slice sa sl.length sc] 27
              clear hV3 hb9
              refine hK.out _ _ ?_ (fun hHeld => ?_)
              · exact ⟨on_cell hb3 y7, on_cell hb3 c0, on_cell hb3 c1⟩
              clear hK K
              (try simp only [Act.put, List.setIfInBounds_toArray, List.set_cons_zero, List.set_cons_succ])
              refine wpAnyH_ready (rs := [15]) (by kernel_rfl) (by simp) ?_
              refine AllReadyH.cons (o := _) rfl (fun K hK => ?_) ?_
              · have hz3 := hb3.size
                refine step_append_any elemPat _ rfl _ _ rfl Wu.heap.size (.slice ga1 ns.length gc1) ns.length ncells rfl (owns_below hown hb3 (Nat.le_refl _)) (some ⟨b9, 0, none⟩) 1 1 [.int .i64 pp, .slice sa sl.length sc] rfl src3 rfl (by simp [Value.oneCell']) (by unfold maxLen; omega) (by omega) (by omega) ?_
                intro v' V4 hown4 hgrow4 hblk4
                obtain ⟨va4, vc4, rfl⟩ := owns_shape' hown4
                obtain ⟨p1, p2, p3⟩ := HI0.out.pushNeg (p := (pp, sl)) Hub.out.2.1 hb3 hgrow4 (fun cells hcc => by rw [owns_same hcc hown]; exact hown4) HSl.out
                have P1 := Lib.hid p1
                have hS4 : V4.cell? ⟨b5, 7, none⟩ = some (.slice (some ⟨bt, ot, none⟩) (j + i + 1) T.R.nc) ∧ V4.cell? ⟨bt, ot + j * 2, none⟩ = some (.int .i64 pp) ∧ V4.cell? ⟨bt, ot + j * 2 + 1, none⟩ = some (.slice sa sl.length sc) := ⟨hgrow4.cell (on_cell hb3 y7) (fun e => (Hvb.out _ e.symm).1 rfl), hgrow4.cell (on_cell hb3 c0) (fun e => (Hvb.out _ e.symm).2 rfl), hgrow4.cell (on_cell hb3 c1) (fun e => (Hvb.out _ e.symm).2 rfl)⟩
                clear p1 hown4 hgrow4 hblk4 src3
                refine hK.out _ _ ?_ (fun hHeld => ?_)
                · exact hS4
                clear hK K
                (try simp only [Act.put, List.setIfInBounds_toArray, List.set_cons_zero, List.set_cons_succ])
                refine wpAnyH_take (i := 16) (oi := ⟨some 83, _, _, _, _, _⟩) (v := ?_) rfl (by kernel_rfl) (by kernel_rfl) (by kernel_rfl) (fun _ _ _ h => h) (Or.inl ⟨by rfl, ?_⟩) (by assumption) ?_
                rotate_left 1
                · intro w hSw
                  (try dsimp only at hSw)
                  go_simp
                  all_goals with_reducible rfl
                (try simp only [Act.put, List.setIfInBounds_toArray, List.set_cons_zero, List.set_cons_succ])
                refine wpAnyH_ready (rs := [17]) (by kernel_rfl) (by simp) ?_
                refine AllReadyH.cons (o := _) rfl (fun K hK => ?_) ?_
                · go_simp
                  refine hK.out _ _ ?_ (fun hHeld => ?_)
                  · exact ⟨(World.cell?_setCell_far _ _ _ _ hn1).trans hS4.1, (World.cell?_setCell_far _ _ _ _ hn2).trans hS4.2.1, (World.cell?_setCell_far _ _ _ _ hn2).trans hS4.2.2⟩
                  clear hK K
                  (try simp only [Act.put, List.setIfInBounds_toArray, List.set_cons_zero, List.set_cons_succ])
                  refine wpAnyH_done (by kernel_rfl) ?_ _
                  refine NoPanic.normal ?_
                  have HLX : Hid (ns ++ [(pp, sl)] = T.R.neg.reverse.take (i + 1)) := Lib.hid (by rw [rev_take HGN.out Ht.out (by rw [← HGN.out]; omega), ← HNs.out])
                  clear hS4 hHeld
                  go_wp2
                  go_roundw
                  case rel => exact ⟨i + 1, by go_num, by omega, _, _, P1, HLX⟩
                  case measure => simp [intOf]; omega
                exact AllReadyH.nil
              exact AllReadyH.nil
            exact AllReadyH.nil
          refine AllReadyH.cons (o := _) rfl (fun K hK => ?_) ?_
          · go_simp
            obtain ⟨V3, hV3⟩ : ∃ W, W = V0.alloc (.cells #[.int .i64 pp, .slice sa sl.length sc] 27) := ⟨_, rfl⟩
            obtain ⟨b9, hb9⟩ : ∃ b, b = V0.heap.size := ⟨_, rfl⟩
            rw [← hV3, ← hb9]
            have hb3 : Below V0.heap.size V0 V3 := by rw [hV3]; exact (Below.refl _ _).alloc (Nat.le_refl _) _
            have src3 : Source V3 (some ⟨b9, 0, none⟩) 1 1 [.int .i64 pp, .slice sa sl.length sc] := by rw [hV3, hb9]; exact source_new V0 [.int .i64 pp, .slice sa sl.length sc] 27
            clear hV3 hb9
            refine hK.out _ _ ?_ (fun hHeld => ?_)
            · exact ⟨on_cell hb3 y7, on_cell hb3 c0, on_cell hb3 c1⟩
            clear hK K
            (try simp only [Act.put, List.setIfInBounds_toArray, List.set_cons_zero, List.set_cons_succ])
            refine wpAnyH_ready (rs := [1]) (by kernel_rfl) (by simp) ?_
            refine AllReadyH.cons (o := _) rfl (fun K hK => ?_) ?_
            · have tt := on_cell hb3 q4
              go_simp
              clear tt
              refine hK.out _ _ ?_ (fun hHeld => ?_)
              · exact ⟨on_cell hb3 y7, on_cell hb3 c0, on_cell hb3 c1⟩
              clear hK K
              (try simp only [Act.put, List.setIfInBounds_toArray, List.set_cons_zero, List.set_cons_succ])
              refine wpAnyH_ready (rs := [15]) (by kernel_rfl) (by simp) ?_
              refine AllReadyH.cons (o := _) rfl (fun K hK => ?_) ?_
              · have hz3 := hb3.size
                refine step_append_any elemPat _ rfl _ _ rfl Wu.heap.size (.slice ga1 ns.length gc1) ns.length ncells rfl (owns_below hown hb3 (Nat.le_refl _)) (some ⟨b9, 0, none⟩) 1 1 [.int .i64 pp, .slice sa sl.length sc] rfl src3 rfl (by simp [Value.oneCell']) (by unfold maxLen; omega) (by omega) (by omega) ?_
                intro v' V4 hown4 hgrow4 hblk4
                obtain ⟨va4, vc4, rfl⟩ := owns_shape' hown4
                obtain ⟨p1, p2, p3⟩ := HI0.out.pushNeg (p := (pp, sl)) Hub.out.2.1 hb3 hgrow4 (fun cells hcc => by rw [owns_same hcc hown]; exact hown4) HSl.out
                have P1 := Lib.hid p1
                have hS4 : V4.cell? ⟨b5, 7, none⟩ = some (.slice (some ⟨bt, ot, none⟩) (j + i + 1) T.R.nc) ∧ V4.cell? ⟨bt, ot + j * 2, none⟩ = some (.int .i64 pp) ∧ V4.cell? ⟨bt, ot + j * 2 + 1, none⟩ = some (.slice sa sl.length sc) := ⟨hgrow4.cell (on_cell hb3 y7) (fun e => (Hvb.out _ e.symm).1 rfl), hgrow4.cell (on_cell hb3 c0) (fun e => (Hvb.out _ e.symm).2 rfl), hgrow4.cell (on_cell hb3 c1) (fun e => (Hvb.out _ e.symm).2 rfl)⟩
                clear p1 hown4 hgrow4 hblk4 src3
                refine hK.out _ _ ?_ (fun hHeld => ?_)
                · exact hS4
                clear hK K
                (try simp only [Act.put, List.setIfInBounds_toArray, List.set_cons_zero, List.set_cons_succ])
                refine wpAnyH_take (i := 16) (oi := ⟨some 83, _, _, _, _, _⟩) (v := ?_) rfl (by kernel_rfl) (by kernel_rfl) (by kernel_rfl) (fun _ _ _ h => h) (Or.inl ⟨by rfl, ?_⟩) (by assumption) ?_
                rotate_left 1
                · intro w hSw
                  (try dsimp only at hSw)
                  go_simp
                  all_goals with_reducible rfl
                (try simp only [Act.put, List.setIfInBounds_toArray, List.set_cons_zero, List.set_cons_succ])
                refine wpAnyH_ready (rs := [17]) (by kernel_rfl) (by simp) ?_
                refine AllReadyH.cons (o := _) rfl (fun K hK => ?_) ?_
                · go_simp
                  refine hK.out _ _ ?_ (fun hHeld => ?_)
                  · exact ⟨(World.cell?_setCell_far _ _ _ _ hn1).trans hS4.1, (World.cell?_setCell_far _ _ _ _ hn2).trans hS4.2.1, (World.cell?_setCell_far _ _ _ _ hn2).trans hS4.2.2⟩
                  clear hK K
                  (try simp only [Act.put, List.setIfInBounds_toArray, List.set_cons_zero, List.set_cons_succ])
                  refine wpAnyH_done (by kernel_rfl) ?_ _
                  refine NoPanic.normal ?_
                  have HLX : Hid (ns ++ [(pp, sl)] = T.R.neg.reverse.take (i + 1)) := Lib.hid (by rw [rev_take HGN.out Ht.out (by rw [← HGN.out]; omega), ← HNs.out])
                  clear hS4 hHeld
                  go_wp2
                  go_roundw
                  case rel => exact ⟨i + 1, by go_num, by omega, _, _, P1, HLX⟩
                  case measure => simp [intOf]; omega
                exact AllReadyH.nil
              exact AllReadyH.nil
            exact AllReadyH.nil
          exact AllReadyH.nil
        · have hie : i = GN := by omega
          subst hie
          have HX : Hid (ns = T.R.neg.reverse) := Lib.hid (by rw [HNs.out, List.take_of_length_le (by rw [List.length_reverse, ← HGN.out]; exact Nat.le_refl _)])
          go_wp2_with fail
          go_meet
          exact ⟨_, ns, HU, HX⟩
    case rest =>
      clear HU
      obtain ⟨gv, ns, HU, HNs⟩ := hcut
      obtain ⟨ga1, gc1, rfl⟩ := HU.out.neg.shape
      have y8a := HU.out.oth.cell y8 Hub.out.2.2.1
      go_upto_block 4 with fail
      clear y8a
      go_cut [] (fun w' => ∃ (vv : Value), Hid (USt V2 Wu ub hp0 (.slice ha0 hn0 hc0) (.slice T.R.pa T.R.pos.length T.R.pc) T0.K (.slice ta1 ts.length tc1) (.slice ga1 ns.length gc1) vv ts ns VN w'))
      case first =>
        have y8a := HU.out.oth.cell y8 Hub.out.2.2.1
        go_wp2_with fail
        go_loopw [89] (fun t w' => ∃ (i : Nat) (vv : Value), t = .int .i64 i ∧ i ≤ VN ∧ Hid (USt V2 Wu ub hp0 (.slice ha0 hn0 hc0) (.slice T.R.pa T.R.pos.length T.R.pc) T0.K (.slice ta1 ts.length tc1) (.slice ga1 ns.length gc1) vv ts ns i w')) (fun t _ => VN - (intOf t).toNat)
        case atStart => exact ⟨0, _, rfl, Nat.zero_le _, HU⟩
        case round =>
          clear HU y8a
          obtain ⟨i, vv, rfl, hiT, HU⟩ := hrel
          obtain ⟨va1, vc1, rfl⟩ := owns_shape' HU.out.vars
          by_cases hlt : i < VN
          · have q5 := HU.out.cells.2.2.2.2.2.1
            have hown := HU.out.vars
            have hz1 := HU.out.oth.size
            go_wp2_with (first | (at_builtin; refine wpList_append_any elemStr _ rfl _ _ rfl Wu.heap.size _ i (List.replicate i uV) rfl (hown.alloc _) (some ⟨wr.heap.size, 0, none⟩) 1 1 [uV] rfl (source_new _ _ _) rfl (by simp [Value.oneCell', uV]) (by unfold maxLen; omega) (by omega) (by simp; omega) ?_; intro v' w2 hown2 hgrow2 hblk2; obtain ⟨va3, vc3, rfl⟩ := owns_shape' hown2; obtain ⟨p1, p2, p3⟩ := HU.out.pushVar Hub.out.2.1 ((Below.refl _ _).alloc (Nat.le_refl _) _) hgrow2 hown2; have P1 := Lib.hid p1; clear p1 hown2 hgrow2 hblk2 hown))
            go_roundw
            case rel => first | exact ⟨i + 1, _, by go_num, by omega, P1⟩ | exact ⟨i + 1, by go_num, by omega, _, P1⟩
            case measure => simp [intOf]; omega
          · have hie : i = VN := by omega
            subst hie
            go_wp2_with fail
            go_meet
            exact ⟨_, HU⟩
      case rest =>
        clear HU
        obtain ⟨vv, HU⟩ := hcut
        obtain ⟨va1, vc1, rfl⟩ := owns_shape' HU.out.vars
        obtain ⟨wn, hwn⟩ : ∃ V, V = wc := ⟨_, rfl⟩
        subst hwn
        have hold : Below V2.heap.size V2 wn := HBu.out.trans (HU.out.oth.low (by have := Hub.out; omega) HBu.out.size)
        have hTc := HTu.out.below hold
        have HTc := Lib.hid hTc
        have HLc := Lib.hid (HL0.out.below hold (Nat.le_refl _))
        have HBc := Lib.hid hold
        have y0 := HU.out.oth.cell y0 Hub.out.2.2.1
        have y1 := HU.out.oth.cell y1 Hub.out.2.2.1
        have y2 := HU.out.oth.cell y2 Hub.out.2.2.1
        have hUin : RuleIn wn ⟨hp0, ha0, hn0, hc0, T.R.pa, T.R.pc, T.R.pos, ta1, tc1, ts, ga1, gc1, ns, va1, VN, vc1, T0.K⟩ := by
          obtain ⟨a, c, h1, h2⟩ := tsts_row HU.out.tst
          cases h1
          exact ⟨hTc.rule.pos, h2, HU.out.neg.pats hold⟩
        have HUin := Lib.hid hUin
        have cN := Lib.hid (new_L T.aa T.ac T.ar wn (intsZ_of_row hTc.ars) (fun x hx => by have := hTc.arOk.2.2 x hx; omega) (by have := hTc.arOk; omega))
        obtain ⟨u0, u1, u2, u3, u4, u5, u6⟩ := HU.out.cells
        clear hold hTc hUin HL0 HU
        go_upto_region 19 with (first | (go_at_call 25; (with_reducible refine cN.out.mono ?_); rintro e w3 ⟨sb2, rfl, h2, hb3⟩; have HS2 := Lib.hid h2; have HB3c := Lib.hid hb3))
        have y1w := y1
        have y1 := on_cell hb3 y1
        clear h2 hb3 cN y0
        go_upto_block 6 with fail
        clear y1
        go_cut [] (fun w' => Hid (∃ n1, StoreL wn.heap.size n1 RN T.ar (joinedL [] T.rows.reverse) sb2 w') ∧ Hid (Below wn.heap.size wn w'))
        case first =>
          have y1 := (HB3c.out.cell (by have := HBc.out.size; have := H5.out; have := HB3.out.size; simp only; omega)).trans y1w
          go_wp2_with fail
          clear y1
          go_loopw [106] (fun t w' => ∃ (i : Nat), t = .int .i64 i ∧ i ≤ RN ∧ Hid (∃ n1, StoreL wn.heap.size n1 i T.ar (joinedL [] (T.rows.reverse.take i)) sb2 w') ∧ Hid (Below wn.heap.size wn w')) (fun t _ => RN - (intOf t).toNat)
          case atStart => exact ⟨0, rfl, Nat.zero_le _, Lib.hid ⟨_, HS2.out⟩, HB3c⟩
          case round =>
            obtain ⟨i, rfl, hiT, HS, HBw⟩ := hrel
            have y1 := (HBw.out.cell (by have := HBc.out.size; have := H5.out; have := HB3.out.size; simp only; omega)).trans y1w
            by_cases hlt : i < RN
            · obtain ⟨j, hj⟩ : ∃ j, RN = j + i + 1 := ⟨RN - 1 - i, by omega⟩
              have Hj := Lib.hid hj
              obtain ⟨r, hr⟩ : ∃ r, r = T.rows[j]'(by have := HRN.out; omega) := ⟨_, rfl⟩
              have Hr : Hid (T.rows[j]? = some r) := Lib.hid (by rw [hr]; exact List.getElem?_eq_getElem _)
              obtain ⟨br, or, hra, -, hrr⟩ : ∃ b off, T.ra = some ⟨b, off, none⟩ ∧ W0.heap.size ≤ b ∧ ∀ i (h : i < T.rows.length), wn.cell? ⟨b, off + i * 2, none⟩ = some (.int .i64 T.rows[i].1) ∧ ∃ ai ci, wn.cell? ⟨b, off + i * 2 + 1, none⟩ = some (.slice ai T.rows[i].2.length ci) ∧ IntsZ (fun j => W0.heap.size ≤ j) wn ai ci T.rows[i].2 := by
                rcases HTc.out.rows.rows.1 with h | h
                · have := HRN.out; rw [h] at this; simp at this; omega
                · exact h
              obtain ⟨c0, ai, ci, c1, hI⟩ := hrr j (by have := HRN.out; omega)
              rw [← hr] at c0 c1 hI
              clear hrr hr
              rw [hra] at y1
              clear hra
              obtain ⟨pp, xs⟩ := r
              simp only at c0 c1 hI
              have c0 := below_cell HBw.out (Nat.le_refl _) c0
              have c1 := below_cell HBw.out (Nat.le_refl _) c1
              have HII := Lib.hid hI
              have zj : (0 : Int) ≤ (j : Int) := by omega
              have zjl : (j : Int) < (RN : Int) := by omega
              have hw1 : IntKind.i64.wrap ((RN : Int) - 1) = (j : Int) + (i : Int) := by rw [IntWalk.i64_in _ (by omega)]; omega
              have hw2 : (j : Int) + (i : Int) - (i : Int) = (j : Int) := by omega
              have hw3 : IntKind.i64.wrap (j : Int) = (j : Int) := IntWalk.i64_in _ (by omega)
              have cA : Hid (Calls Try.prog 21 #[.pointer (some ⟨sb2, 0, none⟩), .slice (some ⟨wr.heap.size, 0, none⟩) 1 1] (wr.alloc (.cells #[.int .i64 pp, .slice ai xs.length ci] 50)) fun e w' => ∃ k : Int, e = .returned (.tuple #[.int .i64 k, .int .i64 0]) ∧ Hid (∃ n1, StoreL wn.heap.size n1 (i + 1) T.ar (joinedL [] (T.rows.reverse.take (i + 1))) sb2 w') ∧ Hid (Below wn.heap.size wn w')) := Lib.hid (by
                obtain ⟨n1, hS⟩ := HS.out
                have hn1 : n1 ≤ wr.heap.size := by obtain ⟨σ, τ, q1, q2, q3, q4, q5, q6⟩ := hS; exact q5.2
                have hz := HBw.out.size
                have hba : Below wr.heap.size wr (wr.alloc (.cells #[.int .i64 pp, .slice ai xs.length ci] 50)) := (Below.refl _ _).alloc (Nat.le_refl _) _
                have hmem : (pp, xs) ∈ T.rows := List.mem_of_getElem? Hr.out
                have h := add_L hS hba (some ⟨wr.heap.size, 0, none⟩) 1 [(pp, xs)] (rows_one (w := wr) (by have hI2 := HII.out.keep (w' := wr) (Z' := fun j => j < wn.heap.size) (fun j hj hz => HBw.out.block j hj) (fun j hj hz => hj); exact hI2) (fun j hj => .inl hj) (.inr hn1) (by omega)) (fun r hr => by rw [List.mem_singleton] at hr; subst hr; exact HTc.out.rowsOk.2.1 _ hmem) (by simp only [List.length_singleton]; omega)
                refine h.mono ?_
                rintro e w' ⟨k, rfl, k1, k2⟩
                refine ⟨k, rfl, Lib.hid ⟨w'.heap.size, ?_⟩, Lib.hid ?_⟩
                · rw [rev_take (Hj.out.symm.trans HRN.out) Hr.out (by rw [← HRN.out]; omega), joinedL_app]
                  exact k1
                · have hz2 := hba.size
                  exact HBw.out.trans ((hba.mono hz).trans (k2.below (Nat.le_refl _) (by omega))))
              clear HII hI HS hj
              go_upto_region 23 with (first | (go_at_call 21; (with_reducible refine cA.out.mono ?_); rintro e w5 ⟨k, rfl, HS5, HB5⟩))
              clear hw1 hw2 hw3 cA
              go_wp2_with fail
              go_roundw
              case rel => first | exact ⟨i + 1, by go_num, by omega, HS5, HB5⟩ | (trace_state; sorry)
              case measure => simp [intOf]; omega
            · have hie : i = RN := by omega
              subst hie
              have HX : Hid (∃ n1, StoreL wn.heap.size n1 i T.ar (joinedL [] T.rows.reverse) sb2 wr) := Lib.hid (by
                have := HS.out
                rwa [List.take_of_length_le (by rw [List.length_reverse, ← HRN.out]; exact Nat.le_refl _)] at this)
              go_wp2_with fail
              go_meet
              exact ⟨HX, HBw⟩
        case rest =>
          obtain ⟨HS, HBw⟩ := hcut
          have hzn : V2.heap.size ≤ wn.heap.size := HBc.out.size
          have h5n : b5 < wn.heap.size := by have := H5.out; have := HB3.out.size; omega
          have y2 := (HBw.out.cell (by simpa using h5n)).trans y2
          have hun : ub < wn.heap.size := World.block_lt_of_cell? _ _ u0
          have u0 := (HBw.out.cell (by simpa using hun)).trans u0
          have u1 := (HBw.out.cell (by simpa using hun)).trans u1
          have u2 := (HBw.out.cell (by simpa using hun)).trans u2
          have u3 := (HBw.out.cell (by simpa using hun)).trans u3
          have u4 := (HBw.out.cell (by simpa using hun)).trans u4
          have u5 := (HBw.out.cell (by simpa using hun)).trans u5
          have u6 := (HBw.out.cell (by simpa using hun)).trans u6
          have hTw := HTc.out.below HBw.out
          obtain ⟨jl, jm⟩ : (joinedL [] T.rows.reverse).length ≤ 24 ∧ ∀ r, r ∈ joinedL [] T.rows.reverse ↔ r ∈ joinedL [] T.rows := by
            refine ⟨?_, fun r => ?_⟩
            · have h1 := joinedL_length [] T.rows.reverse
              have h2 := hTw.rowsOk.1
              simp only [List.length_nil, List.length_reverse] at h1
              omega
            · rw [joinedL_mem, joinedL_mem, List.mem_reverse]
          have hids : ∀ r ∈ joinedL [] T.rows.reverse, IdsIn T.cs.length r.2 := fun r hr => hTw.joined.2 r ((jm r).1 hr)
          have hnod : (joinedL [] T.rows.reverse).Nodup := by obtain ⟨n1, hS⟩ := HS.out; exact hS.sound.1
          have hnod0 : (joinedL [] T.rows).Nodup := joinedL_nodup _
          obtain ⟨okU, hsame⟩ := turns_same (rows := joinedL [] T.rows) (rows' := joinedL [] T.rows.reverse) (cs := T.cs) (R := T.R) (U := ⟨hp0, ha0, hn0, hc0, T.R.pa, T.R.pc, T.R.pos, ta1, tc1, ts, ga1, gc1, ns, va1, VN, vc1, T0.K⟩) hTw.joined.2 hnod0 hids hnod jm hTw.ruleOk hTw.conOk.1.once rfl HTs.out HNs.out HVN.out
          have cA : Hid (Calls Try.prog 14 #[.pointer (some ⟨sb2, 0, none⟩), .slice T.ca T.cs.length T.cc, .agg #[.int .i64 hp0, .slice ha0 hn0 hc0, .slice T.R.pa T.R.pos.length T.R.pc, .slice ta1 ts.length tc1, .slice ga1 ns.length gc1, .slice va1 VN vc1, .int .i64 T0.K]] wc (AllEnd P wc)) := Lib.hid (by
            obtain ⟨n1, hS⟩ := HS.out
            have h := all_L hS (Below.refl _ _) ⟨hp0, ha0, hn0, hc0, T.R.pa, T.R.pc, T.R.pos, ta1, tc1, ts, ga1, gc1, ns, va1, VN, vc1, T0.K⟩ (HUin.out.below HBw.out (Nat.le_refl _)) T.ca T.cc T.cs hTw.con okU hTw.conOk.1 (by omega) hTw.lens.1 hids ⟨fun p hp => hTw.rng.1 p hp, fun p hp => hTw.rng.2 p (by rw [HNs.out, List.mem_reverse] at hp; exact hp)⟩
            rw [hsame, ← HP.out] at h
            exact h)
          have hPl : P.length ≤ 1000000 ∧ ∀ x ∈ P, x.length ≤ 1000000 := by
            rw [HP.out]
            refine ⟨?_, fun x hx => ?_⟩
            · unfold pre
              rw [(srtL_perm _ _ _).length_eq]
              have := res_few (rows := joinedL [] T.rows) (cs := T.cs) (R := T.R) (by have := hTw.joined.1; omega) hTw.lens.1 (condsL T.R).length
              omega
            · have h1 := ((pre_iff hTw.joined.2 hTw.ruleOk _ x).1 hx).1
              have h2 := (wid_is hTw.ruleOk (condsL T.R).length).2
              have h3 := hTw.ruleOk.vars
              omega
          have HPl := Lib.hid hPl
          have HLw := Lib.hid (HLc.out.below HBw.out (Nat.le_refl _))
          clear hzn h5n hun hTw jl jm hids hnod hnod0 okU hsame hPl
          go_upto_region 25 with (first | (go_at_call 14; (with_reducible refine cA.out.mono ?_); rintro e w6 ⟨v6, ob6, rfl, O6, hb6, -⟩; obtain ⟨va6, vc6, rfl, hL6⟩ := O6.lists; have HL6 := Lib.hid hL6; have HB6 := Lib.hid hb6; clear hL6 O6 hb6))
          clear u0 u1 u2 u3 u4 u5 u6 y2 cA
          have cS : Hid (Calls Try.prog 16 #[.slice va0 P.length vc0, .slice va6 P.length vc6] w6 fun e w' => e = .returned (.bool true) ∧ Below w6.heap.size w6 w') := Lib.hid (by
            have h := sameLists_any va0 va6 vc0 vc6 P P w6 (HLw.out.below HB6.out (Nat.le_refl _)) HL6.out HPl.out.1 HPl.out.2
            simpa using h)
          go_wp2_with (first | (go_at_call 16; (with_reducible refine cS.out.mono ?_); rintro e w7 ⟨rfl, hb7⟩) | (go_at_call 17; (with_reducible refine (taken_any _).mono ?_); rintro e w8 ⟨rfl, hb8⟩))
          go_ret
          exact ⟨rfl, below_chain (below_chain (below_chain (below_chain (below_chain (below_chain (below_chain Hb0.out HB2.out) HB3.out) HBc.out) HBw.out) HB6.out) hb7) hb8⟩
end Mt
end Go.Proofs.Ytkejjiohkhlnnaa

namespace Go.Proofs.Ytkejjiohkhlnnaa
open Go.RowKit Go.ChangeShapes Go.WideShapes
namespace Mt

theorem cellsInt : Try.prog.cellsOf 3 = 1 := by kernel_rfl
theorem cellsBool : Try.prog.cellsOf 4 = 1 := by kernel_rfl
theorem cellsSlot : Try.prog.cellsOf 58 = 2 := by kernel_rfl
theorem bytesInt : Try.prog.bytesOf 3 = 8 := by kernel_rfl
theorem bytesSlot : Try.prog.bytesOf 58 = 16 := by kernel_rfl

theorem addr_add (b o j : Nat) : (⟨b, o, none⟩ : Addr).add j = ⟨b, o + j, none⟩ := by unfold Addr.add; split <;> simp_all

section
variable {H : Type} {enc : TypeId × Value → H} {W : World} {held : Bool}

/-- a slice of integers, opened: the integers in it, that they fit, and how long its datum is -/
theorem open_intSlice {fuel : Nat} {v : Value} {x : DataW H × List MemPlace} (h : DataW.trod enc Try.prog W 0 (fun _ => true) held fuel 22 [v] = some x) :
    ∃ a c xs, v = .slice a xs.length c ∧ IntSlice W a c xs ∧ (∀ y ∈ xs, (Lit.int .i64 y).wf = true) ∧
      ((x.1 = .nil ∧ xs = []) ∨ ∃ els sp, x.1 = .slice els sp ∧ els.length = xs.length ∧ els.length + sp.length = c ∧ els = xs.map (fun y => .lit (.int .i64 y))) := by
  rcases Deep.open_slice1 Try.underlying22 cellsInt h with ⟨h1, rfl⟩ | ⟨a, len, cap, m, n, V, D, Pl, h1, _, hl, hm, hmm, rfl, hx⟩
  · simp at h1
    subst h1
    exact ⟨none, 0, [], rfl, ⟨.inl rfl, fun _ => ⟨rfl, rfl⟩⟩, by simp, .inl ⟨rfl, rfl⟩⟩
  · simp at h1 hmm
    subst h1; subst hmm
    have hi : ∀ i, i < len → ∃ y, W.cell? (a.add i) = some (.int .i64 y) ∧ D i = .lit (.int .i64 y) ∧ (Lit.int .i64 y).wf = true := by
      intro i hi
      obtain ⟨c1, c2⟩ := hx i (by omega)
      obtain ⟨y, e1, e2, e3⟩ := DataW.trod_int Try.underlying3 c2
      simp at e1
      rw [e1] at c1
      simp only [Prod.mk.injEq] at e2
      exact ⟨y, c1, e2.1, e3⟩
    obtain ⟨f, hf⟩ := Deep.choose_lt (α := Int) hi
    refine ⟨some a, m, (List.range len).map f, by simp, ⟨?_, fun h => by cases h⟩, ?_, .inr ⟨_, _, rfl, by simp, by simp; omega, ?_⟩⟩
    · rcases Nat.eq_zero_or_pos len with h0 | h0
      · exact .inl (by simp [h0])
      · obtain ⟨b, o, sp⟩ := a
        have hs : sp = none := by
          have := World.cell?_spot (hf 0 h0).1
          simpa [Addr.add] using this
        subst hs
        refine .inr ⟨b, o, rfl, fun i hi => ?_⟩
        have hi' : i < len := by simpa using hi
        have := (hf i hi').1
        rw [addr_add] at this
        simpa using this
    · intro y hy
      obtain ⟨i, hi, rfl⟩ := List.mem_map.1 hy
      exact (hf i (by simpa using hi)).2.2
    · rw [List.map_map]
      exact List.map_congr_left fun i hi => (hf i (by simpa using hi)).2.1

/-- a slice of slots, opened -/
theorem open_slotSlice {fuel : Nat} {v : Value} {x : DataW H × List MemPlace} (h : DataW.trod enc Try.prog W 0 (fun _ => true) held fuel 25 [v] = some x) :
    ∃ a c l, v = .slice a l.length c ∧ SlotSlice W a c l ∧ (∀ y ∈ l, (Lit.int .i64 y.2).wf = true) ∧
      ((x.1 = .nil ∧ l = []) ∨ ∃ els sp, x.1 = .slice els sp ∧ els.length = l.length ∧ els.length + sp.length = c) := by
  rcases Deep.open_slice Try.underlying25 h with ⟨h1, rfl⟩ | ⟨a, len, cap, m, n, D, Pl, h1, _, hl, hm, hmm, rfl, hx⟩
  · simp at h1
    subst h1
    exact ⟨none, 0, [], rfl, ⟨.inl rfl, fun _ => ⟨rfl, rfl⟩⟩, by simp, .inl ⟨rfl, rfl⟩⟩
  · simp at h1 hmm
    subst h1; subst hmm
    rw [cellsSlot] at hx
    have hi : ∀ i, i < len → ∃ s : Bool × Int, W.cell? (a.add (i * 2)) = some (.bool s.1) ∧ W.cell? (a.add (i * 2 + 1)) = some (.int .i64 s.2) ∧ (Lit.int .i64 s.2).wf = true := by
      intro i hi
      obtain ⟨cs, c1, c2⟩ := hx i (by omega)
      obtain ⟨_, hlen, hc⟩ := World.cells?_some c1
      match cs, hlen with
      | [u0, u1], _ =>
        obtain ⟨y0, y1, k, _, _, t0, t1⟩ := trod_struct2 Try.underlying58 c2
        have t0' : DataW.trod enc Try.prog W 0 (fun _ => true) held k 4 [u0] = some y0 := by simpa [cellsBool] using t0
        have t1' : DataW.trod enc Try.prog W 0 (fun _ => true) held k 3 [u1] = some y1 := by simpa [cellsInt] using t1
        obtain ⟨bv, e1, _⟩ := DataW.trod_bool Try.underlying4 t0'
        obtain ⟨nv, e2, _, e3⟩ := DataW.trod_int Try.underlying3 t1'
        simp at e1 e2
        subst e1; subst e2
        have g0 := hc 0 (by omega)
        have g1 := hc 1 (by omega)
        refine ⟨(bv, nv), ?_, ?_, e3⟩
        · simpa [Addr.add] using g0
        · rw [Deep.add_add] at g1
          simpa using g1
    obtain ⟨f, hf⟩ := Deep.choose_lt (α := Bool × Int) hi
    refine ⟨some a, m, (List.range len).map f, by simp, ⟨?_, fun h => by cases h⟩, ?_, .inr ⟨_, _, rfl, by simp, by simp; omega⟩⟩
    · rcases Nat.eq_zero_or_pos len with h0 | h0
      · exact .inl (by simp [h0])
      · obtain ⟨b, o, sp⟩ := a
        have hs : sp = none := by
          have := World.cell?_spot (hf 0 h0).1
          simpa [Addr.add] using this
        subst hs
        refine .inr ⟨b, o, rfl, fun i hi => ?_⟩
        have hi' : i < len := by simpa using hi
        obtain ⟨g0, g1, _⟩ := hf i hi'
        rw [addr_add] at g0 g1
        rw [← Nat.add_assoc] at g1
        simpa using And.intro g0 g1
    · intro y hy
      obtain ⟨i, hi, rfl⟩ := List.mem_map.1 hy
      exact (hf i (by simpa using hi)).2.2

end

theorem sized_pattern {H : Type} {ts : List TypeId} {ds : List (DataW H)} {j : Nat} {d0 : DataW H} {els sp : List (DataW H)} (hsz : (DataW.weightsEach Try.prog ts ds).all (· ≤ reachBytes) = true)
    (ht : ts[j]? = some 27) (hd : ds[j]? = some (.agg [d0, .slice els sp])) : (els.length + sp.length) * 16 ≤ 140737488351232 := by
  have := List.all_eq_true.1 hsz _ (DataW.weights_mem_each ht hd ((els.length + sp.length) * Try.prog.bytesOf 58) (by simp [DataW.weights, DataW.weightsEach, Try.underlying27, Try.underlying25]))
  rw [bytesSlot] at this
  exact of_decide_eq_true this
end Mt
end Go.Proofs.Ytkejjiohkhlnnaa

namespace Go.Proofs.Ytkejjiohkhlnnaa
open Go.RowKit Go.ChangeShapes Go.WideShapes
namespace Op

theorem one_le {H : Type} (d : DataW H) : 1 ≤ Rows.uptoBulk d := by
  cases d with
  | lit l => cases l <;> simp [Rows.uptoBulk]
  | nil => simp [Rows.uptoBulk]
  | ptr d => simp [Rows.uptoBulk]
  | slice elems spare => simp [Rows.uptoBulk]
  | agg parts => simp [Rows.uptoBulk]
  | iface t d => simp [Rows.uptoBulk]
  | map entries => simp [Rows.uptoBulk]
  | held h => simp [Rows.uptoBulk]
theorem length_le {H : Type} (l : List (DataW H)) : l.length ≤ Rows.uptoBulkAll l := by
  induction l with
  | nil => simp [Rows.uptoBulkAll]
  | cons x r ih => have := one_le x; simp only [Rows.uptoBulkAll, List.length_cons]; omega
theorem sum_le {H : Type} (n : Nat) (f : Nat → Nat) (D : Nat → DataW H) (h : ∀ i, i < n → f i ≤ Rows.uptoBulk (D i)) : ((List.range n).map f).sum ≤ Rows.uptoBulkAll ((List.range n).map D) := by
  have key : ∀ l : List Nat, (∀ i ∈ l, i < n) → (l.map f).sum ≤ Rows.uptoBulkAll (l.map D) := by
    intro l
    induction l with
    | nil => simp [Rows.uptoBulkAll]
    | cons x r ih =>
      intro hl
      have h1 := h x (hl x (by simp))
      have h2 := ih (fun i hi => hl i (List.mem_cons_of_mem _ hi))
      simp only [List.map_cons, List.sum_cons, Rows.uptoBulkAll]
      omega
  exact key _ (fun i hi => List.mem_range.1 hi)

theorem cellsInt : Try.prog.cellsOf 3 = 1 := by kernel_rfl
theorem cellsInts : Try.prog.cellsOf 22 = 1 := by kernel_rfl
theorem cellsRow : Try.prog.cellsOf 50 = 2 := by kernel_rfl
theorem cellsRows : Try.prog.cellsOf 23 = 1 := by kernel_rfl

theorem addr_add (b o j : Nat) : (⟨b, o, none⟩ : Addr).add j = ⟨b, o + j, none⟩ := by unfold Addr.add; split <;> simp_all
theorem rng_wf {y : Int} (h : (Lit.int .i64 y).wf = true) : Rng y := by
  simp [Lit.wf, IntKind.min, IntKind.max, IntKind.signed, IntKind.bits] at h
  exact ⟨by omega, by omega⟩

section
variable {H : Type} {enc : TypeId × Value → H} {W : World} {held : Bool}

theorem open_ints {fuel : Nat} {v : Value} {x : DataW H × List MemPlace} (h : DataW.trod enc Try.prog W 0 (fun _ => true) held fuel 22 [v] = some x) :
    ∃ a c xs, v = .slice a xs.length c ∧ IntsZ (fun _ => True) W a c xs ∧ (∀ y ∈ xs, Rng y) ∧ xs.length ≤ maxLen ∧ xs.length ≤ Rows.uptoBulk x.1 := by
  rcases Deep.open_slice1 Try.underlying22 cellsInt h with ⟨h1, rfl⟩ | ⟨a, len, cap, m, n, V, D, Pl, h1, _, hl, hm, hmm, rfl, hx⟩
  · simp at h1
    subst h1
    exact ⟨none, 0, [], rfl, ⟨.inl rfl, fun _ => ⟨rfl, rfl⟩⟩, by simp, by simp, by simp⟩
  · simp at h1 hmm
    subst h1; subst hmm
    have hi : ∀ i, i < len → ∃ y, W.cell? (a.add i) = some (.int .i64 y) ∧ (Lit.int .i64 y).wf = true := by
      intro i hi
      obtain ⟨c1, c2⟩ := hx i (by omega)
      obtain ⟨y, e1, e2, e3⟩ := DataW.trod_int Try.underlying3 c2
      simp at e1
      rw [e1] at c1
      exact ⟨y, c1, e3⟩
    obtain ⟨f, hf⟩ := Deep.choose_lt (α := Int) hi
    refine ⟨some a, m, (List.range len).map f, by simp, ⟨?_, fun h => by cases h⟩, ?_, by simp; omega, ?_⟩
    · rcases Nat.eq_zero_or_pos len with h0 | h0
      · exact .inl (by simp [h0])
      · obtain ⟨b, o, sp⟩ := a
        have hs : sp = none := by
          have := World.cell?_spot (hf 0 h0).1
          simpa [Addr.add] using this
        subst hs
        refine .inr ⟨b, o, rfl, trivial, fun i hi => ?_⟩
        have hi' : i < len := by simpa using hi
        have := (hf i hi').1
        rw [addr_add] at this
        simpa using this
    · intro y hy
      obtain ⟨i, hi, rfl⟩ := List.mem_map.1 hy
      exact rng_wf (hf i (by simpa using hi)).2
    · have := length_le ((List.range len).map D)
      simp only [Rows.uptoBulk, List.length_map, List.length_range] at this ⊢
      omega

theorem open_rows {fuel : Nat} {v : Value} {x : DataW H × List MemPlace} (h : DataW.trod enc Try.prog W 0 (fun _ => true) held fuel 23 [v] = some x) :
    ∃ a c l, v = .slice a l.length c ∧ RowsZ (fun _ => True) W a c l ∧ (∀ r ∈ l, RowOk r) ∧ l.length ≤ maxLen ∧ l.length ≤ Rows.uptoBulk x.1 := by
  rcases Deep.open_slice Try.underlying23 h with ⟨h1, rfl⟩ | ⟨a, len, cap, m, n, D, Pl, h1, _, hl, hm, hmm, rfl, hx⟩
  · simp at h1
    subst h1
    exact ⟨none, 0, [], rfl, ⟨.inl rfl, fun _ => ⟨rfl, rfl⟩⟩, by simp, by simp, by simp⟩
  · simp at h1 hmm
    subst h1; subst hmm
    rw [cellsRow] at hx
    have hi : ∀ i, i < len → ∃ s : Int × Option Addr × Nat × List Int, W.cell? (a.add (i * 2)) = some (.int .i64 s.1) ∧ W.cell? (a.add (i * 2 + 1)) = some (.slice s.2.1 s.2.2.2.length s.2.2.1) ∧ IntsZ (fun _ => True) W s.2.1 s.2.2.1 s.2.2.2 ∧ RowOk (s.1, s.2.2.2) := by
      intro i hi
      obtain ⟨cs, c1, c2⟩ := hx i (by omega)
      obtain ⟨_, hlen, hc⟩ := World.cells?_some c1
      match cs, hlen with
      | [u0, u1], _ =>
        obtain ⟨y0, y1, k, _, _, t0, t1⟩ := trod_struct2 Try.underlying50 c2
        have t0' : DataW.trod enc Try.prog W 0 (fun _ => true) held k 3 [u0] = some y0 := by simpa [cellsInt] using t0
        have t1' : DataW.trod enc Try.prog W 0 (fun _ => true) held k 22 [u1] = some y1 := by simpa [cellsInts] using t1
        obtain ⟨nv, e2, _, e3⟩ := DataW.trod_int Try.underlying3 t0'
        obtain ⟨ai, ci, xs, e4, hI, hR, hml, _⟩ := open_ints t1'
        simp at e2
        subst e2; subst e4
        have g0 := hc 0 (by omega)
        have g1 := hc 1 (by omega)
        refine ⟨(nv, ai, ci, xs), ?_, ?_, hI, rng_wf e3, by unfold maxLen at hml; simpa using hml, hR⟩
        · simpa [Addr.add] using g0
        · rw [Deep.add_add] at g1
          simpa using g1
    obtain ⟨f, hf⟩ := Deep.choose_lt (α := Int × Option Addr × Nat × List Int) hi
    refine ⟨some a, m, (List.range len).map (fun i => ((f i).1, (f i).2.2.2)), by simp, ⟨?_, fun h => by cases h⟩, ?_, by simp; omega, ?_⟩
    · rcases Nat.eq_zero_or_pos len with h0 | h0
      · exact .inl (by simp [h0])
      · obtain ⟨b, o, sp⟩ := a
        have hs : sp = none := by
          have := World.cell?_spot (hf 0 h0).1
          simpa [Addr.add] using this
        subst hs
        refine .inr ⟨b, o, rfl, trivial, fun i hi => ?_⟩
        have hi' : i < len := by simpa using hi
        obtain ⟨g0, g1, g2, _⟩ := hf i hi'
        rw [addr_add] at g0 g1
        rw [← Nat.add_assoc] at g1
        refine ⟨by simpa using g0, (f i).2.1, (f i).2.2.1, by simpa using g1, by simpa using g2⟩
    · intro y hy
      obtain ⟨i, hi, rfl⟩ := List.mem_map.1 hy
      exact (hf i (by simpa using hi)).2.2.2
    · have := length_le ((List.range len).map D)
      simp only [Rows.uptoBulk, List.length_map, List.length_range] at this ⊢
      omega

end
end Op
end Go.Proofs.Ytkejjiohkhlnnaa

namespace Go.Proofs.Ytkejjiohkhlnnaa
open Go.RowKit Go.ChangeShapes Go.WideShapes
namespace Ow
open Mt

theorem cellsInt64 : Try.prog.cellsOf 2 = 1 := by kernel_rfl
theorem cellsString : Try.prog.cellsOf 9 = 1 := by kernel_rfl
theorem cellsBool : Try.prog.cellsOf 4 = 1 := by kernel_rfl
theorem cellsInt : Try.prog.cellsOf 3 = 1 := by kernel_rfl
theorem cellsSlot : Try.prog.cellsOf 58 = 2 := by kernel_rfl
theorem cellsConst : Try.prog.cellsOf 65 = 3 := by kernel_rfl
theorem cellsTest : Try.prog.cellsOf 60 = 5 := by kernel_rfl
theorem cellsPat : Try.prog.cellsOf 27 = 2 := by kernel_rfl
theorem cellsRule : Try.prog.cellsOf 32 = 7 := by kernel_rfl
theorem cellsWorld : Try.prog.cellsOf 34 = 11 := by kernel_rfl
theorem cellsSlots : Try.prog.cellsOf 25 = 1 := by kernel_rfl
theorem cellsPats : Try.prog.cellsOf 28 = 1 := by kernel_rfl
theorem cellsTests : Try.prog.cellsOf 29 = 1 := by kernel_rfl
theorem cellsStrs : Try.prog.cellsOf 30 = 1 := by kernel_rfl
theorem cellsInts : Try.prog.cellsOf 22 = 1 := by kernel_rfl
theorem cellsRows : Try.prog.cellsOf 23 = 1 := by kernel_rfl
theorem cellsConsts : Try.prog.cellsOf 24 = 1 := by kernel_rfl
section
variable {H : Type} {enc : TypeId × Value → H} {W : World} {held : Bool}
/-- a slice's elements, cell by cell: a list of what each is -/
theorem open_list {α : Type} [Inhabited α] {t e : TypeId} {size : Nat} {fuel : Nat} {v : Value} {x : DataW H × List MemPlace} (ht : Try.prog.underlying t = some (.slice e)) (hs : Try.prog.cellsOf e = size) (hs1 : 1 ≤ size) (P : α → List Value → Prop) (hP : ∀ k cs y, cs.length = size → DataW.trod enc Try.prog W 0 (fun _ => true) held k e cs = some y → ∃ z, P z cs)
    (h : DataW.trod enc Try.prog W 0 (fun _ => true) held fuel t [v] = some x) :
    ∃ a c, ∃ l : List α, v = .slice a l.length c ∧ l.length ≤ maxLen ∧ (l = [] ∨ ∃ b off, a = some ⟨b, off, none⟩ ∧ ∀ (i : Nat) z, l[i]? = some z → ∃ cs, cs.length = size ∧ P z cs ∧ ∀ j u, cs[j]? = some u → W.cell? ⟨b, off + i * size + j, none⟩ = some u) := by
  rcases Deep.open_slice ht h with ⟨h1, rfl⟩ | ⟨a, len, cap, m, n, D, Pl, h1, _, hl, hm, hmm, rfl, hx⟩
  · simp at h1
    subst h1
    exact ⟨none, 0, [], rfl, Nat.zero_le _, .inl rfl⟩
  · simp at h1 hmm
    subst h1; subst hmm
    rw [hs] at hx
    have hi : ∀ i, i < len → ∃ z : α × List Value, z.2.length = size ∧ P z.1 z.2 ∧ ∀ j u, z.2[j]? = some u → W.cell? (a.add (i * size + j)) = some u := by
      intro i hi
      obtain ⟨cs, c1, c2⟩ := hx i (by omega)
      obtain ⟨_, hlen, hc⟩ := World.cells?_some c1
      obtain ⟨z, hz⟩ := hP _ _ _ hlen c2
      refine ⟨(z, cs), hlen, hz, fun j u hu => ?_⟩
      have hu : cs[j]? = some u := hu
      have hj : j < size := by have := (List.getElem?_eq_some_iff.1 hu).1; omega
      have g := hc j hj
      rw [Deep.add_add] at g
      rw [g]
      exact hu
    obtain ⟨f, hf⟩ := Deep.choose_lt (α := α × List Value) hi
    refine ⟨some a, m, (List.range len).map (fun i => (f i).1), by simp, by simp; omega, ?_⟩
    rcases Nat.eq_zero_or_pos len with h0 | h0
    · exact .inl (by simp [h0])
    · obtain ⟨b, o, sp⟩ := a
      have hsp : sp = none := by
        obtain ⟨q1, q2, q3⟩ := hf 0 h0
        have hl0 : 0 < (f 0).2.length := by omega
        have := World.cell?_spot (q3 0 _ (List.getElem?_eq_getElem hl0))
        simpa [Addr.add] using this
      subst hsp
      refine .inr ⟨b, o, rfl, fun i z hz => ?_⟩
      have hil : i < len := by simpa using (List.getElem?_eq_some_iff.1 hz).1
      obtain ⟨q1, q2, q3⟩ := hf i hil
      rw [List.getElem?_map, List.getElem?_range hil] at hz
      simp at hz
      subst hz
      refine ⟨(f i).2, q1, q2, fun j u hu => ?_⟩
      have := q3 j u hu
      rw [addr_add, ← Nat.add_assoc] at this
      exact this
set_option maxRecDepth 100000 in
theorem read_slot {k : Nat} {cs : List Value} {y : DataW H × List MemPlace} (hl : cs.length = 2) (h : DataW.trod enc Try.prog W 0 (fun _ => true) held k 58 cs = some y) : ∃ s : Sl, cs = [.bool s.1, .int .i64 s.2] := by
  match cs, hl with
  | [u0, u1], _ =>
    obtain ⟨y0, y1, n, _, _, t0, t1⟩ := trod_struct2 Try.underlying58 h
    have t0' : DataW.trod enc Try.prog W 0 (fun _ => true) held n 4 [u0] = some y0 := by simpa [cellsBool] using t0
    have t1' : DataW.trod enc Try.prog W 0 (fun _ => true) held n 3 [u1] = some y1 := by simpa [cellsInt] using t1
    obtain ⟨bv, e1, _⟩ := DataW.trod_bool Try.underlying4 t0'
    obtain ⟨nv, e2, _, e3⟩ := DataW.trod_int Try.underlying3 t1'
    simp at e1 e2
    subst e1; subst e2
    exact ⟨(bv, nv), rfl⟩
theorem open_slots {fuel : Nat} {v : Value} {x : DataW H × List MemPlace} (h : DataW.trod enc Try.prog W 0 (fun _ => true) held fuel 25 [v] = some x) : ∃ a c l, v = .slice a l.length c ∧ Slots W a l ∧ l.length ≤ maxLen := by
  obtain ⟨a, c, l, h1, h2, h3⟩ := open_list (α := Sl) Try.underlying25 cellsSlot (by omega) (fun s cs => cs = [.bool s.1, .int .i64 s.2]) (fun k cs y hl hy => read_slot hl hy) h
  refine ⟨a, c, l, h1, ?_, h2⟩
  rcases h3 with h3 | ⟨b, off, e, hc⟩
  · exact .inl h3
  · refine .inr ⟨b, off, e, fun i hi => ?_⟩
    obtain ⟨cs, _, rfl, q⟩ := hc i _ (List.getElem?_eq_getElem hi)
    exact ⟨q 0 _ rfl, q 1 _ rfl⟩
set_option maxRecDepth 100000 in
theorem read_const {k : Nat} {cs : List Value} {y : DataW H × List MemPlace} (hl : cs.length = 3) (h : DataW.trod enc Try.prog W 0 (fun _ => true) held k 65 cs = some y) : ∃ c : C3, cs = [.int .i64 c.1, .int .i64 c.2.1, .string c.2.2] ∧ C3Ok c := by
  match cs, hl with
  | [u0, u1, u2], _ =>
    obtain ⟨y0, y1, y2, n, _, _, t0, t1, t2⟩ := Deep.trod_struct3 Try.underlying65 h
    have t0' : DataW.trod enc Try.prog W 0 (fun _ => true) held n 3 [u0] = some y0 := by simpa [cellsInt] using t0
    have t1' : DataW.trod enc Try.prog W 0 (fun _ => true) held n 2 [u1] = some y1 := by simpa [cellsInt64] using t1
    have t2' : DataW.trod enc Try.prog W 0 (fun _ => true) held n 9 [u2] = some y2 := by simpa [cellsString] using t2
    obtain ⟨kv, e0, _, w0⟩ := DataW.trod_int Try.underlying3 t0'
    obtain ⟨nv, e1, _, w1⟩ := DataW.trod_int Try.underlying2 t1'
    obtain ⟨sv, e2, _, w2⟩ := DataW.trod_string Try.underlying9 t2'
    simp at e0 e1 e2
    subst e0; subst e1; subst e2
    exact ⟨(kv, nv, sv), rfl, Op.rng_wf w0, Op.rng_wf w1, by unfold maxLen; exact w2⟩
theorem open_consts {fuel : Nat} {v : Value} {x : DataW H × List MemPlace} (h : DataW.trod enc Try.prog W 0 (fun _ => true) held fuel 24 [v] = some x) : ∃ a c l, v = .slice a l.length c ∧ Consts W a l ∧ (∀ z ∈ l, C3Ok z) ∧ l.length ≤ maxLen := by
  obtain ⟨a, c, l, h1, h2, h3⟩ := open_list (α := C3) Try.underlying24 cellsConst (by omega) (fun s cs => cs = [.int .i64 s.1, .int .i64 s.2.1, .string s.2.2] ∧ C3Ok s) (fun k cs y hl hy => read_const hl hy) h
  refine ⟨a, c, l, h1, ?_, ?_, h2⟩
  · rcases h3 with h3 | ⟨b, off, e, hc⟩
    · exact .inl h3
    · refine .inr ⟨b, off, e, fun i hi => ?_⟩
      obtain ⟨cs, _, ⟨rfl, _⟩, q⟩ := hc i _ (List.getElem?_eq_getElem hi)
      exact ⟨q 0 _ rfl, q 1 _ rfl, q 2 _ rfl⟩
  · intro z hz
    rcases h3 with h3 | ⟨b, off, e, hc⟩
    · rw [h3] at hz; cases hz
    · obtain ⟨i, hi⟩ := List.mem_iff_getElem?.1 hz
      obtain ⟨cs, _, ⟨_, q⟩, _⟩ := hc i z hi
      exact q
set_option maxRecDepth 100000 in
theorem read_pat {k : Nat} {cs : List Value} {y : DataW H × List MemPlace} (hl : cs.length = 2) (h : DataW.trod enc Try.prog W 0 (fun _ => true) held k 27 cs = some y) : ∃ p : Pat, ∃ a c, cs = [.int .i64 p.1, .slice a p.2.length c] ∧ Slots W a p.2 ∧ p.2.length ≤ maxLen := by
  match cs, hl with
  | [u0, u1], _ =>
    obtain ⟨y0, y1, n, _, _, t0, t1⟩ := trod_struct2 Try.underlying27 h
    have t0' : DataW.trod enc Try.prog W 0 (fun _ => true) held n 3 [u0] = some y0 := by simpa [cellsInt] using t0
    have t1' : DataW.trod enc Try.prog W 0 (fun _ => true) held n 25 [u1] = some y1 := by simpa [cellsSlots] using t1
    obtain ⟨nv, e0, _, _⟩ := DataW.trod_int Try.underlying3 t0'
    obtain ⟨a, c, l, rfl, q1, q2⟩ := open_slots t1'
    simp at e0
    subst e0
    exact ⟨(nv, l), a, c, rfl, q1, q2⟩
theorem open_pats {fuel : Nat} {v : Value} {x : DataW H × List MemPlace} (h : DataW.trod enc Try.prog W 0 (fun _ => true) held fuel 28 [v] = some x) : ∃ a c l, v = .slice a l.length c ∧ Pats W a l := by
  obtain ⟨a, c, l, h1, h2, h3⟩ := open_list (α := Pat) Try.underlying28 cellsPat (by omega) (fun p cs => ∃ a c, cs = [.int .i64 p.1, .slice a p.2.length c] ∧ Slots W a p.2 ∧ p.2.length ≤ maxLen) (fun k cs y hl hy => read_pat hl hy) h
  refine ⟨a, c, l, h1, ?_⟩
  rcases h3 with h3 | ⟨b, off, e, hc⟩
  · exact .inl h3
  · refine .inr ⟨b, off, e, fun i p hp => ?_⟩
    obtain ⟨cs, _, ⟨sa, sc, rfl, hs, _⟩, q⟩ := hc i p hp
    exact ⟨q 0 _ rfl, sa, sc, q 1 _ rfl, hs⟩
set_option maxRecDepth 100000 in
theorem read_test {k : Nat} {cs : List Value} {y : DataW H × List MemPlace} (hl : cs.length = 5) (h : DataW.trod enc Try.prog W 0 (fun _ => true) held k 60 cs = some y) : ∃ t : Tst, cs = [.int .i64 t.1, .bool t.2.1.1, .int .i64 t.2.1.2, .bool t.2.2.1, .int .i64 t.2.2.2] := by
  match cs, hl with
  | [u0, u1, u2, u3, u4], _ =>
    obtain ⟨y0, y1, y2, n, _, _, t0, t1, t2⟩ := Deep.trod_struct3 Try.underlying60 h
    have t0' : DataW.trod enc Try.prog W 0 (fun _ => true) held n 3 [u0] = some y0 := by simpa [cellsInt] using t0
    have t1' : DataW.trod enc Try.prog W 0 (fun _ => true) held n 58 [u1, u2] = some y1 := by simpa [cellsInt, cellsSlot] using t1
    have t2' : DataW.trod enc Try.prog W 0 (fun _ => true) held n 58 [u3, u4] = some y2 := by simpa [cellsInt, cellsSlot] using t2
    obtain ⟨op, e0, _, _⟩ := DataW.trod_int Try.underlying3 t0'
    obtain ⟨s1, e1⟩ := read_slot (by rfl) t1'
    obtain ⟨s2, e2⟩ := read_slot (by rfl) t2'
    simp at e0 e1 e2
    obtain ⟨rfl, rfl⟩ := e1
    obtain ⟨rfl, rfl⟩ := e2
    subst e0
    exact ⟨(op, s1, s2), rfl⟩
theorem open_tests {fuel : Nat} {v : Value} {x : DataW H × List MemPlace} (h : DataW.trod enc Try.prog W 0 (fun _ => true) held fuel 29 [v] = some x) : ∃ a c l, v = .slice a l.length c ∧ Tsts W a l := by
  obtain ⟨a, c, l, h1, h2, h3⟩ := open_list (α := Tst) Try.underlying29 cellsTest (by omega) (fun t cs => cs = [.int .i64 t.1, .bool t.2.1.1, .int .i64 t.2.1.2, .bool t.2.2.1, .int .i64 t.2.2.2]) (fun k cs y hl hy => read_test hl hy) h
  refine ⟨a, c, l, h1, ?_⟩
  rcases h3 with h3 | ⟨b, off, e, hc⟩
  · exact .inl h3
  · refine .inr ⟨b, off, e, fun i p hp => ?_⟩
    obtain ⟨cs, _, rfl, q⟩ := hc i p hp
    exact ⟨q 0 _ rfl, q 1 _ rfl, q 2 _ rfl, q 3 _ rfl, q 4 _ rfl⟩
theorem open_strs {fuel : Nat} {v : Value} {x : DataW H × List MemPlace} (h : DataW.trod enc Try.prog W 0 (fun _ => true) held fuel 30 [v] = some x) : ∃ a n c, v = .slice a n c := by
  rcases Deep.open_slice Try.underlying30 h with ⟨h1, rfl⟩ | ⟨a, len, cap, m, n, D, Pl, h1, _⟩
  · simp at h1; exact ⟨none, 0, 0, h1⟩
  · simp at h1; exact ⟨_, _, _, h1⟩
set_option maxRecDepth 100000 in
/-- a rule's cells, read; its head's slots too -/
theorem read_rule {k : Nat} {cs : List Value} {y : DataW H × List MemPlace} (hl : cs.length = 7) (h : DataW.trod enc Try.prog W 0 (fun _ => true) held k 32 cs = some y) : ∃ (R : RuleV) (hs : List Sl), cs = R.cells.toList ∧ RuleIn W R ∧ R.hn = hs.length ∧ Slots W R.ha hs ∧ hs.length ≤ maxLen := by
  match cs, hl with
  | [u0, u1, u2, u3, u4, u5, u6], _ =>
    obtain ⟨xs, n, _, hD, hl7, hlx, hf⟩ := DataW.trod_struct Try.underlying32 h
    match xs, hlx with
    | [y0, y1, y2, y3, y4, y5], _ =>
      have t0 := hf 0 _ rfl
      have t1 := hf 1 _ rfl
      have t2 := hf 2 _ rfl
      have t3 := hf 3 _ rfl
      have t4 := hf 4 _ rfl
      have t5 := hf 5 _ rfl
      simp [cellsPat, cellsPats, cellsTests, cellsStrs, cellsInt] at t0 t1 t2 t3 t4 t5
      obtain ⟨hd, ha, hc, e0, hS, hm⟩ := read_pat (by rfl) t0
      obtain ⟨pa, pc, pos, rfl, hP⟩ := open_pats t1
      obtain ⟨ta, tc, ts, rfl, hT⟩ := open_tests t2
      obtain ⟨na, nc, ns, rfl, hN⟩ := open_pats t3
      obtain ⟨va, nv, vc, rfl⟩ := open_strs t4
      obtain ⟨cl, e5, _, _⟩ := DataW.trod_int Try.underlying3 t5
      simp at e0 e5
      obtain ⟨rfl, rfl⟩ := e0
      subst e5
      exact ⟨⟨hd.1, ha, hd.2.length, hc, pa, pc, pos, ta, tc, ts, na, nc, ns, va, nv, vc, cl⟩, hd.2, rfl, ⟨hP, hT, hN⟩, rfl, hS, hm⟩
set_option maxRecDepth 100000 in
/-- a world that is handed in -/
theorem open_world {r : Reach} {b0 : Nat} {v : Value} {d : DataW H} {p : List MemPlace} (hv : Value.okWide Try.prog W r b0 34 v) (h : DataW.Trod enc Try.prog W 0 (fun _ => true) held 34 v d p) :
    ∃ (T : WorldV) (hs : List Sl), v = .agg T.cells ∧ WorldIn W T ∧ T.R.hn = hs.length ∧ Slots W T.R.ha hs ∧ hs.length ≤ maxLen ∧ (∀ x ∈ T.ar, Rng x) := by
  obtain ⟨cs, rfl, hsz⟩ := okWide_struct Try.underlying34 hv
  rw [cellsWorld] at hsz
  obtain ⟨cs⟩ := cs
  match cs, hsz with
  | [u0, u1, u2, u3, u4, u5, u6, u7, u8, u9, u10], _ =>
    obtain ⟨fuel, hf⟩ := h
    obtain ⟨xs, n, _, hD, hl5, hlx, hf⟩ := DataW.trod_struct Try.underlying34 hf
    match xs, hlx with
    | [y0, y1, y2, y3, y4], _ =>
      have t0 := hf 0 _ rfl
      have t1 := hf 1 _ rfl
      have t2 := hf 2 _ rfl
      have t3 := hf 3 _ rfl
      have t4 := hf 4 _ rfl
      simp [Value.cells, cellsInts, cellsRows, cellsConsts, cellsRule, cellsInt] at t0 t1 t2 t3 t4
      obtain ⟨aa, ac, ar, rfl, hA, hAr, _, _⟩ := Op.open_ints t0
      obtain ⟨ra, rc, rows, rfl, hR, _, _, _⟩ := Op.open_rows t1
      obtain ⟨ca, cc, cs, rfl, hC, hCo, hCm⟩ := open_consts t2
      obtain ⟨R, hs, e3, hRu, hh, hSl, hm⟩ := read_rule (by rfl) t3
      obtain ⟨K, e4, _, _⟩ := DataW.trod_int Try.underlying3 t4
      simp at e4
      subst e4
      simp [RuleV.cells] at e3
      obtain ⟨rfl, rfl, rfl, rfl, rfl, rfl, rfl⟩ := e3
      exact ⟨⟨aa, ac, ar, ra, rc, rows, ca, cc, cs, R, K⟩, hs, rfl, ⟨hA.ints, hR, hC, hCo, hRu, hCm⟩, hh, hSl, hm, hAr⟩
set_option maxRecDepth 100000 in
/-- a pattern that is handed in -/
theorem open_pattern {r : Reach} {b0 : Nat} {v : Value} {d : DataW H} {p : List MemPlace} (hv : Value.okWide Try.prog W r b0 27 v) (h : DataW.Trod enc Try.prog W 0 (fun _ => true) held 27 v d p) :
    ∃ (q : Pat) (a : Option Addr) (c : Nat), v = .agg #[.int .i64 q.1, .slice a q.2.length c] := by
  obtain ⟨cs, rfl, hsz⟩ := okWide_struct Try.underlying27 hv
  rw [cellsPat] at hsz
  obtain ⟨cs⟩ := cs
  obtain ⟨fuel, hf⟩ := h
  obtain ⟨q, a, c, e, _, _⟩ := read_pat (by simpa using hsz) (by simpa [Value.cells] using hf)
  exact ⟨q, a, c, by rw [e]⟩
end
end Ow
end Go.Proofs.Ytkejjiohkhlnnaa

namespace Go.Proofs.Ytkejjiohkhlnnaa.matchTurnsLaw
open Go.ChangeShapes Go.WideShapes Go.ChangeAt Go.RowKit Go.Joins
open Go.ChangeMaps (open_string shut_string)

theorem own : ownKnob Try.prog.godebug = none := by kernel_rfl
theorem laidOut : laidOutB Try.prog = true := by kernel_rfl

set_option maxRecDepth 100000 in
theorem lifted (os : Os) (started : os.Started) (H : Type) (enc : TypeId × Value → H) :
    ReturnsInHanded {} Try.checked os 6 .any (Rows.matchTurnsSpec.pre6 enc Try.prog Try.f6 Rows.matchTurnsRow.domain false) (Rows.matchTurnsSpec.post enc Try.prog Try.f6 false true false false) := by
  refine returnsInHanded_of_change_sized (C := Try.checked) own started (by kernel_rfl) Try.func6
    (ChangeSpec.witness6 (enc := enc) (C := Try.checked) false ⟨#[], #[.agg #[.slice none 0 0, .slice none 0 0, .slice none 0 0, .int .i64 0, .slice none 0 0, .slice none 0 0, .slice none 0 0, .slice none 0 0, .slice none 0 0, .int .i64 0, .int .i64 0], .agg #[.int .i64 0, .slice none 0 0]], []⟩ 8 (by kernel_rfl) (by kernel_rfl) (by kernel_rfl) (by kernel_rfl)) ?_
  intro W base args ds gs before hval0 hW _ hsz0 _
  have hsz : (DataW.weightsEach Try.prog (Try.f6.params.toList ++ Rows.matchTurnsSpec.plain.varTypes Try.prog) (ds ++ gs)).all (· ≤ reachBytes) = true := hsz0
  clear hsz0
  have hval : ∀ (j : Nat) t v, Try.f6.params[j]? = some t → args[j]? = some v → Value.okWide Try.prog W .any base t v := hval0
  have hW' := hW
  obtain ⟨p, q, hA0, hV, rfl, hfz, hnd⟩ := hW
  have hA : DataW.TrodAll enc Try.prog W 0 (fun _ => true) true Try.f6.params.toList args.toList ds p := hA0
  rw [Try.params6] at hA hval hsz
  obtain ⟨v0, vs0, d0, ds0, p0, q0, hargs, rfl, rfl, h0, r0⟩ := trodAll_cons hA
  obtain ⟨v1, vs1, d1, ds1, p1, q1, rfl, rfl, rfl, h1, r1⟩ := trodAll_cons r0
  obtain ⟨rfl, rfl, rfl⟩ := trodAll_nil r1
  obtain rfl : args = #[v0, v1] := by cases args; simp_all
  obtain ⟨rfl, rfl⟩ := trodVars_none hV
  have k0 := h0
  have lt0 : ∀ x ∈ p0, x.block < W.heap.size := by obtain ⟨m, hm⟩ := k0; exact DataW.trod_lt m _ _ _ hm
  have k1 := h1
  have lt1 : ∀ x ∈ p1, x.block < W.heap.size := by obtain ⟨m, hm⟩ := k1; exact DataW.trod_lt m _ _ _ hm
  obtain ⟨T0, hd0, rfl, I0, dn0, ds0', dm0, ra0⟩ := Ow.open_world (hval 0 34 v0 rfl rfl) h0
  obtain ⟨q1', a1, cp1, rfl⟩ := Ow.open_pattern (hval 1 27 v1 rfl rfl) h1
  clear hA0 hval0
  simp only [List.append_nil] at hW'
  refine (Mt.matchTurns_any T0 q1'.1 a1 q1'.2.length cp1 W I0).mono fun e W' ⟨he, bel⟩ => ?_
  subst he
  exact ⟨_, rfl, _, _, _, [], _, [], hW', trodAll_mk1 (shut_bool Try.underlying4 _), (trodAll_cons_mk (Below.trod laidOut (by kernel_rfl) (of_decide_eq_true (by kernel_rfl)) k0 bel lt0) (trodAll_cons_mk (Below.trod laidOut (by kernel_rfl) (of_decide_eq_true (by kernel_rfl)) k1 bel lt1) trodAll_mk0)), rfl, bel.frame _, fun h => by cases h⟩

theorem proved : Rows.MatchTurnsSaid :=
  OpenClaim.holds_of_wide 6 Try.f6 rfl rfl rfl rfl rfl rfl rfl ⟨rfl, rfl, rfl, rfl, rfl⟩ rfl rfl rfl rfl rfl (by kernel_rfl) Try.func6 (by kernel_rfl)
    (of_decide_eq_true (by kernel_rfl)) (by unfold Func.isWrapper; first | (rw [if_pos (by decide +kernel)]; kernel_rfl) | (rw [if_neg (by decide +kernel)]; exact ⟨rfl, rfl⟩))
    (fun os started H enc _ => lifted os started H enc)
#print axioms proved
end Go.Proofs.Ytkejjiohkhlnnaa.matchTurnsLaw
