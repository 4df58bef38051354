/-
  Match: several of its texts in one.
-/
import Derived.Test.YtkejjiohkhlnnaaZ2
import Derived.Test.YtkejjiohkhlnnaaSNew
import Derived.Test.YtkejjiohkhlnnaaSAdd
namespace Go.Proofs.Ytkejjiohkhlnnaa
open Go.RowKit
namespace Mt

/-- what Prefix and All leave -/
def AllEnd (srt : List (List Int)) (w : World) (e : Ending) (w' : World) : Prop :=
  ∃ v ob, e = .returned (.tuple #[v, .int .i64 0]) ∧ OutV ob v srt w' ∧ Below w.heap.size w w' ∧ w.heap.size ≤ ob
theorem owns_none (w : World) (base : Nat) (e : TypeId) : w.ownsRow base e 1 (.slice none 0 0) 0 [] := ⟨rfl, .inl ⟨rfl, rfl⟩⟩
theorem seven {W W' : World} {x0 x1 x2 x3 x4 x5 x6 : Value} {T : TypeId} (hb : Below (W.alloc (.cells #[x0, x1, x2, x3, x4, x5, x6] T)).heap.size (W.alloc (.cells #[x0, x1, x2, x3, x4, x5, x6] T)) W') :
    W'.cell? ⟨W.heap.size, 0, none⟩ = some x0 ∧ W'.cell? ⟨W.heap.size, 1, none⟩ = some x1 ∧ W'.cell? ⟨W.heap.size, 2, none⟩ = some x2 ∧ W'.cell? ⟨W.heap.size, 3, none⟩ = some x3 ∧ W'.cell? ⟨W.heap.size, 4, none⟩ = some x4 ∧ W'.cell? ⟨W.heap.size, 5, none⟩ = some x5 ∧ W'.cell? ⟨W.heap.size, 6, none⟩ = some x6 := by
  refine ⟨on_cell hb (by simp), on_cell hb (by simp), on_cell hb (by simp), on_cell hb (by simp), on_cell hb (by simp), on_cell hb (by simp), on_cell hb (by simp)⟩
theorem prefix_old {B : World} {T : TypeId} {o2 : Obj} {w5 : World} {n : Nat} (hG : Grew B.heap.size ((B.alloc (.cells #[.slice none 0 0] T)).alloc o2) w5) (hn : n ≤ B.heap.size) : Below n B w5 := by
  have hb : ((B.alloc (.cells #[.slice none 0 0] T)).alloc o2).heap[B.heap.size]? = some (.cells #[.slice none 0 0] T (0, 0)) := (Below.heap_alloc _ _ _ (by simp)).trans (World.alloc_heap_new B _)
  have hg : GOf B.heap.size ((B.alloc (.cells #[.slice none 0 0] T)).alloc o2) = none := by simp [GOf, World.cell?, hb, Value.ownBlock]
  exact ((((Below.refl _ _).alloc (Nat.le_refl _) _).alloc (by simp) _).trans (hG.old (by simp; omega) (fun g e => by rw [hg] at e; cases e))).mono hn
set_option linter.unusedSimpArgs false in
set_option maxHeartbeats 8000000 in
set_option maxRecDepth 100000 in
theorem prefix_any {s sb : Nat} {σ : St} {h : Hd} {τ : Own} {w : World} (hs : StoreAt s sb σ h τ w) (R : RuleV) (hr : RuleIn w R) (ca : Option Addr) (cc : Nat) (cs : List C3) (hc : Consts w ca cs) (ok : RuleOk R cs.length) (cok : ConstsOk cs) (hrows : σ.rows.length ≤ 1000000) (hall : ∀ r ∈ σ.rows, ∀ x ∈ r.2, x < cs.length)
    (hpr : (∀ p ∈ R.pos, Rng p.1) ∧ ∀ p ∈ R.neg, Rng p.1) (k : Nat) (hk : k ≤ (condsL R).length) (res srt : List (List Int)) (hres : res = resL σ.rows cs ((condsL R).take k) [])
    (hgo : ∀ D : SrchD, D.σ = σ → D.R = R → D.cs = cs → D.last = k → SrchIn D → Goes D 0 ((condsL R).take k)) (hlen : res.length + 1 ≤ 1000000)
    (hsort : ∀ (ob : Nat) (v : Value) (V : World), OutV ob v res V → Below w.heap.size w V → w.heap.size ≤ ob → Calls Try.prog 50 #[.slice ca cs.length cc, v] V (SubsEnd ob v srt V)) :
    Calls Try.prog 15 #[.pointer (some ⟨sb, 0, none⟩), .slice ca cs.length cc, .agg R.cells, .int .i64 k] w (AllEnd srt w) := by
  have hcl : (condsL R).length = R.pos.length + R.tests.length + R.neg.length := by simp [condsL]; omega
  have hk2 : k ≤ R.pos.length + R.tests.length + R.neg.length := by omega
  have cC := fun W => Lib.hid (conditions_any R W ok.conds)
  have cR := fun W (hb : Below w.heap.size w W) => Lib.hid (fitRule_any R cs.length W ok (hr.below hb (Nat.le_refl _)))
  have cK := fun W (hb : Below w.heap.size w W) => Lib.hid (fitConsts_any ca cc cs W (hc.below hb (Nat.le_refl _)) cok)
  have cF := fun W (hb : Below w.heap.size w W) => Lib.hid (fitStore_any (hs.below hb) cs.length (by omega) hall)
  have cD := fun (B : World) (hB : Below w.heap.size w B) =>
    Lib.hid (show Calls Try.prog 49 #[.pointer (some ⟨B.heap.size + 1, 0, none⟩), .int .i64 0, .slice none 0 0] ((B.alloc (.cells #[.slice none 0 0] 38)).alloc (.cells (srchCells sb B.heap.size ca cs.length cc R k) 96)) (DownEnd B.heap.size [] res ((B.alloc (.cells #[.slice none 0 0] 38)).alloc (.cells (srchCells sb B.heap.size ca cs.length cc R k) 96))) from by
      obtain ⟨ob, hob⟩ : ∃ ob, ob = B.heap.size := ⟨_, rfl⟩
      obtain ⟨qb, hqb⟩ : ∃ qb, qb = B.heap.size + 1 := ⟨_, rfl⟩
      rw [← hqb, ← hob]
      obtain ⟨W, hW⟩ : ∃ W, W = (B.alloc (.cells #[.slice none 0 0] 38)).alloc (.cells (srchCells sb ob ca cs.length cc R k) 96) := ⟨_, rfl⟩
      rw [← hW]
      have hlo : B.heap.size ≤ ob := by omega
      have hold : Below B.heap.size B W := by rw [hW]; exact ((Below.refl _ _).alloc (Nat.le_refl _) _).alloc (by simp) _
      have hq : W.heap[qb]? = some (.cells (srchCells sb ob ca cs.length cc R k) 96 (0, 0)) := by rw [hW, hqb]; have := World.alloc_heap_new (B.alloc (.cells #[.slice none 0 0] 38)) (.cells (srchCells sb ob ca cs.length cc R k) 96); rwa [World.size_alloc] at this
      have hqo : qb ≠ ob := by omega
      have hbox : W.heap[ob]? = some (.cells #[.slice none 0 0] 38 (0, 0)) := by rw [hW, hob]; exact (Below.heap_alloc _ _ _ (by simp)).trans (World.alloc_heap_new B _)
      have O : OutV ob (.slice none 0 0) [] W := ⟨hbox, [], owns_none _ _ _, fun i xs hx => by simp at hx, fun i j u u' _ hi => by simp at hi⟩
      obtain ⟨D, hD⟩ : ∃ D : SrchD, D = ⟨B, ob, qb, s, sb, σ, h, τ, R, ca, cc, cs, k⟩ := ⟨_, rfl⟩
      have I : SrchIn D := by
        rw [hD]
        exact ⟨hs.below hB, hr.below hB (Nat.le_refl _), hc.below hB (Nat.le_refl _), ok, cok, hrows, hpr, hk⟩
      have hg := hgo D (by rw [hD]) (by rw [hD]) (by rw [hD]) (by rw [hD]) I
      have A : SrchAt D W := by
        rw [hD]
        exact ⟨hold, hlo, hq, hqo, by rw [O.gof]; simp [Value.ownBlock]⟩
      have := hg W none 0 [] (.slice none 0 0) [] A (by rw [hD]; exact O) (.inl rfl) (fun _ => rfl) (by simp) (by simp) (by rw [hD]; rw [← hres]; simpa using hlen)
      rw [hD] at this
      rw [hres]
      exact this)
  have cS := fun (ob : Nat) (v : Value) (V : World) (O : OutV ob v res V) (hb : Below w.heap.size w V) (ho : w.heap.size ≤ ob) => Lib.hid (hsort ob v V O hb ho)
  have d1 : decide (((R.pos.length + R.tests.length + R.neg.length : Nat) : Int) < (k : Int)) = false := by simp; omega
  have d0 : decide ((k : Int) < 0) = false := by simp
  clear hs hr hc ok cok hall hpr hgo hsort hk hcl hres
  obtain ⟨N, hN⟩ : ∃ N, N = cs.length := ⟨_, rfl⟩
  rw [← hN] at cR cK cF cD cS ⊢
  clear hN
  unfold RuleV.cells srchCells at *
  generalize R.pos.length = P at *
  generalize R.tests.length = T at *
  generalize R.neg.length = G at *
  go_enter Try.func15, Try.ntmps15
  go_upto_region 7 with (first
    | (go_at_call 44; (with_reducible refine (cC _).out.mono ?_); rintro e w1 ⟨rfl, hb1⟩; obtain ⟨f0, f1, f2, f3, f4, f5, f6⟩ := seven hb1; have hB1 : Below w.heap.size w w1 := ((Below.refl _ _).alloc (Nat.le_refl _) _).trans (hb1.mono (by simp)); clear hb1)
    | (go_at_call 45; (with_reducible refine (cR _ hB1).out.mono ?_); rintro e w2 ⟨rfl, hb2⟩; replace f0 := on_cell hb2 f0; replace f1 := on_cell hb2 f1; replace f2 := on_cell hb2 f2; replace f3 := on_cell hb2 f3; replace f4 := on_cell hb2 f4; replace f5 := on_cell hb2 f5; replace f6 := on_cell hb2 f6; have hB2 : Below w.heap.size w w2 := hB1.trans (hb2.mono hB1.size); clear hb2)
    | (go_at_call 46; (with_reducible refine (cK _ hB2).out.mono ?_); rintro e w3 ⟨rfl, hb3⟩; replace f0 := on_cell hb3 f0; replace f1 := on_cell hb3 f1; replace f2 := on_cell hb3 f2; replace f3 := on_cell hb3 f3; replace f4 := on_cell hb3 f4; replace f5 := on_cell hb3 f5; replace f6 := on_cell hb3 f6; have hB3 : Below w.heap.size w w3 := hB2.trans (hb3.mono hB2.size); clear hb3)
    | (go_at_call 47; (with_reducible refine (cF _ hB3).out.mono ?_); rintro e w4 ⟨rfl, hb4⟩; replace f0 := on_cell hb4 f0; replace f1 := on_cell hb4 f1; replace f2 := on_cell hb4 f2; replace f3 := on_cell hb4 f3; replace f4 := on_cell hb4 f4; replace f5 := on_cell hb4 f5; replace f6 := on_cell hb4 f6; have hB4 : Below w.heap.size w w4 := hB3.trans (hb4.mono hB3.size); clear hb4 cC cR cK cF hB1 hB2 hB3))
  have hA : Below w4.heap.size w4 (w4.alloc (.cells #[.slice none 0 0] 38)) := (Below.refl _ _).alloc (Nat.le_refl _) _
  replace f0 := on_cell hA f0
  replace f1 := on_cell hA f1
  replace f2 := on_cell hA f2
  replace f3 := on_cell hA f3
  replace f4 := on_cell hA f4
  replace f5 := on_cell hA f5
  replace f6 := on_cell hA f6
  go_wp2_with fail
  refine (cD w4 hB4).out.mono ?_
  rintro e w5 ⟨rfl, hG, v, O5⟩
  have hB5 : Below w.heap.size w w5 := hB4.trans (prefix_old hG hB4.size)
  obtain ⟨x5, y5⟩ := O5.cell
  go_wp2_with fail
  refine (cS _ _ _ O5 hB5 hB4.size).out.mono ?_
  rintro e w6 ⟨rfl, O6, hb6⟩
  obtain ⟨x6, y6⟩ := O6.cell
  clear x5 y5
  go_wp2_with fail
  go_ret2
  refine ⟨v, w4.heap.size, rfl, O6, ?_, hB4.size⟩
  exact hB5.trans (hb6.mono hB4.size)
end Mt
end Go.Proofs.Ytkejjiohkhlnnaa

namespace Go.Proofs.Ytkejjiohkhlnnaa
open Go.RowKit
namespace Mt

set_option linter.unusedSimpArgs false in
set_option maxHeartbeats 8000000 in
set_option maxRecDepth 100000 in
theorem all_any {s sb : Nat} {σ : St} {h : Hd} {τ : Own} {w : World} (hs : StoreAt s sb σ h τ w) (R : RuleV) (hr : RuleIn w R) (ca : Option Addr) (cc : Nat) (cs : List C3) (hc : Consts w ca cs) (ok : RuleOk R cs.length) (cok : ConstsOk cs) (hrows : σ.rows.length ≤ 1000000) (hall : ∀ r ∈ σ.rows, ∀ x ∈ r.2, x < cs.length)
    (hpr : (∀ p ∈ R.pos, Rng p.1) ∧ ∀ p ∈ R.neg, Rng p.1) (res srt : List (List Int)) (hres : res = resL σ.rows cs (condsL R) [])
    (hgo : ∀ D : SrchD, D.σ = σ → D.R = R → D.cs = cs → D.last = (condsL R).length → SrchIn D → Goes D 0 (condsL R)) (hlen : res.length + 1 ≤ 1000000)
    (hsort : ∀ (ob : Nat) (v : Value) (V : World), OutV ob v res V → Below w.heap.size w V → w.heap.size ≤ ob → Calls Try.prog 50 #[.slice ca cs.length cc, v] V (SubsEnd ob v srt V)) :
    Calls Try.prog 14 #[.pointer (some ⟨sb, 0, none⟩), .slice ca cs.length cc, .agg R.cells] w (AllEnd srt w) := by
  have hcl : (condsL R).length = R.pos.length + R.tests.length + R.neg.length := by simp [condsL]; omega
  have cC := fun W => Lib.hid (conditions_any R W ok.conds)
  have cP := Lib.hid (fun W (hb : Below w.heap.size w W) => prefix_any (hs.below hb) R (hr.below hb (Nat.le_refl _)) ca cc cs (hc.below hb (Nat.le_refl _)) ok cok hrows hall hpr (condsL R).length (Nat.le_refl _) res srt (by rw [hres, List.take_of_length_le (Nat.le_refl _)]) (fun D h1 h2 h3 h4 h5 => by rw [List.take_of_length_le (Nat.le_refl _)]; exact hgo D h1 h2 h3 h4 h5) hlen (fun ob v V O hbV ho => hsort ob v V O (hb.trans (hbV.mono hb.size)) (Nat.le_trans hb.size ho)))
  rw [hcl] at cP
  clear hs hr hc ok cok hall hpr hgo hsort hcl hres hrows
  obtain ⟨N, hN⟩ : ∃ N, N = cs.length := ⟨_, rfl⟩
  rw [← hN] at cP ⊢
  clear hN
  unfold RuleV.cells at *
  obtain ⟨M, hM⟩ : ∃ M, M = R.pos.length + R.tests.length + R.neg.length := ⟨_, rfl⟩
  simp only [← hM] at cC cP
  clear hM
  generalize R.pos.length = P at *
  generalize R.tests.length = T at *
  generalize R.neg.length = G at *
  go_enter Try.func14, Try.ntmps14
  go_upto_region 1 with fail
  obtain ⟨W0, hW0⟩ : ∃ W0, W0 = w.alloc (.cells #[.int .i64 R.hp, .slice R.ha R.hn R.hc, .slice R.pa P R.pc, .slice R.ta T R.tc, .slice R.na G R.nc, .slice R.va R.nv R.vc, .int .i64 R.cl] 32) := ⟨_, rfl⟩
  have hb0 : Below w.heap.size w W0 := by rw [hW0]; exact (Below.refl _ _).alloc (Nat.le_refl _) _
  have e : W0.cell? ⟨w.heap.size, 0, none⟩ = some (.int .i64 R.hp) ∧ W0.cell? ⟨w.heap.size, 1, none⟩ = some (.slice R.ha R.hn R.hc) ∧ W0.cell? ⟨w.heap.size, 2, none⟩ = some (.slice R.pa P R.pc) ∧ W0.cell? ⟨w.heap.size, 3, none⟩ = some (.slice R.ta T R.tc) ∧ W0.cell? ⟨w.heap.size, 4, none⟩ = some (.slice R.na G R.nc) ∧ W0.cell? ⟨w.heap.size, 5, none⟩ = some (.slice R.va R.nv R.vc) ∧ W0.cell? ⟨w.heap.size, 6, none⟩ = some (.int .i64 R.cl) := by
    rw [hW0]
    exact seven (Below.refl _ _)
  rw [← hW0]
  clear hW0
  obtain ⟨e0, e1, e2, e3, e4, e5, e6⟩ := e
  have hd0 : Below w.heap.size w W0.drew := hb0.drew
  go_region_held3 (fun w' => Below w.heap.size w w' ∧ w'.cell? ⟨w.heap.size, 0, none⟩ = some (.int .i64 R.hp) ∧ w'.cell? ⟨w.heap.size, 1, none⟩ = some (.slice R.ha R.hn R.hc) ∧ w'.cell? ⟨w.heap.size, 2, none⟩ = some (.slice R.pa P R.pc) ∧ w'.cell? ⟨w.heap.size, 3, none⟩ = some (.slice R.ta T R.tc) ∧ w'.cell? ⟨w.heap.size, 4, none⟩ = some (.slice R.na G R.nc) ∧ w'.cell? ⟨w.heap.size, 5, none⟩ = some (.slice R.va R.nv R.vc) ∧ w'.cell? ⟨w.heap.size, 6, none⟩ = some (.int .i64 R.cl)) (first | assumption | exact ⟨hd0, e0, e1, e2, e3, e4, e5, e6⟩ | go_keep) (first
    | (go_at_call 44
       with_reducible refine (cC _).out.mono ?_
       rintro e V1 ⟨rfl, hb1⟩
       have hB1 : Below w.heap.size w V1 := hd0.trans (hb1.mono hd0.size)
       have hS1 : Below w.heap.size w V1 ∧ V1.cell? ⟨w.heap.size, 0, none⟩ = some (.int .i64 R.hp) ∧ V1.cell? ⟨w.heap.size, 1, none⟩ = some (.slice R.ha R.hn R.hc) ∧ V1.cell? ⟨w.heap.size, 2, none⟩ = some (.slice R.pa P R.pc) ∧ V1.cell? ⟨w.heap.size, 3, none⟩ = some (.slice R.ta T R.tc) ∧ V1.cell? ⟨w.heap.size, 4, none⟩ = some (.slice R.na G R.nc) ∧ V1.cell? ⟨w.heap.size, 5, none⟩ = some (.slice R.va R.nv R.vc) ∧ V1.cell? ⟨w.heap.size, 6, none⟩ = some (.int .i64 R.cl) := ⟨hB1, on_cell hb1 e0, on_cell hb1 e1, on_cell hb1 e2, on_cell hb1 e3, on_cell hb1 e4, on_cell hb1 e5, on_cell hb1 e6⟩)
    | (go_at_call 15
       with_reducible refine (cP.out _ hB1).mono ?_
       rintro e V2 ⟨v, ob, rfl, O2, hb2, ho⟩
       have hB2 : Below w.heap.size w V2 := hB1.trans (hb2.mono hB1.size)
       obtain ⟨-, e0, e1, e2, e3, e4, e5, e6⟩ := hS1
       have hS2 : Below w.heap.size w V2 ∧ V2.cell? ⟨w.heap.size, 0, none⟩ = some (.int .i64 R.hp) ∧ V2.cell? ⟨w.heap.size, 1, none⟩ = some (.slice R.ha R.hn R.hc) ∧ V2.cell? ⟨w.heap.size, 2, none⟩ = some (.slice R.pa P R.pc) ∧ V2.cell? ⟨w.heap.size, 3, none⟩ = some (.slice R.ta T R.tc) ∧ V2.cell? ⟨w.heap.size, 4, none⟩ = some (.slice R.na G R.nc) ∧ V2.cell? ⟨w.heap.size, 5, none⟩ = some (.slice R.va R.nv R.vc) ∧ V2.cell? ⟨w.heap.size, 6, none⟩ = some (.int .i64 R.cl) := ⟨hB2, on_cell hb2 e0, on_cell hb2 e1, on_cell hb2 e2, on_cell hb2 e3, on_cell hb2 e4, on_cell hb2 e5, on_cell hb2 e6⟩))
  have hz := hB1.size
  go_wp2_with fail
  go_ret2
  exact ⟨v, ob, rfl, O2, hB2, by omega⟩
end Mt
end Go.Proofs.Ytkejjiohkhlnnaa

namespace Go.Proofs.Ytkejjiohkhlnnaa
open Go.RowKit
namespace Mt

/-- lists of integers -/
def ListsV (w : World) (a : Option Addr) (ls : List (List Int)) : Prop :=
  ls = [] ∨ ∃ b off, a = some ⟨b, off, none⟩ ∧ ∀ i l, ls[i]? = some l → ∃ ai ci, w.cell? ⟨b, off + i, none⟩ = some (.slice ai l.length ci) ∧ Ints w ai l
theorem Ints.old {w w' : World} {B : Nat} {a : Option Addr} {xs : List Int} (h : Ints w a xs) (hb : Below B w w') (hB : w.heap.size ≤ B) : Ints w' a xs := by
  rcases h with h | ⟨b, off, ha, hc⟩
  · exact .inl h
  · exact .inr ⟨b, off, ha, fun i hi => below_cell hb hB (hc i hi)⟩
theorem ListsV.below {w w' : World} {B : Nat} {a : Option Addr} {ls : List (List Int)} (h : ListsV w a ls) (hb : Below B w w') (hB : w.heap.size ≤ B) : ListsV w' a ls := by
  rcases h with h | ⟨b, off, ha, hc⟩
  · exact .inl h
  · exact .inr ⟨b, off, ha, fun i l hl => by
      obtain ⟨ai, ci, h1, h2⟩ := hc i l hl
      exact ⟨ai, ci, below_cell hb hB h1, Ints.old h2 hb hB⟩⟩
theorem lists_at {w : World} {a : Option Addr} {ls : List (List Int)} (h : ListsV w a ls) {k : Nat} (hk : k < ls.length) : ∃ b off l ai ci, a = some ⟨b, off, none⟩ ∧ ls[k]? = some l ∧ w.cell? ⟨b, off + k, none⟩ = some (.slice ai l.length ci) ∧ Ints w ai l := by
  rcases h with h | ⟨b, off, ha, hc⟩
  · rw [h] at hk; simp at hk
  · obtain ⟨ai, ci, h1, h2⟩ := hc k _ (List.getElem?_eq_getElem hk)
    exact ⟨b, off, ls[k], ai, ci, ha, List.getElem?_eq_getElem hk, h1, h2⟩
/-- what the search handed out are lists -/
theorem OutV.lists {ob : Nat} {v : Value} {ls : List (List Int)} {w : World} (O : OutV ob v ls w) : ∃ a c, v = .slice a ls.length c ∧ ListsV w a ls := by
  obtain ⟨hs, h1, h2, h3⟩ := O.row
  rcases h1.2 with ⟨rfl, h⟩ | ⟨g, cap, cur, rfl, hg, hc, hnc, hcm, hsz, ht⟩
  · exact ⟨none, 0, by rw [h], .inl (List.eq_nil_of_length_eq_zero h)⟩
  · refine ⟨_, _, rfl, .inr ⟨g, 0, rfl, fun i l hl => ?_⟩⟩
    obtain ⟨u, a0, b0, d0⟩ := h2 i l hl
    obtain ⟨ai, ci, rfl, hI⟩ := ints_of_row b0
    have hi : i < ls.length := (List.getElem?_eq_some_iff.1 hl).1
    refine ⟨ai, ci, ?_, hI⟩
    have : (cur.toList.take (ls.length * 1))[i]? = some (.slice ai l.length ci) := by
      rw [ht]; exact a0
    rw [List.getElem?_take_of_lt (by omega)] at this
    have h5 : cur[i]? = some (.slice ai l.length ci) := by simpa using this
    simp [World.cell?, hc, h5]
theorem take_succ_ne {xs ys : List (List Int)} {k : Nat} {x y : List Int} (hx : xs[k]? = some x) (hy : ys[k]? = some y) (hne : x ≠ y) : xs ≠ ys := fun e => by
  rw [e, hy] at hx
  exact hne (Option.some.inj hx).symm
theorem take_succ_eq {xs ys : List (List Int)} {k : Nat} {x : List Int} (h : xs.take k = ys.take k) (hx : xs[k]? = some x) (hy : ys[k]? = some x) : xs.take (k + 1) = ys.take (k + 1) := by
  rw [List.take_add_one, List.take_add_one, h, hx, hy]

set_option maxHeartbeats 4000000 in
set_option maxRecDepth 100000 in
theorem sameLists_any (aa ab : Option Addr) (ca cb : Nat) (xs ys : List (List Int)) (w : World) (ha : ListsV w aa xs) (hb : ListsV w ab ys) (hm : xs.length ≤ 1000000) (hs : ∀ x ∈ xs, x.length ≤ 1000000) :
    Calls Try.prog 16 #[.slice aa xs.length ca, .slice ab ys.length cb] w fun e w' => e = .returned (.bool (decide (xs = ys))) ∧ Below w.heap.size w w' := by
  obtain ⟨R, hR⟩ : ∃ R, R = decide (xs = ys) := ⟨_, rfl⟩
  have HR := Lib.hid hR
  rw [← hR]
  clear hR
  have HA := Lib.hid ha
  have HB := Lib.hid hb
  have HS := Lib.hid hs
  obtain ⟨n, hn⟩ : ∃ n, n = xs.length := ⟨_, rfl⟩
  obtain ⟨m, hm'⟩ : ∃ n, n = ys.length := ⟨_, rfl⟩
  rw [← hn] at hm ⊢
  rw [← hm']
  have Hn := Lib.hid hn
  have Hm := Lib.hid hm'
  clear ha hb hs hn hm'
  by_cases hl : n = m
  · subst hl
    go_enter Try.func16, Try.ntmps16
    go_wp2
    go_loopw [13] (fun i wr => ∃ k : Nat, k ≤ n ∧ i = .int .i64 k ∧ Below w.heap.size w wr ∧ Hid (xs.take k = ys.take k)) (fun i _ => n - (intOf i).toNat)
    case atStart => exact ⟨0, Nat.zero_le _, rfl, Below.refl _ _, Lib.hid rfl⟩
    case round =>
      obtain ⟨k, hk, rfl, hbel, HK⟩ := hrel
      by_cases hlt : k < n
      · obtain ⟨b1, o1, l1, a1, c1, rfl, hx, x1, i1⟩ := lists_at HA.out (k := k) (by rw [← Hn.out]; exact hlt)
        obtain ⟨b2, o2, l2, a2, c2, rfl, hy, x2, i2⟩ := lists_at HB.out (k := k) (by rw [← Hm.out]; exact hlt)
        have HX := Lib.hid hx
        have HY := Lib.hid hy
        have hl1 := HS.out l1 (List.mem_of_getElem? hx)
        have e1 := below_cell hbel (Nat.le_refl _) x1
        have e2 := below_cell hbel (Nat.le_refl _) x2
        have hbd : Below w.heap.size w wr.drew := hbel.drew
        have cI := Lib.hid (sameInts_any a1 a2 c1 c2 l1 l2 wr.drew (Ints.old i1 hbd (Nat.le_refl _)) (Ints.old i2 hbd (Nat.le_refl _)) (by omega))
        obtain ⟨d, hd⟩ : ∃ d, d = decide (l1 = l2) := ⟨_, rfl⟩
        rw [← hd] at cI
        have Hd := Lib.hid hd
        clear hx hy x1 x2 i1 i2 hd
        go_upto_region 6 with fail
        go_region_held3 (fun w' => w'.cell? ⟨b1, o1 + k, none⟩ = some (.slice a1 l1.length c1) ∧ w'.cell? ⟨b2, o2 + k, none⟩ = some (.slice a2 l2.length c2)) (first | assumption | exact ⟨e1, e2⟩ | go_keep) (first
          | (go_at_call 31
             with_reducible refine cI.out.mono ?_
             rintro e V ⟨rfl, nd, hV⟩
             have hbV : Below wr.drew.heap.size wr.drew V := by rw [← hV]; exact below_drewN (Below.refl _ _) nd
             have hS : V.cell? ⟨b1, o1 + k, none⟩ = some (.slice a1 l1.length c1) ∧ V.cell? ⟨b2, o2 + k, none⟩ = some (.slice a2 l2.length c2) := ⟨on_cell hbV e1, on_cell hbV e2⟩))
        have hbW : Below w.heap.size w V := hbd.trans (hbV.mono hbd.size)
        cases d with
        | true =>
          have HK2 : Hid (xs.take (k + 1) = ys.take (k + 1)) := Lib.hid (by
            have e : l1 = l2 := by simpa using Hd.out.symm
            subst e
            exact take_succ_eq HK.out HX.out HY.out)
          clear HK hbV hV hS
          go_wp2_with fail
          go_roundw
          case rel => exact ⟨k + 1, by omega, by go_num, hbW, HK2⟩
          case measure => simp [intOf]; omega
        | false =>
          have hRf : R = false := by
            rw [HR.out]
            have e : l1 ≠ l2 := by simpa using Hd.out.symm
            simpa using take_succ_ne HX.out HY.out e
          subst hRf
          clear hbV hV hS
          go_wp2_with fail
          go_ret
          exact ⟨rfl, hbW⟩
      · have hRt : R = true := by
          rw [HR.out]
          have h := HK.out
          rw [List.take_of_length_le (by rw [← Hn.out]; omega), List.take_of_length_le (by rw [← Hm.out]; omega)] at h
          simpa using h
        subst hRt
        go_wp2
        go_ret
        exact ⟨rfl, hbel⟩
  · have hRf : R = false := by
      rw [HR.out]
      have : xs ≠ ys := fun e => hl (by rw [Hn.out, Hm.out, e])
      simpa using this
    subst hRf
    have hne : ((n : Int) != (m : Int)) = true := by simp; omega
    go_enter Try.func16, Try.ntmps16
    go_wp2
    go_ret
    exact ⟨rfl, Below.refl _ _⟩
end Mt
end Go.Proofs.Ytkejjiohkhlnnaa

namespace Go.Proofs.Ytkejjiohkhlnnaa
open Go.RowKit
namespace Mt

/-- the rule X :- p(X) -/
def oneR (pb vb : Nat) : RuleV := ⟨0, none, 0, 0, some ⟨pb, 0, none⟩, 1, [(0, [(true, 0)])], none, 0, [], none, 0, [], some ⟨vb, 0, none⟩, 1, 1, 0⟩
theorem oneR_ok (pb vb d : Nat) : RuleOk (oneR pb vb) d := by
  refine ⟨by simp [oneR], by simp [oneR], ?_, ?_, ?_, ?_⟩
  · intro p hp
    simp [oneR] at hp
    subst hp
    refine ⟨by simp, by simp, fun s hs => ?_⟩
    simp at hs
    subst hs
    simp [SlotOk, oneR]
  · intro p hp; simp [oneR] at hp
  · intro p hp; simp [oneR] at hp
  · simp [oneR, nextP, nextL]
theorem one_ext (z : Int) (hz : 0 ≤ z) : extL [(true, 0)] [z] [] = some [z] := by
  have hb : badP ((true, 0), z) = false := by simp [badP]; try omega
  simp [extL, chkL, hb, rowL, baseL, boundL, List.range_succ]
theorem one_nums (x y : Int) : numsL [(0, [x]), (0, [y])] (0, [(true, 0)]) [] = [0, 1] := by
  simp [numsL, narrowL, valueL, boundL, ofK, idxL, List.zipIdx]
theorem one_res (rows : List Row) (cs : List C3) (x y : Int) (pb vb : Nat) (hr : rows = [(0, [x]), (0, [y])]) (hx : 0 ≤ x) (hy : 0 ≤ y) : resL rows cs (condsL (oneR pb vb)) [] = [[x], [y]] := by
  subst hr
  have hn := one_nums x y
  have hs : stepL [(0, [x]), (0, [y])] (0, [(true, 0)]) [] = [[x], [y]] := by
    unfold stepL
    rw [hn]
    have a0 : (([(0, [x]), (0, [y])] : List Row)[(0 : Int).toNat]?).bind (fun r => extL [(true, 0)] r.2 []) = some [x] := one_ext x hx
    have a1 : (([(0, [x]), (0, [y])] : List Row)[(1 : Int).toNat]?).bind (fun r => extL [(true, 0)] r.2 []) = some [y] := one_ext y hy
    exact (fun (f : Int → Option (List Int)) (h0 : f 0 = some [x]) (h1 : f 1 = some [y]) => (by simp [h0, h1] : List.filterMap f [0, 1] = [[x], [y]])) _ a0 a1
  have hc : condsL (oneR pb vb) = [.pos (0, [(true, 0)])] := rfl
  rw [hc]
  simp only [resL]
  rw [hs]
  rfl
theorem one_in {w : World} {pb vb sb : Nat} (h1 : w.cell? ⟨pb, 0, none⟩ = some (.int .i64 0)) (h2 : w.cell? ⟨pb, 1, none⟩ = some (.slice (some ⟨sb, 0, none⟩) 1 1)) (h3 : w.cell? ⟨sb, 0, none⟩ = some (.bool true)) (h4 : w.cell? ⟨sb, 1, none⟩ = some (.int .i64 0)) : RuleIn w (oneR pb vb) := by
  refine ⟨.inr ⟨pb, 0, rfl, fun i p hp => ?_⟩, .inl rfl, .inl rfl⟩
  match i, hp with
  | 0, hp =>
    simp [oneR] at hp
    subst hp
    refine ⟨by simpa using h1, some ⟨sb, 0, none⟩, 1, by simpa using h2, .inr ⟨sb, 0, rfl, fun j hj => ?_⟩⟩
    match j, hj with
    | 0, _ => exact ⟨by simpa using h3, by simpa using h4⟩
    | j + 1, hj => simp at hj
  | i + 1, hp => simp [oneR] at hp
theorem one_all {s sb : Nat} {σ : St} {h : Hd} {τ : Own} {w : World} (hs : StoreAt s sb σ h τ w) (x y : Int) (hrows : σ.rows = [(0, [x]), (0, [y])]) (pb vb tb : Nat) (h1 : w.cell? ⟨pb, 0, none⟩ = some (.int .i64 0)) (h2 : w.cell? ⟨pb, 1, none⟩ = some (.slice (some ⟨tb, 0, none⟩) 1 1)) (h3 : w.cell? ⟨tb, 0, none⟩ = some (.bool true)) (h4 : w.cell? ⟨tb, 1, none⟩ = some (.int .i64 0))
    (ca : Option Addr) (cc : Nat) (cs : List C3) (hc : Consts w ca cs) (cok : ConstsOk cs) (hx : 0 ≤ x ∧ x < cs.length) (hy : 0 ≤ y ∧ y < cs.length) :
    Calls Try.prog 14 #[.pointer (some ⟨sb, 0, none⟩), .slice ca cs.length cc, .agg (oneR pb vb).cells] w (AllEnd (ord2 cs [x] [y]) w) := by
  have hres := one_res σ.rows cs x y pb vb hrows hx.1 hy.1
  refine all_any hs (oneR pb vb) (one_in h1 h2 h3 h4) ca cc cs hc (oneR_ok pb vb _) cok (by rw [hrows]; simp) ?_ ⟨?_, ?_⟩ [[x], [y]] _ hres.symm ?_ (by simp) ?_
  · rw [hrows]
    intro r hr z hz
    simp at hr
    rcases hr with rfl | rfl
    · simp at hz; subst hz; exact hx.2
    · simp at hz; subst hz; exact hy.2
  · intro p hp
    simp [oneR] at hp
    subst hp
    exact ⟨by simp, by simp⟩
  · intro p hp
    simp [oneR] at hp
  · intro D hD1 hD2 hD3 hD4 I
    have hl : D.last = 1 := by rw [hD4]; simp [condsL, oneR]
    have hg : Goes D 1 [] := fun W a c sub v acc A O hI hnil hs hsr hn => by
      have := down_nil D I 1 hl.symm W a c sub v acc A O hI hnil hs hsr (by simp [resL] at hn; omega)
      simpa [resL] using this
    have := down_pos D I 0 (0, [(true, 0)]) [] (by rw [hD2]; simp [oneR]) (by omega) (by omega) hg
    simpa [condsL, oneR] using this
  · intro ob v V O hb ho
    exact sortSubs_two ob v [x] [y] ca cc cs V O (hc.below hb (Nat.le_refl _)) (by simp) (by simp) (fun z hz => by simp at hz; subst hz; exact hx) (fun z hz => by simp at hz; subst hz; exact hy)
end Mt
end Go.Proofs.Ytkejjiohkhlnnaa

namespace Go.Proofs.Ytkejjiohkhlnnaa
open Go.RowKit
namespace Mt

/-- the store's rows after two rows were added -/
theorem two_rows (x y : Int) (h : x ≠ y) : ((⟨[1], [], [], 0, []⟩ : St).addAll [(0, [x]), (0, [y])]).rows = [(0, [x]), (0, [y])] := by
  rw [addAll_rows]
  have h' : y ≠ x := fun e => h e.symm
  simp [joinedL, h']
/-- rows in new blocks -/
theorem rows_two {τ : Own} {w : World} {b b1 b2 : Nat} {x y : Int} (h0 : w.cell? ⟨b, 0, none⟩ = some (.int .i64 0)) (h1 : w.cell? ⟨b, 1, none⟩ = some (.slice (some ⟨b1, 0, none⟩) 1 1)) (h2 : w.cell? ⟨b, 2, none⟩ = some (.int .i64 0)) (h3 : w.cell? ⟨b, 3, none⟩ = some (.slice (some ⟨b2, 0, none⟩) 1 1))
    (hx : w.cell? ⟨b1, 0, none⟩ = some (.int .i64 x)) (hy : w.cell? ⟨b2, 0, none⟩ = some (.int .i64 y)) (t : τ b = none) (t1 : τ b1 = none) (t2 : τ b2 = none) : RowsZ (fun j => τ j = none) w (some ⟨b, 0, none⟩) 2 [(0, [x]), (0, [y])] := by
  refine ⟨.inr ⟨b, 0, rfl, t, fun i hi => ?_⟩, fun e => by cases e⟩
  match i, hi with
  | 0, _ => exact ⟨by simpa using h0, some ⟨b1, 0, none⟩, 1, by simpa using h1, .inr ⟨b1, 0, rfl, t1, fun j hj => by
      match j, hj with
      | 0, _ => simpa using hx
      | j + 1, hj => simp at hj⟩, fun e => by cases e⟩
  | 1, _ => exact ⟨by simpa using h2, some ⟨b2, 0, none⟩, 1, by simpa using h3, .inr ⟨b2, 0, rfl, t2, fun j hj => by
      match j, hj with
      | 0, _ => simpa using hy
      | j + 1, hj => simp at hj⟩, fun e => by cases e⟩
  | i + 2, hi => exact absurd hi (by simp)
/-- New of the arities [1] -/
theorem new_one (w : World) (b : Nat) (hb : w.cell? ⟨b, 0, none⟩ = some (.int .i64 1)) :
    Calls Try.prog 25 #[.slice (some ⟨b, 0, none⟩) 1 1] w fun e w' => ∃ sb τ', e = .returned (.tuple #[.pointer (some ⟨sb, 0, none⟩), .int .i64 0]) ∧ IsStore 0 sb ⟨[1], [], [], 0, []⟩ τ' w' ∧ Turn 0 (fun _ => False) (fun _ => none) τ' w w' ∧ Below w.heap.size w w' :=
  new_any (Z := fun _ => True) (some ⟨b, 0, none⟩) 1 [1] w (fun _ _ => rfl) ⟨.inr ⟨b, 0, rfl, trivial, fun j hj => by
      match j, hj with
      | 0, _ => simpa using hb
      | j + 1, hj => simp at hj⟩, fun e => by cases e⟩ (by simp) (by simp)
/-- Add of two rows of one id -/
theorem add_two {sb : Nat} {τ : Own} {w0 w : World} (hs : IsStore 0 sb ⟨[1], [], [], 0, []⟩ τ w0) (hb : Below w0.heap.size w0 w) (b : Nat) (x y : Int) (hx : 0 ≤ x ∧ x ≤ 1000000) (hy : 0 ≤ y ∧ y ≤ 1000000) (hR : RowsZ (fun j => τ j = none) w (some ⟨b, 0, none⟩) 2 [(0, [x]), (0, [y])]) :
    Calls Try.prog 21 #[.pointer (some ⟨sb, 0, none⟩), .slice (some ⟨b, 0, none⟩) 2 2] w fun e w' => ∃ k : Int, e = .returned (.tuple #[.int .i64 k, .int .i64 0]) ∧ ∃ τ', IsStore 0 sb ((⟨[1], [], [], 0, []⟩ : St).addAll [(0, [x]), (0, [y])]) τ' w' ∧ Turn 0 (fun _ => True) τ τ' w w' := by
  have := add_any (hs.below hb) (some ⟨b, 0, none⟩) 2 [(0, [x]), (0, [y])] hR (fun r hr => by
    simp at hr
    rcases hr with rfl | rfl
    · exact ⟨by simp, by simp, by simp, by simp, fun z hz => by simp at hz; subst hz; omega⟩
    · exact ⟨by simp, by simp, by simp, by simp, fun z hz => by simp at hz; subst hz; omega⟩) (by simp)
  exact this.mono fun e w' h => ⟨_, h.1, h.2⟩

theorem blk3 (w : World) (o1 o2 o3 : Obj) : (((w.alloc o1).alloc o2).alloc o3).heap[w.heap.size]? = some o1 ∧ (((w.alloc o1).alloc o2).alloc o3).heap[w.heap.size + 1]? = some o2 ∧ (((w.alloc o1).alloc o2).alloc o3).heap[w.heap.size + 1 + 1]? = some o3 := by
  refine ⟨?_, ?_, ?_⟩
  · exact (Below.heap_alloc _ _ _ (by simp; omega)).trans ((Below.heap_alloc _ _ _ (by simp)).trans (World.alloc_heap_new w o1))
  · exact (Below.heap_alloc _ _ _ (by simp)).trans (by have := World.alloc_heap_new (w.alloc o1) o2; rwa [World.size_alloc] at this)
  · have := World.alloc_heap_new ((w.alloc o1).alloc o2) o3
    rwa [World.size_alloc, World.size_alloc] at this
theorem cell_of {w : World} {b : Nat} {cs : Array Value} {T : TypeId} {fr : Nat × Nat} (h : w.heap[b]? = some (.cells cs T fr)) {i : Nat} {v : Value} (hv : cs[i]? = some v) : w.cell? ⟨b, i, none⟩ = some v := by
  simp [World.cell?, h, hv]
theorem add_two_new {sb : Nat} {τ : Own} {w : World} {t1 t2 t3 : TypeId} (hs : IsStore 0 sb ⟨[1], [], [], 0, []⟩ τ w) (hnew : ∀ j, w.heap.size ≤ j → τ j = none) (x y : Int) (hx : 0 ≤ x ∧ x ≤ 1000000) (hy : 0 ≤ y ∧ y ≤ 1000000) :
    Calls Try.prog 21 #[.pointer (some ⟨sb, 0, none⟩), .slice (some ⟨w.heap.size + 1 + 1, 0, none⟩) 2 2] (((w.alloc (.cells #[.int .i64 x] t1)).alloc (.cells #[.int .i64 y] t2)).alloc (.cells #[.int .i64 0, .slice (some ⟨w.heap.size, 0, none⟩) 1 1, .int .i64 0, .slice (some ⟨w.heap.size + 1, 0, none⟩) 1 1] t3))
      fun e w' => ∃ k : Int, e = .returned (.tuple #[.int .i64 k, .int .i64 0]) ∧ ∃ τ', IsStore 0 sb ((⟨[1], [], [], 0, []⟩ : St).addAll [(0, [x]), (0, [y])]) τ' w' ∧ Turn 0 (fun _ => True) τ τ' (((w.alloc (.cells #[.int .i64 x] t1)).alloc (.cells #[.int .i64 y] t2)).alloc (.cells #[.int .i64 0, .slice (some ⟨w.heap.size, 0, none⟩) 1 1, .int .i64 0, .slice (some ⟨w.heap.size + 1, 0, none⟩) 1 1] t3)) w' := by
  obtain ⟨W, hW⟩ : ∃ W, W = ((w.alloc (.cells #[.int .i64 x] t1)).alloc (.cells #[.int .i64 y] t2)).alloc (.cells #[.int .i64 0, .slice (some ⟨w.heap.size, 0, none⟩) 1 1, .int .i64 0, .slice (some ⟨w.heap.size + 1, 0, none⟩) 1 1] t3) := ⟨_, rfl⟩
  rw [← hW]
  have hb : Below w.heap.size w W := by rw [hW]; exact (((Below.refl _ _).alloc (Nat.le_refl _) _).alloc (by simp) _).alloc (by simp; omega) _
  obtain ⟨q1, q2, q3⟩ := blk3 w (.cells #[.int .i64 x] t1) (.cells #[.int .i64 y] t2) (.cells #[.int .i64 0, .slice (some ⟨w.heap.size, 0, none⟩) 1 1, .int .i64 0, .slice (some ⟨w.heap.size + 1, 0, none⟩) 1 1] t3)
  rw [← hW] at q1 q2 q3
  refine add_two hs hb (w.heap.size + 1 + 1) x y hx hy (rows_two (b := w.heap.size + 1 + 1) (b1 := w.heap.size) (b2 := w.heap.size + 1) (cell_of q3 rfl) (cell_of q3 rfl) (cell_of q3 rfl) (cell_of q3 rfl) (cell_of q1 rfl) (cell_of q2 rfl) (hnew _ (by omega)) (hnew _ (by omega)) (hnew _ (by omega)))
theorem turn_old {w w0 w1 w1' w2 : World} {τ1 τ2 : Own} (T1 : Turn 0 (fun _ => False) (fun _ => none) τ1 w0 w1) (T2 : Turn 0 (fun _ => True) τ1 τ2 w1' w2) (h0 : w.heap.size ≤ w0.heap.size) (hb : Below w.heap.size w w1') (_h1 : w.heap.size ≤ w1.heap.size) : Below w.heap.size w w2 := by
  have hz := hb.size
  refine hb.trans ⟨T2.os, T2.tape, T2.output, T2.size, fun j hj => T2.keep j (by omega) (fun r e => ?_)⟩
  rw [T1.own j (by omega)] at e
  cases e

/-- sameLists, the second lists being new: two of one id -/
theorem same_one {w : World} {a : Option Addr} {c : Nat} {x y : Int} {ls : List (List Int)} {t1 t2 t3 : TypeId} (h : ListsV w a ls) (he : ls = [[x], [y]]) :
    Calls Try.prog 16 #[.slice a 2 c, .slice (some ⟨w.heap.size + 1 + 1, 0, none⟩) 2 2] (((w.alloc (.cells #[.int .i64 x] t1)).alloc (.cells #[.int .i64 y] t2)).alloc (.cells #[.slice (some ⟨w.heap.size, 0, none⟩) 1 1, .slice (some ⟨w.heap.size + 1, 0, none⟩) 1 1] t3))
      fun e w' => e = .returned (.bool true) ∧ Below (((w.alloc (.cells #[.int .i64 x] t1)).alloc (.cells #[.int .i64 y] t2)).alloc (.cells #[.slice (some ⟨w.heap.size, 0, none⟩) 1 1, .slice (some ⟨w.heap.size + 1, 0, none⟩) 1 1] t3)).heap.size (((w.alloc (.cells #[.int .i64 x] t1)).alloc (.cells #[.int .i64 y] t2)).alloc (.cells #[.slice (some ⟨w.heap.size, 0, none⟩) 1 1, .slice (some ⟨w.heap.size + 1, 0, none⟩) 1 1] t3)) w' := by
  obtain ⟨W, hW⟩ : ∃ W, W = ((w.alloc (.cells #[.int .i64 x] t1)).alloc (.cells #[.int .i64 y] t2)).alloc (.cells #[.slice (some ⟨w.heap.size, 0, none⟩) 1 1, .slice (some ⟨w.heap.size + 1, 0, none⟩) 1 1] t3) := ⟨_, rfl⟩
  rw [← hW]
  have hb : Below w.heap.size w W := by rw [hW]; exact (((Below.refl _ _).alloc (Nat.le_refl _) _).alloc (by simp) _).alloc (by simp; omega) _
  obtain ⟨q1, q2, q3⟩ := blk3 w (.cells #[.int .i64 x] t1) (.cells #[.int .i64 y] t2) (.cells #[.slice (some ⟨w.heap.size, 0, none⟩) 1 1, .slice (some ⟨w.heap.size + 1, 0, none⟩) 1 1] t3)
  rw [← hW] at q1 q2 q3
  subst he
  have hI : ∀ {b : Nat} {z : Int} {t : TypeId}, W.heap[b]? = some (.cells #[.int .i64 z] t (0, 0)) → Ints W (some ⟨b, 0, none⟩) [z] := fun {b z t} hq => .inr ⟨b, 0, rfl, fun i hi => by
    match i, hi with
    | 0, _ => exact cell_of hq rfl
    | i + 1, hi => exact absurd hi (by simp)⟩
  have L2 : ListsV W (some ⟨w.heap.size + 1 + 1, 0, none⟩) [[x], [y]] := .inr ⟨_, 0, rfl, fun i l hl => by
    match i, hl with
    | 0, hl =>
      simp at hl
      subst hl
      exact ⟨_, 1, cell_of q3 rfl, hI q1⟩
    | 1, hl =>
      simp at hl
      subst hl
      exact ⟨_, 1, cell_of q3 rfl, hI q2⟩
    | i + 2, hl => exact absurd hl (by simp)⟩
  have := sameLists_any a (some ⟨w.heap.size + 1 + 1, 0, none⟩) c 2 [[x], [y]] [[x], [y]] W (h.below hb (Nat.le_refl _)) L2 (by simp) (by simp)
  simpa using this
/-- the two constants of taken -/
def takenC : List C3 := [(2, 0, { data := #[98] }), (2, 0, { data := #[97] })]
theorem takenC_ok : ConstsOk takenC := by
  refine ⟨by simp [takenC], fun c hc => ?_, fun c hc => ?_, by decide⟩
  · simp [takenC] at hc
    rcases hc with rfl | rfl
    · exact ⟨(by unfold Rng; omega : Rng 2), (by unfold Rng; omega : Rng 0), by decide⟩
    · exact ⟨(by unfold Rng; omega : Rng 2), (by unfold Rng; omega : Rng 0), by decide⟩
  · simp [takenC] at hc
    rcases hc with rfl | rfl
    · decide
    · decide
theorem taken_ord : ord2 takenC [0] [1] = [[1], [0]] := by simp [ord2, lessL, cmpAt, takenC, Sym.cmpC, Sym.cmpL, Sym.cmpI]
theorem taken_all {sb : Nat} {hd : Hd} {τ : Own} {w : World} {t1 t2 t5 : TypeId} {o3 o4 : Obj} (hs : StoreAt 0 sb ((⟨[1], [], [], 0, []⟩ : St).addAll [(0, [0]), (0, [1])]) hd τ w) :
    Calls Try.prog 14 #[.pointer (some ⟨sb, 0, none⟩), .slice (some ⟨w.heap.size + 1 + 1 + 1 + 1, 0, none⟩) 2 2, .agg #[.int .i64 0, .slice none 0 0, .slice (some ⟨w.heap.size + 1, 0, none⟩) 1 1, .slice none 0 0, .slice none 0 0, .slice (some ⟨w.heap.size + 1 + 1, 0, none⟩) 1 1, .int .i64 0]]
      (((((w.alloc (.cells #[.bool true, .int .i64 0] t1)).alloc (.cells #[.int .i64 0, .slice (some ⟨w.heap.size, 0, none⟩) 1 1] t2)).alloc o3).alloc o4).alloc (.cells #[.int .i64 2, .int .i64 0, .string { data := #[98] }, .int .i64 2, .int .i64 0, .string { data := #[97] }] t5))
      (AllEnd [[1], [0]] (((((w.alloc (.cells #[.bool true, .int .i64 0] t1)).alloc (.cells #[.int .i64 0, .slice (some ⟨w.heap.size, 0, none⟩) 1 1] t2)).alloc o3).alloc o4).alloc (.cells #[.int .i64 2, .int .i64 0, .string { data := #[98] }, .int .i64 2, .int .i64 0, .string { data := #[97] }] t5))) := by
  obtain ⟨W, hW⟩ : ∃ W, W = ((((w.alloc (.cells #[.bool true, .int .i64 0] t1)).alloc (.cells #[.int .i64 0, .slice (some ⟨w.heap.size, 0, none⟩) 1 1] t2)).alloc o3).alloc o4).alloc (.cells #[.int .i64 2, .int .i64 0, .string { data := #[98] }, .int .i64 2, .int .i64 0, .string { data := #[97] }] t5) := ⟨_, rfl⟩
  rw [← hW]
  have hb : Below w.heap.size w W := by rw [hW]; exact (((((Below.refl _ _).alloc (Nat.le_refl _) _).alloc (by simp) _).alloc (by simp; omega) _).alloc (by simp; omega) _).alloc (by simp; omega) _
  have hcb : W.heap[w.heap.size + 1 + 1 + 1 + 1]? = some (.cells #[.int .i64 2, .int .i64 0, .string { data := #[98] }, .int .i64 2, .int .i64 0, .string { data := #[97] }] t5 (0, 0)) := by
    rw [hW, ← World.size_alloc w (.cells #[.bool true, .int .i64 0] t1), ← World.size_alloc _ (.cells #[.int .i64 0, .slice (some ⟨w.heap.size, 0, none⟩) 1 1] t2), ← World.size_alloc _ o3, ← World.size_alloc _ o4]
    exact World.alloc_heap_new _ _
  have hc : Consts W (some ⟨w.heap.size + 1 + 1 + 1 + 1, 0, none⟩) takenC := by
    refine .inr ⟨_, 0, rfl, fun i hi => ?_⟩
    match i, hi with
    | 0, _ => simp [World.cell?, hcb, takenC]
    | 1, _ => simp [World.cell?, hcb, takenC]
    | i + 2, hi => exact absurd hi (by simp [takenC])
  obtain ⟨q1, q2, -⟩ := blk3 w (.cells #[.bool true, .int .i64 0] t1) (.cells #[.int .i64 0, .slice (some ⟨w.heap.size, 0, none⟩) 1 1] t2) o3
  have p1 : W.heap[w.heap.size]? = some (.cells #[.bool true, .int .i64 0] t1 (0, 0)) := by rw [hW]; exact (Below.heap_alloc _ _ _ (by simp; omega)).trans ((Below.heap_alloc _ _ _ (by simp; omega)).trans q1)
  have p2 : W.heap[w.heap.size + 1]? = some (.cells #[.int .i64 0, .slice (some ⟨w.heap.size, 0, none⟩) 1 1] t2 (0, 0)) := by rw [hW]; exact (Below.heap_alloc _ _ _ (by simp)).trans ((Below.heap_alloc _ _ _ (by simp)).trans q2)
  rw [← taken_ord]
  refine one_all (hs.below hb) 0 1 (two_rows 0 1 (by omega)) (w.heap.size + 1) (w.heap.size + 1 + 1) w.heap.size (cell_of p2 rfl) (cell_of p2 rfl) (cell_of p1 rfl) (cell_of p1 rfl) _ 2 takenC hc takenC_ok (by simp [takenC]) (by simp [takenC])

set_option maxHeartbeats 8000000 in
set_option maxRecDepth 100000 in
theorem taken_any (w : World) : Calls Try.prog 17 #[] w fun e w' => e = .returned (.bool true) ∧ Below w.heap.size w w' := by
  go_enter Try.func17, Try.ntmps17
  go_wp2_with fail
  refine (new_one _ w.heap.size (by simp)).mono ?_
  rintro e w1 ⟨sb, τ1, rfl, S1, T1, hb1⟩
  go_wp2_with fail
  have hb0 : Below w.heap.size w w1 := ((Below.refl _ _).alloc (Nat.le_refl _) _).trans (hb1.mono (by simp))
  have hnew : ∀ j, w1.heap.size ≤ j → τ1 j = none := T1.fresh
  refine (add_two_new S1 hnew 0 1 (by omega) (by omega)).mono ?_
  rintro e w2 ⟨k, rfl, τ2, S2, T2⟩
  have hb2 : Below w.heap.size w w2 := turn_old T1 T2 (by simp) (hb0.trans (((((Below.refl _ _).alloc (Nat.le_refl _) _).alloc (by simp) _).alloc (by simp; omega) _).mono hb0.size)) hb0.size
  obtain ⟨hd, S2⟩ := S2
  clear hnew T1 T2 S1 hb0 hb1
  go_wp2_with fail
  refine (taken_all S2).mono ?_
  rintro e w3 ⟨v, ob, rfl, O3, hb3, ho3⟩
  have hB3 : Below w.heap.size w w3 := hb2.trans ((((((((Below.refl _ _).alloc (Nat.le_refl _) _).alloc (by simp) _).alloc (by simp; omega) _).alloc (by simp; omega) _).alloc (by simp; omega) _).trans (hb3.mono (by simp; omega))).mono hb2.size)
  obtain ⟨a, c, rfl, L3⟩ := O3.lists
  clear hb3 ho3 O3 hb2
  go_wp2_with fail
  refine (same_one L3 (by simp)).mono ?_
  rintro e w4 ⟨rfl, hb4⟩
  go_wp2_with fail
  go_ret
  exact ⟨rfl, hB3.trans ((((((Below.refl _ _).alloc (Nat.le_refl _) _).alloc (by simp) _).alloc (by simp; omega) _).trans (hb4.mono (by simp; omega))).mono hB3.size)⟩
end Mt
end Go.Proofs.Ytkejjiohkhlnnaa
