/-
  The law MatchConsts is proved: for every input the call returns true, and its arguments read behind it as they read before. No condition.
-/
import Derived.Test.YtkejjiohkhlnnaaQ5
import Derived.ProofKit
import Derived.OpenShut
import Derived.ShutString
import Derived.ChangeOld
import Derived.Below
import Derived.SizedLaws
import Derived.Lib.SmallJoins
namespace Go.Proofs.Ytkejjiohkhlnnaa
open Go.RowKit
namespace Mt

set_option maxHeartbeats 1000000 in
theorem mod6_any (n : Int) (w : World) : Calls Try.prog 33 #[.int .i64 n, .int .i64 6] w fun e w' => (∃ r : Nat, r < 6 ∧ e = .returned (.int .i64 r)) ∧ Below w.heap.size w w' := by
  go_enter Try.func33, Try.ntmps33
  go_wp2
  go_ret
  have h1 : -6 < n.tmod 6 := Int.lt_tmod_of_pos n (by omega)
  have h2 : n.tmod 6 < 6 := Int.tmod_lt_of_pos n (by omega)
  have h3 : wrap64 (n.tmod 6 + 6) = n.tmod 6 + 6 := by unfold wrap64; omega
  have h4 : 0 ≤ (wrap64 (n.tmod 6 + 6)).tmod 6 := Int.tmod_nonneg 6 (by rw [h3]; omega)
  have h5 : (wrap64 (n.tmod 6 + 6)).tmod 6 < 6 := Int.tmod_lt_of_pos _ (by omega)
  obtain ⟨x, hx⟩ : ∃ x, (wrap64 (n.tmod 6 + 6)).tmod 6 = x := ⟨_, rfl⟩
  rw [hx] at h4 h5 ⊢
  refine ⟨⟨x.toNat, by omega, ?_⟩, Below.refl _ _⟩
  simp only [Int.toNat_of_nonneg h4]
  rfl
set_option maxHeartbeats 1000000 in
theorem fitConsts_no (a : Option Addr) (c n : Nat) (w : World) (h : 65536 < n) :
    Calls Try.prog 46 #[.slice a n c] w fun e w' => e = .returned (.bool false) ∧ Below w.heap.size w w' := by
  have d : decide ((65536 : Int) < (n : Int)) = true := by simp; omega
  go_enter Try.func46, Try.ntmps46
  go_wp2_with fail
  go_ret
  exact ⟨rfl, Below.refl _ _⟩
set_option linter.unusedSimpArgs false in
set_option maxHeartbeats 8000000 in
set_option maxRecDepth 100000 in
theorem prefix_no (sb : Nat) (R : RuleV) (w : World) (hr : RuleIn w R) (ca : Option Addr) (cc n : Nat) (ok : RuleOk R n) (hn : 65536 < n) (k : Nat) (hk2 : k ≤ R.pos.length + R.tests.length + R.neg.length) :
    Calls Try.prog 15 #[.pointer (some ⟨sb, 0, none⟩), .slice ca n cc, .agg R.cells, .int .i64 k] w fun e w' => e = .returned (.tuple #[.slice none 0 0, .int .i64 5]) ∧ Below w.heap.size w w' := by
  have cC := fun W => Lib.hid (conditions_any R W ok.conds)
  have cR := fun W (hb : Below w.heap.size w W) => Lib.hid (fitRule_any R n W ok (hr.below hb (Nat.le_refl _)))
  have cK := fun W (_hb : Below w.heap.size w W) => Lib.hid (fitConsts_no ca cc n W hn)
  have d1 : decide (((R.pos.length + R.tests.length + R.neg.length : Nat) : Int) < (k : Int)) = false := by simp; omega
  have d0 : decide ((k : Int) < 0) = false := by simp
  clear hr ok hn
  unfold RuleV.cells at *
  generalize R.pos.length = P at *
  generalize R.tests.length = T at *
  generalize R.neg.length = G at *
  go_enter Try.func15, Try.ntmps15
  go_wp2_with (first
    | (go_at_call 44; (with_reducible refine (cC _).out.mono ?_); rintro e w1 ⟨rfl, hb1⟩; obtain ⟨f0, f1, f2, f3, f4, f5, f6⟩ := seven hb1; have hB1 : Below w.heap.size w w1 := ((Below.refl _ _).alloc (Nat.le_refl _) _).trans (hb1.mono (by simp)); clear hb1)
    | (go_at_call 45; (with_reducible refine (cR _ hB1).out.mono ?_); rintro e w2 ⟨rfl, hb2⟩; replace f0 := on_cell hb2 f0; replace f1 := on_cell hb2 f1; replace f2 := on_cell hb2 f2; replace f3 := on_cell hb2 f3; replace f4 := on_cell hb2 f4; replace f5 := on_cell hb2 f5; replace f6 := on_cell hb2 f6; have hB2 : Below w.heap.size w w2 := hB1.trans (hb2.mono hB1.size); clear hb2)
    | (go_at_call 46; (with_reducible refine (cK _ hB2).out.mono ?_); rintro e w3 ⟨rfl, hb3⟩; replace f0 := on_cell hb3 f0; replace f1 := on_cell hb3 f1; replace f2 := on_cell hb3 f2; replace f3 := on_cell hb3 f3; replace f4 := on_cell hb3 f4; replace f5 := on_cell hb3 f5; replace f6 := on_cell hb3 f6; have hB3 : Below w.heap.size w w3 := hB2.trans (hb3.mono hB2.size); clear hb3))
  go_ret2
  exact ⟨rfl, hB3⟩
set_option linter.unusedSimpArgs false in
set_option maxHeartbeats 8000000 in
set_option maxRecDepth 100000 in
theorem all_no (sb : Nat) (R : RuleV) (w : World) (hr : RuleIn w R) (ca : Option Addr) (cc n : Nat) (ok : RuleOk R n) (hn : 65536 < n) :
    Calls Try.prog 14 #[.pointer (some ⟨sb, 0, none⟩), .slice ca n cc, .agg R.cells] w fun e w' => e = .returned (.tuple #[.slice none 0 0, .int .i64 5]) ∧ Below w.heap.size w w' := by
  have cC := fun W => Lib.hid (conditions_any R W ok.conds)
  have cP := Lib.hid (fun W (hb : Below w.heap.size w W) => prefix_no sb R W (hr.below hb (Nat.le_refl _)) ca cc n ok hn (R.pos.length + R.tests.length + R.neg.length) (Nat.le_refl _))
  clear hr ok hn
  unfold RuleV.cells at *
  obtain ⟨M, hM⟩ : ∃ M, M = R.pos.length + R.tests.length + R.neg.length := ⟨_, rfl⟩
  simp only [← hM] at cC cP
  clear hM
  generalize R.pos.length = P at *
  generalize R.tests.length = T at *
  generalize R.neg.length = G at *
  go_enter Try.func14, Try.ntmps14
  go_upto_region 1 with fail
  obtain ⟨W0, hW0⟩ : ∃ W0, W0 = w.alloc (.cells #[.int .i64 R.hp, .slice R.ha R.hn R.hc, .slice R.pa P R.pc, .slice R.ta T R.tc, .slice R.na G R.nc, .slice R.va R.nv R.vc, .int .i64 R.cl] 32) := ⟨_, rfl⟩
  have hb0 : Below w.heap.size w W0 := by rw [hW0]; exact (Below.refl _ _).alloc (Nat.le_refl _) _
  have e : W0.cell? ⟨w.heap.size, 0, none⟩ = some (.int .i64 R.hp) ∧ W0.cell? ⟨w.heap.size, 1, none⟩ = some (.slice R.ha R.hn R.hc) ∧ W0.cell? ⟨w.heap.size, 2, none⟩ = some (.slice R.pa P R.pc) ∧ W0.cell? ⟨w.heap.size, 3, none⟩ = some (.slice R.ta T R.tc) ∧ W0.cell? ⟨w.heap.size, 4, none⟩ = some (.slice R.na G R.nc) ∧ W0.cell? ⟨w.heap.size, 5, none⟩ = some (.slice R.va R.nv R.vc) ∧ W0.cell? ⟨w.heap.size, 6, none⟩ = some (.int .i64 R.cl) := by
    rw [hW0]
    exact seven (Below.refl _ _)
  rw [← hW0]
  clear hW0
  obtain ⟨e0, e1, e2, e3, e4, e5, e6⟩ := e
  have hd0 : Below w.heap.size w W0.drew := hb0.drew
  go_region_held3 (fun w' => Below w.heap.size w w' ∧ w'.cell? ⟨w.heap.size, 0, none⟩ = some (.int .i64 R.hp) ∧ w'.cell? ⟨w.heap.size, 1, none⟩ = some (.slice R.ha R.hn R.hc) ∧ w'.cell? ⟨w.heap.size, 2, none⟩ = some (.slice R.pa P R.pc) ∧ w'.cell? ⟨w.heap.size, 3, none⟩ = some (.slice R.ta T R.tc) ∧ w'.cell? ⟨w.heap.size, 4, none⟩ = some (.slice R.na G R.nc) ∧ w'.cell? ⟨w.heap.size, 5, none⟩ = some (.slice R.va R.nv R.vc) ∧ w'.cell? ⟨w.heap.size, 6, none⟩ = some (.int .i64 R.cl)) (first | assumption | exact ⟨hd0, e0, e1, e2, e3, e4, e5, e6⟩ | go_keep) (first
    | (go_at_call 44
       with_reducible refine (cC _).out.mono ?_
       rintro e V1 ⟨rfl, hb1⟩
       have hB1 : Below w.heap.size w V1 := hd0.trans (hb1.mono hd0.size)
       have hS1 : Below w.heap.size w V1 ∧ V1.cell? ⟨w.heap.size, 0, none⟩ = some (.int .i64 R.hp) ∧ V1.cell? ⟨w.heap.size, 1, none⟩ = some (.slice R.ha R.hn R.hc) ∧ V1.cell? ⟨w.heap.size, 2, none⟩ = some (.slice R.pa P R.pc) ∧ V1.cell? ⟨w.heap.size, 3, none⟩ = some (.slice R.ta T R.tc) ∧ V1.cell? ⟨w.heap.size, 4, none⟩ = some (.slice R.na G R.nc) ∧ V1.cell? ⟨w.heap.size, 5, none⟩ = some (.slice R.va R.nv R.vc) ∧ V1.cell? ⟨w.heap.size, 6, none⟩ = some (.int .i64 R.cl) := ⟨hB1, on_cell hb1 e0, on_cell hb1 e1, on_cell hb1 e2, on_cell hb1 e3, on_cell hb1 e4, on_cell hb1 e5, on_cell hb1 e6⟩)
    | (go_at_call 15
       with_reducible refine (cP.out _ hB1).mono ?_
       rintro e V2 ⟨rfl, hb2⟩
       have hB2 : Below w.heap.size w V2 := hB1.trans (hb2.mono hB1.size)
       obtain ⟨-, e0, e1, e2, e3, e4, e5, e6⟩ := hS1
       have hS2 : Below w.heap.size w V2 ∧ V2.cell? ⟨w.heap.size, 0, none⟩ = some (.int .i64 R.hp) ∧ V2.cell? ⟨w.heap.size, 1, none⟩ = some (.slice R.ha R.hn R.hc) ∧ V2.cell? ⟨w.heap.size, 2, none⟩ = some (.slice R.pa P R.pc) ∧ V2.cell? ⟨w.heap.size, 3, none⟩ = some (.slice R.ta T R.tc) ∧ V2.cell? ⟨w.heap.size, 4, none⟩ = some (.slice R.na G R.nc) ∧ V2.cell? ⟨w.heap.size, 5, none⟩ = some (.slice R.va R.nv R.vc) ∧ V2.cell? ⟨w.heap.size, 6, none⟩ = some (.int .i64 R.cl) := ⟨hB2, on_cell hb2 e0, on_cell hb2 e1, on_cell hb2 e2, on_cell hb2 e3, on_cell hb2 e4, on_cell hb2 e5, on_cell hb2 e6⟩))
  go_wp2_with fail
  go_ret2
  exact ⟨rfl, hB2⟩
end Mt
end Go.Proofs.Ytkejjiohkhlnnaa

namespace Go.Proofs.Ytkejjiohkhlnnaa
open Go.RowKit
namespace Mt

theorem infoC : (Try.prog.info? 65).map (fun i => (i.zero, i.size, i.bytes)) = some (some (.agg #[.int .i64 0, .int .i64 0, .string ByteArray.empty]), 3, 32) := by kernel_rfl
theorem make_consts (n : Nat) (h : n ≤ 65538) (w : World) : ∃ C : Array Value, C.size = n * 3 ∧ (Instr.makeSlice 24 (.int .i64 n) (.int .i64 n)).run Try.prog w = .ok (.slice (some ⟨w.heap.size, 0, none⟩) n n) (w.alloc (.cells C 65)) := by
  obtain ⟨i0, hi, hz0, hz1, hz2⟩ := info_parts infoC
  have hr := run_makeSlice (P := Try.prog) w 24 65 i0 _ Try.underlying24 hi hz0 .i64 .i64 n n (by omega) (Int.le_refl _) (by rw [hz1]; simp; omega) (by rw [hz2]; omega) (by omega)
  simp only [Int.toNat_natCast] at hr
  refine ⟨_, ?_, hr⟩
  rw [size_madeCells, hz1]

theorem put3 {w : World} {b o : Nat} {C : Array Value} {T : TypeId} (hC : w.heap[b]? = some (.cells C T (0, 0))) (ho : o + 2 < C.size) (x y z : Value) :
    (((w.setCell ⟨b, o, none⟩ x).setCell ⟨b, o + 1, none⟩ y).setCell ⟨b, o + 2, none⟩ z).heap[b]? = some (.cells (((C.setIfInBounds o x).setIfInBounds (o + 1) y).setIfInBounds (o + 2) z) T (0, 0)) ∧ (((C.setIfInBounds o x).setIfInBounds (o + 1) y).setIfInBounds (o + 2) z).size = C.size ∧
    ((((C.setIfInBounds o x).setIfInBounds (o + 1) y).setIfInBounds (o + 2) z)[o]? = some x ∧ (((C.setIfInBounds o x).setIfInBounds (o + 1) y).setIfInBounds (o + 2) z)[o + 1]? = some y ∧ (((C.setIfInBounds o x).setIfInBounds (o + 1) y).setIfInBounds (o + 2) z)[o + 2]? = some z) ∧
    ∀ i, i ≠ o → i ≠ o + 1 → i ≠ o + 2 → (((C.setIfInBounds o x).setIfInBounds (o + 1) y).setIfInBounds (o + 2) z)[i]? = C[i]? := by
  refine ⟨heap_setCell (heap_setCell (heap_setCell hC x) y) z, by simp, ⟨?_, ?_, ?_⟩, fun i h0 h1 h2 => ?_⟩
  · rw [Array.getElem?_setIfInBounds_ne (by omega), Array.getElem?_setIfInBounds_ne (by omega), Array.getElem?_setIfInBounds_self_of_lt (by omega)]
  · rw [Array.getElem?_setIfInBounds_ne (by omega), Array.getElem?_setIfInBounds_self_of_lt (by simp; omega)]
  · rw [Array.getElem?_setIfInBounds_self_of_lt (by simp; omega)]
  · rw [Array.getElem?_setIfInBounds_ne (by omega), Array.getElem?_setIfInBounds_ne (by omega), Array.getElem?_setIfInBounds_ne (by omega)]
/-- the constants: integers that fall -/
def csL (n : Nat) : List C3 := (List.range n).map fun (j : Nat) => ((1, (n : Int) - (j : Int), { data := #[] }) : C3)
theorem csL_length (n : Nat) : (csL n).length = n := by simp [csL]
theorem csL_at {n j : Nat} (h : j < n) : (csL n)[j]? = some (1, (n : Int) - (j : Int), { data := #[] }) := by simp [csL, h]
theorem csL_ok {n : Nat} (h : n ≤ 65536) : ConstsOk (csL n) := by
  refine ⟨by rw [csL_length]; exact h, fun c hc => ?_, fun c hc => ?_, ?_⟩
  · obtain ⟨j, hj, rfl⟩ := List.mem_map.1 hc
    have hj' := List.mem_range.1 hj
    exact ⟨(by unfold Rng; omega : Rng 1), (by unfold Rng; omega : Rng ((n : Int) - (j : Int))), (by decide : ByteArray.size { data := #[] } ≤ maxLen)⟩
  · obtain ⟨j, hj, rfl⟩ := List.mem_map.1 hc
    rfl
  · unfold csL List.Nodup
    rw [List.pairwise_map]
    refine List.Pairwise.imp ?_ (List.pairwise_lt_range (n := n))
    intro a b hab e
    have := congrArg (fun c : C3 => c.2.1) e
    simp only at this
    omega
theorem consts_csL {w : World} {b n : Nat} {C : Array Value} {T : TypeId} (hC : w.heap[b]? = some (.cells C T (0, 0))) (h : ∀ j : Nat, j < n → C[j * 3]? = some (.int .i64 1) ∧ C[j * 3 + 1]? = some (.int .i64 ((n : Int) - j)) ∧ C[j * 3 + 2]? = some (.string { data := #[] })) : Consts w (some ⟨b, 0, none⟩) (csL n) := by
  refine .inr ⟨b, 0, rfl, fun i hi => ?_⟩
  have hi' : i < n := by rwa [csL_length] at hi
  have e : (csL n)[i] = (1, (n : Int) - (i : Int), { data := #[] }) := by
    have := csL_at hi'
    rw [List.getElem?_eq_getElem hi] at this
    exact Option.some.inj this
  rw [e]
  obtain ⟨h0, h1, h2⟩ := h i hi'
  refine ⟨?_, ?_, ?_⟩
  · simpa using cell_of hC h0
  · simpa using cell_of hC h1
  · simpa using cell_of hC h2
theorem csL_ord {n : Nat} (h : 2 ≤ n) : ord2 (csL n) [0] [(n : Int) - 1] = [[(n : Int) - 1], [0]] := by
  have e0 : (csL n)[(0 : Int).toNat]? = some (1, (n : Int), { data := #[] }) := by
    have := csL_at (n := n) (j := 0) (by omega)
    simpa using this
  have e1 : (csL n)[((n : Int) - 1).toNat]? = some (1, 1, { data := #[] }) := by
    have := csL_at (n := n) (j := n - 1) (by omega)
    rw [show ((n : Int) - 1).toNat = n - 1 from by omega, this, show ((n : Int) - ((n - 1 : Nat) : Int)) = 1 from by omega]
  have hc : cmpAt (csL n) ((n : Int) - 1) 0 = -1 := by
    unfold cmpAt
    rw [e0, e1]
    have : (1 : Int) < (n : Int) := by omega
    simp [Sym.cmpC, Sym.cmpI, this]
  have hl : lessL (csL n) [(n : Int) - 1] [0] = true := by
    simp [lessL, hc]
  unfold ord2
  rw [hl]
  rfl

theorem consts_all {sb : Nat} {hd : Hd} {τ : Own} {w : World} {n b : Nat} {t1 t2 : TypeId} {o3 : Obj} (hs : StoreAt 0 sb ((⟨[1], [], [], 0, []⟩ : St).addAll [(0, [0]), (0, [(n : Int) - 1])]) hd τ w) (h6 : n ≤ 65536) (h2 : 2 ≤ n) (hc : Consts w (some ⟨b, 0, none⟩) (csL n)) :
    Calls Try.prog 14 #[.pointer (some ⟨sb, 0, none⟩), .slice (some ⟨b, 0, none⟩) n n, .agg #[.int .i64 0, .slice none 0 0, .slice (some ⟨w.heap.size + 1, 0, none⟩) 1 1, .slice none 0 0, .slice none 0 0, .slice (some ⟨w.heap.size + 1 + 1, 0, none⟩) 1 1, .int .i64 0]]
      (((w.alloc (.cells #[.bool true, .int .i64 0] t1)).alloc (.cells #[.int .i64 0, .slice (some ⟨w.heap.size, 0, none⟩) 1 1] t2)).alloc o3)
      (AllEnd [[(n : Int) - 1], [0]] (((w.alloc (.cells #[.bool true, .int .i64 0] t1)).alloc (.cells #[.int .i64 0, .slice (some ⟨w.heap.size, 0, none⟩) 1 1] t2)).alloc o3)) := by
  obtain ⟨W, hW⟩ : ∃ W, W = ((w.alloc (.cells #[.bool true, .int .i64 0] t1)).alloc (.cells #[.int .i64 0, .slice (some ⟨w.heap.size, 0, none⟩) 1 1] t2)).alloc o3 := ⟨_, rfl⟩
  obtain ⟨q1, q2, -⟩ := blk3 w (.cells #[.bool true, .int .i64 0] t1) (.cells #[.int .i64 0, .slice (some ⟨w.heap.size, 0, none⟩) 1 1] t2) o3
  rw [← hW] at q1 q2 ⊢
  have hb : Below w.heap.size w W := by rw [hW]; exact (((Below.refl _ _).alloc (Nat.le_refl _) _).alloc (by simp) _).alloc (by simp; omega) _
  rw [← csL_ord h2]
  have := one_all (hs.below hb) 0 ((n : Int) - 1) (two_rows 0 ((n : Int) - 1) (by omega)) (w.heap.size + 1) (w.heap.size + 1 + 1) w.heap.size (cell_of q2 rfl) (cell_of q2 rfl) (cell_of q1 rfl) (cell_of q1 rfl) _ n (csL n) (hc.below hb (Nat.le_refl _)) (csL_ok h6) (by rw [csL_length]; omega) (by rw [csL_length]; omega)
  rw [csL_length] at this
  exact this
theorem consts_no {sb : Nat} {hd : Hd} {τ : Own} {σ : St} {w : World} {n b : Nat} {t1 t2 : TypeId} {o3 : Obj} (_hs : StoreAt 0 sb σ hd τ w) (h6 : 65536 < n) :
    Calls Try.prog 14 #[.pointer (some ⟨sb, 0, none⟩), .slice (some ⟨b, 0, none⟩) n n, .agg #[.int .i64 0, .slice none 0 0, .slice (some ⟨w.heap.size + 1, 0, none⟩) 1 1, .slice none 0 0, .slice none 0 0, .slice (some ⟨w.heap.size + 1 + 1, 0, none⟩) 1 1, .int .i64 0]]
      (((w.alloc (.cells #[.bool true, .int .i64 0] t1)).alloc (.cells #[.int .i64 0, .slice (some ⟨w.heap.size, 0, none⟩) 1 1] t2)).alloc o3)
      fun e w' => e = .returned (.tuple #[.slice none 0 0, .int .i64 5]) ∧ Below (((w.alloc (.cells #[.bool true, .int .i64 0] t1)).alloc (.cells #[.int .i64 0, .slice (some ⟨w.heap.size, 0, none⟩) 1 1] t2)).alloc o3).heap.size (((w.alloc (.cells #[.bool true, .int .i64 0] t1)).alloc (.cells #[.int .i64 0, .slice (some ⟨w.heap.size, 0, none⟩) 1 1] t2)).alloc o3) w' := by
  obtain ⟨W, hW⟩ : ∃ W, W = ((w.alloc (.cells #[.bool true, .int .i64 0] t1)).alloc (.cells #[.int .i64 0, .slice (some ⟨w.heap.size, 0, none⟩) 1 1] t2)).alloc o3 := ⟨_, rfl⟩
  obtain ⟨q1, q2, -⟩ := blk3 w (.cells #[.bool true, .int .i64 0] t1) (.cells #[.int .i64 0, .slice (some ⟨w.heap.size, 0, none⟩) 1 1] t2) o3
  rw [← hW] at q1 q2 ⊢
  exact all_no sb (oneR (w.heap.size + 1) (w.heap.size + 1 + 1)) W (one_in (cell_of q2 rfl) (cell_of q2 rfl) (cell_of q1 rfl) (cell_of q1 rfl)) _ n n (oneR_ok _ _ _) h6
/-- the constants stay while a store is made and filled -/
theorem consts_turn {w0 w w1 w2 : World} {o1 o2 o3 : Obj} {τ1 τ2 : Own} {a : Option Addr} {cs : List C3} (T1 : Turn 0 (fun _ => False) (fun _ => none) τ1 w0 w1) (T2 : Turn 0 (fun _ => True) τ1 τ2 (((w1.alloc o1).alloc o2).alloc o3) w2) (h : Consts w a cs) (h0 : w.heap.size ≤ w0.heap.size) (hb : Below w.heap.size w w1) : Consts w2 a cs :=
  h.below (turn_old T1 T2 h0 (hb.trans (((((Below.refl _ _).alloc (Nat.le_refl _) _).alloc (by simp) _).alloc (by simp; omega) _).mono hb.size)) hb.size) (Nat.le_refl _)

set_option maxHeartbeats 8000000 in
set_option maxRecDepth 100000 in
theorem matchConsts_any (m : Int) (w : World) : Calls Try.prog 9 #[.int .i64 m] w fun e w' => e = .returned (.bool true) ∧ Below w.heap.size w w' := by
  go_enter Try.func9, Try.ntmps9
  go_upto_region 2 with (first
    | (go_at_call 33; (with_reducible refine (mod6_any m _).mono ?_); rintro e w1 ⟨⟨r, hr, rfl⟩, hb1⟩))
  obtain ⟨n, hn⟩ : ∃ n : Nat, 65533 + (r : Int) = (n : Int) := ⟨65533 + r, by omega⟩
  rw [hn]
  have hn8 : n ≤ 65538 := by omega
  have hn3 : 65533 ≤ n := by omega
  clear hn hr
  obtain ⟨C0, hC0, hmk⟩ := make_consts n hn8 w1
  go_wp2_with fail
  clear hmk
  go_loopw [16] (fun i wr => ∃ k : Nat, k ≤ n ∧ i = .int .i64 k ∧ Below w1.heap.size w1 wr ∧ ∃ C : Array Value, wr.heap[w1.heap.size]? = some (.cells C 65 (0, 0)) ∧ C.size = n * 3 ∧ Hid (∀ j : Nat, j < k → C[j * 3]? = some (.int .i64 1) ∧ C[j * 3 + 1]? = some (.int .i64 ((n : Int) - j)) ∧ C[j * 3 + 2]? = some (.string { data := #[] }))) (fun i _ => n - (intOf i).toNat)
  case atStart => exact ⟨0, Nat.zero_le _, rfl, (Below.refl _ _).alloc (Nat.le_refl _) _, C0, World.alloc_heap_new _ _, hC0, Lib.hid (fun j hj => by omega)⟩
  case round =>
    obtain ⟨k, hk, rfl, hbel, C, hC, hsz, HC⟩ := hrel
    by_cases hlt : k < n
    · obtain ⟨x0, y0⟩ : ∃ v, wr.cell? ⟨w1.heap.size, k * 3, none⟩ = some v := ⟨C[k * 3]'(by omega), cell_of hC (Array.getElem?_eq_getElem _)⟩
      obtain ⟨x1, y1⟩ : ∃ v, wr.cell? ⟨w1.heap.size, k * 3 + 1, none⟩ = some v := ⟨C[k * 3 + 1]'(by omega), cell_of hC (Array.getElem?_eq_getElem _)⟩
      obtain ⟨x2, y2⟩ : ∃ v, wr.cell? ⟨w1.heap.size, k * 3 + 2, none⟩ = some v := ⟨C[k * 3 + 2]'(by omega), cell_of hC (Array.getElem?_eq_getElem _)⟩
      have z0 : ∀ o, wr.frozen? ⟨w1.heap.size, o, none⟩ = false := fun o => by simp [World.frozen?, hC]
      go_wp2_with fail
      clear y0 y1 y2 z0
      go_roundw
      case rel =>
        obtain ⟨c1, c2, c3⟩ := put3 hC (by omega : k * 3 + 2 < C.size) (.int .i64 1) (.int .i64 ((n : Int) - k)) (.string { data := #[] })
        refine ⟨k + 1, by omega, by go_num, ?_, _, c1, by rw [c2, hsz], Lib.hid (fun j hj => ?_)⟩
        · exact ((hbel.setCell (p := ⟨w1.heap.size, k * 3, none⟩) (Nat.le_refl _) _).setCell (p := ⟨w1.heap.size, k * 3 + 1, none⟩) (Nat.le_refl _) _).setCell (p := ⟨w1.heap.size, k * 3 + 2, none⟩) (Nat.le_refl _) _
        · by_cases hjk : j = k
          · subst hjk
            exact c3.1
          · obtain ⟨a1, a2, a3⟩ := HC.out j (by omega)
            obtain ⟨-, c4⟩ := c3
            rw [c4 _ (by omega) (by omega) (by omega), c4 _ (by omega) (by omega) (by omega), c4 _ (by omega) (by omega) (by omega)]
            exact ⟨a1, a2, a3⟩
      case measure => simp [intOf]; omega
    · obtain rfl : k = n := by omega
      have hc : Consts wr (some ⟨w1.heap.size, 0, none⟩) (csL k) := consts_csL hC HC.out
      clear HC hC hsz hC0 hlt hk
      obtain ⟨b, hb⟩ : ∃ b, w1.heap.size = b := ⟨_, rfl⟩
      have hwr : Below w.heap.size w wr := hb1.trans (hbel.mono hb1.size)
      rw [hb] at hc ⊢
      clear hbel hb1 hb
      by_cases h6 : k ≤ 65536
      · have d : decide ((65536 : Int) < (k : Int)) = false := by simp; omega
        go_wp2_with fail
        refine (new_one _ wr.heap.size (by simp)).mono ?_
        rintro e w2 ⟨sb, τ1, rfl, S1, T1, hb2⟩
        go_wp2_with fail
        have hb0 : Below w.heap.size w w2 := hwr.trans ((((Below.refl _ _).alloc (Nat.le_refl _) _).trans (hb2.mono (by simp))).mono hwr.size)
        have hnew : ∀ j, w2.heap.size ≤ j → τ1 j = none := T1.fresh
        refine (add_two_new S1 hnew 0 ((k : Int) - 1) (by omega) (by omega)).mono ?_
        rintro e w3 ⟨q, rfl, τ2, S2, T2⟩
        have hz := hwr.size
        have hb3 : Below w.heap.size w w3 := turn_old T1 T2 (by simp; omega) (hb0.trans (((((Below.refl _ _).alloc (Nat.le_refl _) _).alloc (by simp) _).alloc (by simp; omega) _).mono hb0.size)) hb0.size
        have hc3 : Consts w3 (some ⟨b, 0, none⟩) (csL k) := consts_turn T1 T2 hc (by simp) (((Below.refl _ _).alloc (Nat.le_refl _) _).trans (hb2.mono (by simp)))
        obtain ⟨hd, S2⟩ := S2
        clear hnew T1 T2 S1 hb0 hb2 hc
        go_wp2_with fail
        refine (consts_all S2 h6 (by omega) hc3).mono ?_
        rintro e w4 ⟨v, ob, rfl, O4, hb4, ho4⟩
        have hB4 : Below w.heap.size w w4 := hb3.trans ((((((Below.refl _ _).alloc (Nat.le_refl _) _).alloc (by simp) _).alloc (by simp; omega) _).trans (hb4.mono (by simp; omega))).mono hb3.size)
        obtain ⟨a, c, rfl, L4⟩ := O4.lists
        clear hb4 ho4 O4 hb3
        go_wp2_with fail
        refine (same_one L4 (by simp)).mono ?_
        rintro e w5 ⟨rfl, hb5⟩
        go_wp2_with fail
        go_ret
        exact ⟨rfl, hB4.trans ((((((Below.refl _ _).alloc (Nat.le_refl _) _).alloc (by simp) _).alloc (by simp; omega) _).trans (hb5.mono (by simp; omega))).mono hB4.size)⟩
      · have d : decide ((65536 : Int) < (k : Int)) = true := by simp; omega
        go_wp2_with fail
        refine (new_one _ wr.heap.size (by simp)).mono ?_
        rintro e w2 ⟨sb, τ1, rfl, S1, T1, hb2⟩
        go_wp2_with fail
        have hb0 : Below w.heap.size w w2 := hwr.trans ((((Below.refl _ _).alloc (Nat.le_refl _) _).trans (hb2.mono (by simp))).mono hwr.size)
        have hnew : ∀ j, w2.heap.size ≤ j → τ1 j = none := T1.fresh
        refine (add_two_new S1 hnew 0 ((k : Int) - 1) (by omega) (by omega)).mono ?_
        rintro e w3 ⟨q, rfl, τ2, S2, T2⟩
        have hz := hwr.size
        have hb3 : Below w.heap.size w w3 := turn_old T1 T2 (by simp; omega) (hb0.trans (((((Below.refl _ _).alloc (Nat.le_refl _) _).alloc (by simp) _).alloc (by simp; omega) _).mono hb0.size)) hb0.size
        obtain ⟨hd, S2⟩ := S2
        clear hnew T1 T2 S1 hb0 hb2 hc
        go_wp2_with fail
        refine (consts_no S2 (by omega)).mono ?_
        rintro e w4 ⟨rfl, hb4⟩
        have hB4 : Below w.heap.size w w4 := hb3.trans ((((((Below.refl _ _).alloc (Nat.le_refl _) _).alloc (by simp) _).alloc (by simp; omega) _).trans (hb4.mono (by simp; omega))).mono hb3.size)
        go_wp2_with fail
        go_ret
        exact ⟨rfl, hB4⟩
end Mt
end Go.Proofs.Ytkejjiohkhlnnaa

namespace Go.Proofs.Ytkejjiohkhlnnaa.matchConstsLaw
open Go.ChangeShapes Go.WideShapes Go.ChangeAt Go.RowKit Go.Joins
open Go.ChangeMaps (open_string shut_string)

theorem own : ownKnob Try.prog.godebug = none := by kernel_rfl
theorem laidOut : laidOutB Try.prog = true := by kernel_rfl

set_option maxRecDepth 100000 in
theorem lifted (os : Os) (started : os.Started) (H : Type) (enc : TypeId × Value → H) :
    ReturnsInHanded {} Try.checked os 9 .any (Rows.matchConstsSpec.pre6 enc Try.prog Try.f9 Rows.matchConstsRow.domain false) (Rows.matchConstsSpec.post enc Try.prog Try.f9 false true false false) := by
  refine returnsInHanded_of_change_sized (C := Try.checked) own started (by kernel_rfl) Try.func9
    (ChangeSpec.witness6 (enc := enc) (C := Try.checked) false ⟨#[], #[.int .i64 0], []⟩ 8 (by kernel_rfl) (by kernel_rfl) (by kernel_rfl) (by kernel_rfl)) ?_
  intro W base args ds gs before hval0 hW _ hsz0 _
  have hsz : (DataW.weightsEach Try.prog (Try.f9.params.toList ++ Rows.matchConstsSpec.plain.varTypes Try.prog) (ds ++ gs)).all (· ≤ reachBytes) = true := hsz0
  clear hsz0
  have hval : ∀ (j : Nat) t v, Try.f9.params[j]? = some t → args[j]? = some v → Value.okWide Try.prog W .any base t v := hval0
  have hW' := hW
  obtain ⟨p, q, hA0, hV, rfl, hfz, hnd⟩ := hW
  have hA : DataW.TrodAll enc Try.prog W 0 (fun _ => true) true Try.f9.params.toList args.toList ds p := hA0
  rw [Try.params9] at hA hval hsz
  obtain ⟨v0, vs0, d0, ds0, p0, q0, hargs, rfl, rfl, h0, r0⟩ := trodAll_cons hA
  obtain ⟨rfl, rfl, rfl⟩ := trodAll_nil r0
  obtain rfl : args = #[v0] := by cases args; simp_all
  obtain ⟨rfl, rfl⟩ := trodVars_none hV
  have k0 := h0
  have lt0 : ∀ x ∈ p0, x.block < W.heap.size := by obtain ⟨m, hm⟩ := k0; exact DataW.trod_lt m _ _ _ hm
  obtain ⟨a0, rfl, _, _, w0⟩ := open_int Try.underlying3 (hval 0 3 v0 rfl rfl) h0
  clear hA0 hval0
  simp only [List.append_nil] at hW'
  refine (Mt.matchConsts_any a0 W ).mono fun e W' ⟨he, bel⟩ => ?_
  subst he
  exact ⟨_, rfl, _, _, _, [], _, [], hW', trodAll_mk1 (shut_bool Try.underlying4 _), (trodAll_cons_mk (Below.trod laidOut (by kernel_rfl) (of_decide_eq_true (by kernel_rfl)) k0 bel lt0) trodAll_mk0), rfl, bel.frame _, fun h => by cases h⟩

theorem proved : Rows.MatchConstsSaid :=
  OpenClaim.holds_of_wide 9 Try.f9 rfl rfl rfl rfl rfl rfl rfl ⟨rfl, rfl, rfl, rfl, rfl⟩ rfl rfl rfl rfl rfl (by kernel_rfl) Try.func9 (by kernel_rfl)
    (of_decide_eq_true (by kernel_rfl)) (by unfold Func.isWrapper; first | (rw [if_pos (by decide +kernel)]; kernel_rfl) | (rw [if_neg (by decide +kernel)]; exact ⟨rfl, rfl⟩))
    (fun os started H enc _ => lifted os started H enc)
#print axioms proved
end Go.Proofs.Ytkejjiohkhlnnaa.matchConstsLaw
