/-
  Match: several of its texts in one.
-/
import Derived.Test.YtkejjiohkhlnnaaBase
import Derived.Test.YtkejjiohkhlnnaaRows
import Derived.Lib.ReflectliteSlice
import Derived.Lib.ReflectliteSwap
import Derived.Laws.Externs
import Derived.WalkKit
import Derived.LoopN
import Derived.BigCall
import Derived.BigGuard
import Derived.Deep.Cut
import Derived.Deep.DeepCutAuto
import Derived.Test.YtkejjiohkhlnnaaQ3
namespace Go.Proofs.Ytkejjiohkhlnnaa
open Go.RowKit Go.Lib
namespace Mt
namespace Srt

noncomputable def siT : TypeInfo := (Try.prog.info? 38).get (by kernel_rfl)
noncomputable def siE : TypeInfo := (Try.prog.info? 22).get (by kernel_rfl)
theorem infoT : Try.prog.info? 38 = some siT := by kernel_rfl
theorem infoE : Try.prog.info? 22 = some siE := by kernel_rfl
theorem descT : siT.desc = .slice 22 := by kernel_rfl
theorem packT : Try.prog.packed 38 = false := by kernel_rfl
theorem kindE (w : World) : (Extern.Rtype.kind 22).run Try.prog w = .ok 23 w := by kernel_rfl
theorem siK : swapperK 2 siE 23 = 9 := by kernel_rfl
theorem find9 : Try.prog.funcs.findIdx? (·.name == "internal/reflectlite" ++ ".Swapper$" ++ toString (swapperK 2 siE 23)) = some 100 := by rw [siK]; kernel_rfl
theorem aggE (w : World) : (isAgg 22).run Try.prog w = .ok false w := by kernel_rfl
theorem sizeE : siE.size = 1 := by kernel_rfl

set_option maxHeartbeats 4000000 in
set_option maxRecDepth 100000 in
theorem len64_two (w : World) : Calls Try.prog 102 #[.int .u64 2] w fun e w' => e = .returned (.int .i64 2) ∧ w = w' := by
  go_enter Try.func102, Try.ntmps102
  go_wp2
  go_ret
  exact ⟨by kernel_rfl, rfl⟩
theorem len_two (w : World) : Calls Try.prog 89 #[.int .u64 2] w fun e w' => e = .returned (.int .i64 2) ∧ w = w' := by
  go_enter Try.func89, Try.ntmps89
  go_wp2_with (go_at_call 102; refine (len64_two _).mono ?_; rintro e w' ⟨rfl, rfl⟩)
  go_ret
  exact ⟨rfl, rfl⟩
/-- the world in which pdqsort_func is called -/
noncomputable def sliceW (p : Option Addr) (c : Nat) (w : World) : World :=
  (w.alloc (.cells #[.slice p 2 c] 38)).alloc (.cells #[.pointer (some ⟨Try.prog.globals.size, 38, none⟩), .pointer (some ⟨w.heap.size, 0, none⟩), .int .u64 151] 147)
set_option maxHeartbeats 4000000 in
set_option maxRecDepth 100000 in
theorem slice_of_pdq (p : Option Addr) (c : Nat) (lf : Fn) (la lb : Array Value) (w : World) (R : World → Prop)
    (hp : Calls Try.prog 90 #[.agg #[.func lf la lb, .func (.func 100) #[] #[.slice p 2 c, typeHandle Try.prog 22]], .int .i64 0, .int .i64 2, .int .i64 2] (sliceW p c w) fun e w' => e = .returned (.tuple #[]) ∧ R w') :
    Calls Try.prog 74 #[.iface 38 (.slice p 2 c), .func lf la lb] w fun e w' => e = .returned (.tuple #[]) ∧ R w' := by
  have hv := run_valueOf_slice (P := Try.prog) 38 22 siT infoT descT p 2 c w
  have hs := fun w => run_swapper_slice (P := Try.prog) 38 22 siT siE infoT descT infoE 23 kindE p 2 c _ find9 w
  rw [siK, if_neg (by decide)] at hs
  have hl := fun a w ha => run_valueLen_slice (P := Try.prog) 38 22 siT infoT descT packT a p 2 c w ha
  unfold sliceW at hp
  simp only [typeHandle] at hv hl
  have hgs : Try.prog.globals.size = 0 := by kernel_rfl
  rw [hgs] at hv hp
  simp only [hgs] at hl
  have wr : IntKind.u64.wrap (2 : Int) = 2 := by decide
  go_enter Try.func74, Try.ntmps74
  go_wp2
  rw [run_callFunc_extern Try.func86 (by kernel_rfl) (by kernel_rfl) (by kernel_rfl) (e := fun args => Extern.ReflectliteValue.unpack (args.getD 0 (.tuple #[]))) (by kernel_rfl),
    show Sem.run Try.prog ((fun args : Array Value => Extern.ReflectliteValue.unpack (args.getD 0 (.tuple #[]))) #[.iface 38 (.slice p 2 c)]) w = _ from hv]
  simp only [Result.andThen]
  rw [Oper.upon_value]
  go_wp2
  rw [run_callFunc_extern Try.func87 (by kernel_rfl) (by kernel_rfl) (by kernel_rfl) (e := Extern.ReflectliteSwapper.swapper "internal/reflectlite" (Extern.ReflectliteValue.valueError "Swapper")) (by kernel_rfl), hs]
  simp only [Result.andThen]
  rw [Oper.upon_value]
  go_wp2
  rw [run_callFunc_extern Try.func88 (by kernel_rfl) (by kernel_rfl) (by kernel_rfl) (e := Extern.ReflectliteValue.method (Extern.ReflectliteValue.valueError "reflectlite.Value.Len" 0) Extern.ReflectliteValue.len) (by kernel_rfl),
    hl _ _ (by simp)]
  simp only [Result.andThen]
  rw [Oper.upon_value]
  go_wp2_with (first
    | (go_at_call 89; refine (len_two _).mono ?_; rintro e w' ⟨rfl, rfl⟩)
    | (go_at_call 90; refine hp.mono ?_; rintro e w' ⟨rfl, hR⟩))
  go_end0
  exact ⟨rfl, hR⟩
theorem swap_run (blk c : Nat) (x0 x1 : Value) (h0 : x0.oneCell' = true) (h1 : x1.oneCell' = true) (V : World) (c0 : V.cell? ⟨blk, 0, none⟩ = some x0) (c1 : V.cell? ⟨blk, 1, none⟩ = some x1) (f0 : V.frozen? ⟨blk, 0, none⟩ = false) (f1 : V.frozen? ⟨blk, 1, none⟩ = false) :
    (callFunc 100 #[.int .i64 1, .int .i64 0, .slice (some ⟨blk, 0, none⟩) 2 c, typeHandle Try.prog 22]).run Try.prog V = .ok (.value (.tuple #[])) ((V.setCell ⟨blk, 1, none⟩ x0).setCell ⟨blk, 0, none⟩ x1) := by
  have h := run_swap_one (P := Try.prog) false 22 siE infoE sizeE aggE blk 0 2 c 1 0 (by omega) (by omega) x1 x0 h1 h0 V (by simpa using c1) (by simpa using c0) (by simpa using f1) (by simpa using f0)
  rw [run_callFunc_extern Try.func100 (by kernel_rfl) (by kernel_rfl) (by kernel_rfl) (e := Extern.ReflectliteSwapper.swap false) (by kernel_rfl)]
  simp only [Nat.zero_add, Int.ofNat_one, Int.natCast_zero] at h
  have h' : (Extern.ReflectliteSwapper.swap false #[.int .i64 1, .int .i64 0, .slice (some ⟨blk, 0, none⟩) 2 c, typeHandle Try.prog 22]).run Try.prog V = .ok (.tuple #[]) ((V.setCell ⟨blk, 1, none⟩ x0).setCell ⟨blk, 0, none⟩ x1) := h
  rw [h']
  rfl
/-- the two elements, exchanged if b -/
def swp (blk : Nat) (x0 x1 : Value) (b : Bool) (V : World) : World := if b then (V.setCell ⟨blk, 1, none⟩ x0).setCell ⟨blk, 0, none⟩ x1 else V
/-- what the sort of two leaves -/
def Sorted2 (blk : Nat) (x0 x1 : Value) (b : Bool) (W w' : World) : Prop := ∃ V, Below W.heap.size W V ∧ Below (swp blk x0 x1 b V).heap.size (swp blk x0 x1 b V) w'
set_option maxHeartbeats 4000000 in
set_option maxRecDepth 100000 in
theorem insertion_two {blk c : Nat} {x0 x1 : Value} (h0 : x0.oneCell' = true) (h1 : x1.oneCell' = true) (b : Bool) (l0 l1 : Value) (W : World) (hc0 : W.cell? ⟨blk, 0, none⟩ = some x0) (hc1 : W.cell? ⟨blk, 1, none⟩ = some x1) (hf0 : W.frozen? ⟨blk, 0, none⟩ = false) (hf1 : W.frozen? ⟨blk, 1, none⟩ = false)
    (hless : ∀ V, Below W.heap.size W V → Calls Try.prog 75 #[.int .i64 1, .int .i64 0, l0, l1] V fun e w' => e = .returned (.bool b) ∧ Below V.heap.size V w') :
    Calls Try.prog 103 #[.agg #[.func (.func 75) #[] #[l0, l1], .func (.func 100) #[] #[.slice (some ⟨blk, 0, none⟩) 2 c, typeHandle Try.prog 22]], .int .i64 0, .int .i64 2] W fun e w' => e = .returned (.tuple #[]) ∧ Sorted2 blk x0 x1 b W w' := by
  obtain ⟨rb, hrb⟩ : ∃ r, r = W.heap.size := ⟨_, rfl⟩
  obtain ⟨th, hth⟩ : ∃ v, v = typeHandle Try.prog 22 := ⟨_, rfl⟩
  have cS := fun V c0 c1 f0 f1 => Lib.hid (swap_run blk c x0 x1 h0 h1 V c0 c1 f0 f1)
  rw [← hth] at cS ⊢
  obtain ⟨W0, hW0⟩ : ∃ V, V = W.alloc (.cells #[.func (.func 75) #[] #[l0, l1], .func (.func 100) #[] #[.slice (some ⟨blk, 0, none⟩) 2 c, th]] 155) := ⟨_, rfl⟩
  have hb0 : Below W.heap.size W W0 := by rw [hW0]; exact (Below.refl _ _).alloc (Nat.le_refl _) _
  have y0 : W0.cell? ⟨rb, 0, none⟩ = some (.func (.func 75) #[] #[l0, l1]) := by rw [hW0, hrb]; simp
  have y1 : W0.cell? ⟨rb, 1, none⟩ = some (.func (.func 100) #[] #[.slice (some ⟨blk, 0, none⟩) 2 c, th]) := by rw [hW0, hrb]; simp
  have cL := Lib.hid (hless W0 hb0)
  have HW0 := Lib.hid hW0
  have Hrb := Lib.hid hrb
  have hblk := World.block_lt_of_cell? _ _ hc0
  simp only at hblk
  clear hW0 hrb hless hth
  go_enter Try.func103, Try.ntmps103
  go_upto_region 1 with fail
  rw [← HW0.out, ← Hrb.out]
  go_wp2_with fail
  refine wp_loop_rounds 2 ?_
  rw [rounds_succ]
  go_wp2_with fail
  refine wp_loop_rounds 2 ?_
  rw [rounds_succ]
  go_wp2_with fail
  refine cL.out.mono ?_
  rintro e w1 ⟨rfl, hb1⟩
  have hbw : Below W.heap.size W w1 := hb0.trans (hb1.mono hb0.size)
  have y1 := (hb1.cell (p := ⟨rb, 1, none⟩) (World.block_lt_of_cell? _ _ y1)).trans y1
  have c0 := (hbw.cell (p := ⟨blk, 0, none⟩) hblk).trans hc0
  have c1 := (hbw.cell (p := ⟨blk, 1, none⟩) hblk).trans hc1
  have f0 := (hbw.frozen (p := ⟨blk, 0, none⟩) hblk).trans hf0
  have f1 := (hbw.frozen (p := ⟨blk, 1, none⟩) hblk).trans hf1
  have hsw := (cS w1 c0 c1 f0 f1).out
  cases b with
  | true =>
    have hF : Hid (Sorted2 blk x0 x1 true W ((w1.setCell ⟨blk, 1, none⟩ x0).setCell ⟨blk, 0, none⟩ x1)) := Lib.hid ⟨w1, hbw, Below.refl _ _⟩
    clear hb0 hb1 y0 cL hbw cS hc0 hc1 hf0 hf1 c0 c1 f0 f1
    go_wp2_with fail
    rw [rounds_succ]
    go_wp2_with fail
    rw [rounds_succ]
    go_wp2_with fail
    go_end0
    exact ⟨rfl, hF.out⟩
  | false =>
    have hF : Hid (Sorted2 blk x0 x1 false W w1) := Lib.hid ⟨w1, hbw, Below.refl _ _⟩
    clear hb0 hb1 y0 cL hbw cS hc0 hc1 hf0 hf1 c0 c1 f0 f1 hsw
    go_wp2_with fail
    rw [rounds_succ]
    go_wp2_with fail
    go_end0
    exact ⟨rfl, hF.out⟩
set_option maxHeartbeats 4000000 in
set_option maxRecDepth 100000 in
theorem pdq_two {blk c : Nat} {x0 x1 : Value} (h0 : x0.oneCell' = true) (h1 : x1.oneCell' = true) (b : Bool) (l0 l1 : Value) (W : World) (hc0 : W.cell? ⟨blk, 0, none⟩ = some x0) (hc1 : W.cell? ⟨blk, 1, none⟩ = some x1) (hf0 : W.frozen? ⟨blk, 0, none⟩ = false) (hf1 : W.frozen? ⟨blk, 1, none⟩ = false)
    (hless : ∀ V, Below W.heap.size W V → Calls Try.prog 75 #[.int .i64 1, .int .i64 0, l0, l1] V fun e w' => e = .returned (.bool b) ∧ Below V.heap.size V w') :
    Calls Try.prog 90 #[.agg #[.func (.func 75) #[] #[l0, l1], .func (.func 100) #[] #[.slice (some ⟨blk, 0, none⟩) 2 c, typeHandle Try.prog 22]], .int .i64 0, .int .i64 2, .int .i64 2] W fun e w' => e = .returned (.tuple #[]) ∧ Sorted2 blk x0 x1 b W w' := by
  obtain ⟨th, hth⟩ : ∃ v, v = typeHandle Try.prog 22 := ⟨_, rfl⟩
  obtain ⟨W0, hW0⟩ : ∃ V, V = W.alloc (.cells #[.func (.func 75) #[] #[l0, l1], .func (.func 100) #[] #[.slice (some ⟨blk, 0, none⟩) 2 c, th]] 155) := ⟨_, rfl⟩
  have hb0 : Below W.heap.size W W0 := by rw [hW0]; exact (Below.refl _ _).alloc (Nat.le_refl _) _
  have hblk := World.block_lt_of_cell? _ _ hc0
  simp only at hblk
  have cI := Lib.hid (insertion_two (blk := blk) (c := c) h0 h1 b l0 l1 W0 ((hb0.cell (p := ⟨blk, 0, none⟩) hblk).trans hc0) ((hb0.cell (p := ⟨blk, 1, none⟩) hblk).trans hc1) ((hb0.frozen (p := ⟨blk, 0, none⟩) hblk).trans hf0) ((hb0.frozen (p := ⟨blk, 1, none⟩) hblk).trans hf1) (fun V hV => hless V (hb0.trans (hV.mono hb0.size))))
  rw [← hth] at cI ⊢
  have Hb0 := Lib.hid hb0
  rw [hW0] at cI
  have HW0 := Lib.hid hW0
  clear hless hc0 hc1 hf0 hf1 hth hb0 hW0
  go_enter Try.func90, Try.ntmps90
  go_wp2_with fail
  refine wp_loop_rounds 1 ?_
  rw [rounds_succ]
  go_wp2_with fail
  refine cI.out.mono ?_
  rintro e w' ⟨rfl, V, hV, hw⟩
  have hF : Hid (Sorted2 blk x0 x1 b W w') := Lib.hid ⟨V, by rw [← HW0.out] at hV; exact Hb0.out.trans (hV.mono Hb0.out.size), hw⟩
  clear hV hw cI
  go_wp2_with fail
  refine bodyPost_ret (v := .tuple #[]) (results_none Try.results90 _ _ _) rfl ?_
  exact ⟨rfl, hF.out⟩
theorem slice_two {blk c : Nat} {x0 x1 : Value} (h0 : x0.oneCell' = true) (h1 : x1.oneCell' = true) (b : Bool) (l0 l1 : Value) (W : World) (hc0 : W.cell? ⟨blk, 0, none⟩ = some x0) (hc1 : W.cell? ⟨blk, 1, none⟩ = some x1) (hf0 : W.frozen? ⟨blk, 0, none⟩ = false) (hf1 : W.frozen? ⟨blk, 1, none⟩ = false)
    (hless : ∀ V, Below W.heap.size W V → Calls Try.prog 75 #[.int .i64 1, .int .i64 0, l0, l1] V fun e w' => e = .returned (.bool b) ∧ Below V.heap.size V w') :
    Calls Try.prog 74 #[.iface 38 (.slice (some ⟨blk, 0, none⟩) 2 c), .func (.func 75) #[] #[l0, l1]] W fun e w' => e = .returned (.tuple #[]) ∧ Sorted2 blk x0 x1 b W w' := by
  have hblk := World.block_lt_of_cell? _ _ hc0
  simp only at hblk
  have hb : Below W.heap.size W (sliceW (some ⟨blk, 0, none⟩) c W) := by
    unfold sliceW
    exact ((Below.refl _ _).alloc (Nat.le_refl _) _).alloc (by simp) _
  refine slice_of_pdq (some ⟨blk, 0, none⟩) c (.func 75) #[] #[l0, l1] W (Sorted2 blk x0 x1 b W) ?_
  refine (pdq_two (blk := blk) (c := c) h0 h1 b l0 l1 _ ((hb.cell (p := ⟨blk, 0, none⟩) hblk).trans hc0) ((hb.cell (p := ⟨blk, 1, none⟩) hblk).trans hc1) ((hb.frozen (p := ⟨blk, 0, none⟩) hblk).trans hf0) ((hb.frozen (p := ⟨blk, 1, none⟩) hblk).trans hf1) (fun V hV => hless V (hb.trans (hV.mono hb.size)))).mono ?_
  rintro e w' ⟨rfl, V, hV, hw⟩
  exact ⟨rfl, V, hb.trans (hV.mono hb.size), hw⟩
end Srt
end Mt
end Go.Proofs.Ytkejjiohkhlnnaa

namespace Go.Proofs.Ytkejjiohkhlnnaa
open Go.RowKit
namespace Mt

/-- how two ids stand, by their constants -/
def cmpAt (cs : List C3) (x y : Int) : Int :=
  match cs[x.toNat]?, cs[y.toNat]? with
  | some a, some b => Sym.cmpC a.1 a.2.1 a.2.2.toList b.1 b.2.1 b.2.2.toList
  | _, _ => 0
/-- is a substitution ahead of another one? -/
def lessL (cs : List C3) : List Int → List Int → Bool
  | x :: xs, y :: ys => if cmpAt cs x y ≠ 0 then decide (cmpAt cs x y < 0) else lessL cs xs ys
  | _, _ => false
theorem lessL_at {cs : List C3} {xs ys : List Int} {k : Nat} {x y : Int} (hx : xs[k]? = some x) (hy : ys[k]? = some y) : lessL cs (xs.drop k) (ys.drop k) = if cmpAt cs x y ≠ 0 then decide (cmpAt cs x y < 0) else lessL cs (xs.drop (k + 1)) (ys.drop (k + 1)) := by
  rw [drop_at hx, drop_at hy]
  rfl
/-- ids of constants -/
def IdsOk (n : Nat) (xs : List Int) : Prop := ∀ x ∈ xs, 0 ≤ x ∧ x < n
set_option maxHeartbeats 8000000 in
set_option maxRecDepth 100000 in
theorem less_any (sb cb blk : Nat) (n c i j : Nat) (ca : Option Addr) (cc : Nat) (cs : List C3) (xs ys : List Int) (ai aj : Option Addr) (ci cj : Nat) (W : World) (hs : W.cell? ⟨sb, 0, none⟩ = some (.slice (some ⟨blk, 0, none⟩) n c)) (hcb : W.cell? ⟨cb, 0, none⟩ = some (.slice ca cs.length cc)) (hcs : Consts W ca cs)
    (hi : W.cell? ⟨blk, i, none⟩ = some (.slice ai xs.length ci)) (hj : W.cell? ⟨blk, j, none⟩ = some (.slice aj ys.length cj)) (hin : i < n) (hjn : j < n) (hx : Ints W ai xs) (hy : Ints W aj ys) (hl : xs.length = ys.length) (hl6 : xs.length ≤ 16) (ox : IdsOk cs.length xs) (oy : IdsOk cs.length ys) :
    Calls Try.prog 75 #[.int .i64 i, .int .i64 j, .pointer (some ⟨sb, 0, none⟩), .pointer (some ⟨cb, 0, none⟩)] W fun e w' => e = .returned (.bool (lessL cs xs ys)) ∧ Below W.heap.size W w' := by
  obtain ⟨R, hR⟩ : ∃ R, R = lessL cs xs ys := ⟨_, rfl⟩
  rw [← hR]
  have HR := Lib.hid hR
  have HC := Lib.hid hcs
  have HX := Lib.hid hx
  have HY := Lib.hid hy
  have OX := Lib.hid ox
  have OY := Lib.hid oy
  obtain ⟨m, hm⟩ : ∃ m, m = xs.length := ⟨_, rfl⟩
  obtain ⟨cn, hcn⟩ : ∃ m, m = cs.length := ⟨_, rfl⟩
  rw [← hl] at hj
  rw [← hm] at hi hj hl6
  rw [← hcn] at hcb
  have Hm := Lib.hid hm
  have Hcn := Lib.hid hcn
  have HL := Lib.hid hl
  clear hR hcs hx hy ox oy hm hcn hl
  go_enter Try.func75, Try.ntmps75
  go_wp2_with fail
  go_loopw [15] (fun t wr => ∃ k : Nat, k ≤ m ∧ t = .int .i64 k ∧ Below W.heap.size W wr ∧ Hid (R = lessL cs (xs.drop k) (ys.drop k))) (fun t _ => m - (intOf t).toNat)
  case atStart => exact ⟨0, Nat.zero_le _, rfl, Below.refl _ _, Lib.hid HR.out⟩
  case round =>
    obtain ⟨k, hk, rfl, hbel, HK⟩ := hrel
    by_cases hlt : k < m
    · obtain ⟨bx, px, rfl, x, c1, hxk⟩ := ints_some HX.out (k := k) (by rw [← Hm.out]; exact hlt)
      obtain ⟨by', py, rfl, y, c2, hyk⟩ := ints_some HY.out (k := k) (by rw [← HL.out, ← Hm.out]; exact hlt)
      obtain ⟨x0, x1⟩ := OX.out x (List.mem_of_getElem? hxk.out)
      obtain ⟨y0, y1⟩ := OY.out y (List.mem_of_getElem? hyk.out)
      rw [← Hcn.out] at x1 y1
      obtain ⟨p, rfl⟩ := Int.eq_ofNat_of_zero_le x0
      obtain ⟨q, rfl⟩ := Int.eq_ofNat_of_zero_le y0
      have hpn : p < cn := by omega
      have hqn : q < cn := by omega
      clear x0 x1 y0 y1
      rcases HC.out with h | ⟨bc, oc, rfl, hcc⟩
      · rw [Hcn.out, h] at hpn; simp at hpn
      · obtain ⟨⟨k1, i1, s1⟩, d0, d1, d2, hd⟩ := consts_at hcc (k := p) (by rw [← Hcn.out]; exact hpn)
        obtain ⟨⟨k2, i2, s2⟩, g0, g1, g2, hg⟩ := consts_at hcc (k := q) (by rw [← Hcn.out]; exact hqn)
        simp only at d0 d1 d2 g0 g1 g2
        have hcm : cmpAt cs p q = Sym.cmpC k1 i1 s1.toList k2 i2 s2.toList := by
          unfold cmpAt
          simp only [Int.toNat_natCast, hd.out, hg.out]
        obtain ⟨cm, hcmv⟩ : ∃ v, v = cmpAt cs p q := ⟨_, rfl⟩
        have cC := fun V => Lib.hid (Sym.compare_any k1 i1 s1 k2 i2 s2 V)
        rw [← hcm, ← hcmv] at cC
        have HN : Hid (R = if cm ≠ 0 then decide (cm < 0) else lessL cs (xs.drop (k + 1)) (ys.drop (k + 1))) := Lib.hid (by rw [HK.out, lessL_at hxk.out hyk.out, hcmv])
        have e1 := below_cell hbel (Nat.le_refl _) c1
        have e2 := below_cell hbel (Nat.le_refl _) c2
        have e3 := below_cell hbel (Nat.le_refl _) d0
        have e4 := below_cell hbel (Nat.le_refl _) d1
        have e5 := below_cell hbel (Nat.le_refl _) d2
        have e6 := below_cell hbel (Nat.le_refl _) g0
        have e7 := below_cell hbel (Nat.le_refl _) g1
        have e8 := below_cell hbel (Nat.le_refl _) g2
        have e9 := below_cell hbel (Nat.le_refl _) hs
        have ea := below_cell hbel (Nat.le_refl _) hcb
        have eb := below_cell hbel (Nat.le_refl _) hj
        clear HK hcm hcmv hd hg c1 c2 d0 d1 d2 g0 g1 g2 hcc hxk hyk
        go_upto_region 4 with fail
        go_region_held3 (fun w' => w'.cell? ⟨sb, 0, none⟩ = some (.slice (some ⟨blk, 0, none⟩) n c) ∧ w'.cell? ⟨cb, 0, none⟩ = some (.slice (some ⟨bc, oc, none⟩) cn cc) ∧ w'.cell? ⟨blk, j, none⟩ = some (.slice (some ⟨by', py, none⟩) m cj) ∧ w'.cell? ⟨by', py + k, none⟩ = some (.int .i64 q) ∧ w'.cell? ⟨bc, oc + p * 3, none⟩ = some (.int .i64 k1) ∧ w'.cell? ⟨bc, oc + p * 3 + 1, none⟩ = some (.int .i64 i1) ∧ w'.cell? ⟨bc, oc + p * 3 + 2, none⟩ = some (.string s1) ∧ w'.cell? ⟨bc, oc + q * 3, none⟩ = some (.int .i64 k2) ∧ w'.cell? ⟨bc, oc + q * 3 + 1, none⟩ = some (.int .i64 i2) ∧ w'.cell? ⟨bc, oc + q * 3 + 2, none⟩ = some (.string s2)) (first | assumption | exact ⟨e9, ea, eb, e2, e3, e4, e5, e6, e7, e8⟩ | go_keep) (first
          | (go_at_call 28
             with_reducible refine (cC _).out.mono ?_
             rintro e V ⟨rfl, hbV⟩
             have hS := (⟨on_cell hbV e9, on_cell hbV ea, on_cell hbV eb, on_cell hbV e2, on_cell hbV e3, on_cell hbV e4, on_cell hbV e5, on_cell hbV e6, on_cell hbV e7, on_cell hbV e8⟩ : V.cell? ⟨sb, 0, none⟩ = some (.slice (some ⟨blk, 0, none⟩) n c) ∧ V.cell? ⟨cb, 0, none⟩ = some (.slice (some ⟨bc, oc, none⟩) cn cc) ∧ V.cell? ⟨blk, j, none⟩ = some (.slice (some ⟨by', py, none⟩) m cj) ∧ V.cell? ⟨by', py + k, none⟩ = some (.int .i64 q) ∧ V.cell? ⟨bc, oc + p * 3, none⟩ = some (.int .i64 k1) ∧ V.cell? ⟨bc, oc + p * 3 + 1, none⟩ = some (.int .i64 i1) ∧ V.cell? ⟨bc, oc + p * 3 + 2, none⟩ = some (.string s1) ∧ V.cell? ⟨bc, oc + q * 3, none⟩ = some (.int .i64 k2) ∧ V.cell? ⟨bc, oc + q * 3 + 1, none⟩ = some (.int .i64 i2) ∧ V.cell? ⟨bc, oc + q * 3 + 2, none⟩ = some (.string s2))))
        have hbW : Below W.heap.size W V := hbel.trans (((Below.refl _ wr).drew.trans hbV).mono hbel.size)
        clear hbel hbV hS e1 e2 e3 e4 e5 e6 e7 e8 e9 ea eb cC
        by_cases hc0 : cm = 0
        · subst hc0
          have HN2 : Hid (R = lessL cs (xs.drop (k + 1)) (ys.drop (k + 1))) := Lib.hid (by rw [HN.out]; simp)
          clear HN
          go_wp2_with fail
          go_roundw
          case rel => exact ⟨k + 1, by omega, by go_num, hbW, HN2⟩
          case measure => simp [intOf]; omega
        · have hne : (cm != 0) = true := by simpa using hc0
          have HN2 : Hid (R = decide (cm < 0)) := Lib.hid (by rw [HN.out, if_pos hc0])
          clear HN
          go_wp2_with fail
          go_ret
          have e := HN2.out
          subst e
          exact ⟨rfl, hbW⟩
    · have hRf : R = false := by
        rw [HK.out, List.drop_of_length_le (by rw [← Hm.out]; omega)]
        simp [lessL]
      subst hRf
      go_wp2_with fail
      go_ret
      exact ⟨rfl, hbel⟩
end Mt
end Go.Proofs.Ytkejjiohkhlnnaa

namespace Go.Proofs.Ytkejjiohkhlnnaa
open Go.RowKit
namespace Mt

/-- two lists in their order -/
def ord2 (cs : List C3) (y0 y1 : List Int) : List (List Int) := if lessL cs y1 y0 then [y1, y0] else [y0, y1]
theorem OutV.two {ob : Nat} {v : Value} {y0 y1 : List Int} {w : World} (O : OutV ob v [y0, y1] w) : ∃ blk c u0 u1 cur, v = .slice (some ⟨blk, 0, none⟩) 2 c ∧ ob < blk ∧ w.heap[blk]? = some (.cells cur 22 (0, 0)) ∧ cur[0]? = some u0 ∧ cur[1]? = some u1 ∧
    w.ownsRow (ob + 1) 3 1 u0 y0.length (y0.map (Value.int .i64)) ∧ w.ownsRow (ob + 1) 3 1 u1 y1.length (y1.map (Value.int .i64)) ∧ u0.ownBlock ≠ some blk ∧ u1.ownBlock ≠ some blk ∧ (∀ g, u0.ownBlock = some g → u1.ownBlock ≠ some g) ∧ u0.oneCell' = true ∧ u1.oneCell' = true := by
  obtain ⟨hs, h1, h2, h3⟩ := O.row
  obtain ⟨u0, a0, b0, d0⟩ := h2 0 y0 rfl
  obtain ⟨u1, a1, b1, d1⟩ := h2 1 y1 rfl
  have hl := h1.1
  rcases h1.2 with ⟨-, h⟩ | ⟨g, cap, cur, rfl, hg, hc, hnc, hcm, hsz, ht⟩
  · simp at h
  · have k0 : cur[0]? = some u0 := by
      have : (cur.toList.take 2)[0]? = some u0 := by
        rw [show cur.toList.take 2 = hs from ht]; exact a0
      simpa using this
    have k1 : cur[1]? = some u1 := by
      have : (cur.toList.take 2)[1]? = some u1 := by
        rw [show cur.toList.take 2 = hs from ht]; exact a1
      simpa using this
    obtain ⟨p0, q0, e0⟩ := owns_shape' b0
    obtain ⟨p1, q1, e1⟩ := owns_shape' b1
    exact ⟨g, cap, u0, u1, cur, rfl, by omega, hc, k0, k1, b0, b1, fun e => d0 _ e rfl, fun e => d1 _ e rfl, fun g' e => h3 0 1 u0 u1 (by omega) a0 a1 g' e, by rw [e0]; rfl, by rw [e1]; rfl⟩
theorem setSet {cur : Array Value} (hz : 1 < cur.size) (u0 u1 : Value) : ((cur.setIfInBounds 1 u0).setIfInBounds 0 u1).toList.take 2 = [u1, u0] := by
  obtain ⟨l⟩ := cur
  match l, hz with
  | a :: b :: r, _ => simp
/-- what the sort leaves of the list -/
def SubsEnd (ob : Nat) (v : Value) (acc : List (List Int)) (w : World) (e : Ending) (w' : World) : Prop := e = .returned (.tuple #[]) ∧ OutV ob v acc w' ∧ Below ob w w'
theorem sorted_out {ob : Nat} {y0 y1 : List Int} {w w' : World} {blk c : Nat} {cur : Array Value} {u0 u1 : Value} (b : Bool) (hO : OutV ob (.slice (some ⟨blk, 0, none⟩) 2 c) [y0, y1] w) (hob : ob < blk) (hc : w.heap[blk]? = some (.cells cur 22 (0, 0))) (_k0 : cur[0]? = some u0) (k1 : cur[1]? = some u1)
    (b0 : w.ownsRow (ob + 1) 3 1 u0 y0.length (y0.map (Value.int .i64))) (b1 : w.ownsRow (ob + 1) 3 1 u1 y1.length (y1.map (Value.int .i64))) (d0 : u0.ownBlock ≠ some blk) (d1 : u1.ownBlock ≠ some blk) (hd : ∀ g, u0.ownBlock = some g → u1.ownBlock ≠ some g)
    (h : Srt.Sorted2 blk u0 u1 b w w') : OutV ob (.slice (some ⟨blk, 0, none⟩) 2 c) (if b then [y1, y0] else [y0, y1]) w' ∧ Below ob w w' := by
  obtain ⟨V, hV, hw⟩ := h
  have hlt := hO.lt
  have hltb := (Array.getElem?_eq_some_iff.1 hc).1
  have OV := hO.below hV
  cases b with
  | false =>
    unfold Srt.swp at hw
    simp only [Bool.false_eq_true, if_false] at hw ⊢
    exact ⟨OV.below hw, (hV.mono (Nat.le_of_lt hlt)).trans (hw.mono (Nat.le_of_lt OV.lt))⟩
  | true =>
    unfold Srt.swp at hw
    simp only [if_true] at hw ⊢
    obtain ⟨V2, hV2⟩ : ∃ V2, V2 = (V.setCell ⟨blk, 1, none⟩ u0).setCell ⟨blk, 0, none⟩ u1 := ⟨_, rfl⟩
    rw [← hV2] at hw
    have hcV := (hV.block blk hltb).trans hc
    have hc1 : (V.setCell ⟨blk, 1, none⟩ u0).heap[blk]? = some (.cells (cur.setIfInBounds 1 u0) 22 (0, 0)) := heap_setCell hcV u0
    have hc2 : V2.heap[blk]? = some (.cells ((cur.setIfInBounds 1 u0).setIfInBounds 0 u1) 22 (0, 0)) := by rw [hV2]; exact heap_setCell hc1 u1
    have far : ∀ j, j ≠ blk → V2.heap[j]? = V.heap[j]? := fun j hj => by
      rw [hV2, Below.heap_setCell _ _ _ _ (fun e => hj e), Below.heap_setCell _ _ _ _ (fun e => hj e)]
    have s2 : V2.heap.size = V.heap.size := by rw [hV2]; simp
    have hb2 : Below ob V V2 := by
      rw [hV2]
      exact ((Below.refl _ _).setCell (p := ⟨blk, 1, none⟩) (Nat.le_of_lt hob) _).setCell (p := ⟨blk, 0, none⟩) (Nat.le_of_lt hob) _
    have bV0 := owns_below b0 hV (Nat.le_refl _)
    have bV1 := owns_below b1 hV (Nat.le_refl _)
    have e0 : V2.ownsRow (ob + 1) 3 1 u0 y0.length (y0.map (Value.int .i64)) := owns_block bV0 (fun g e => far g (fun e' => d0 (e' ▸ e)))
    have e1 : V2.ownsRow (ob + 1) 3 1 u1 y1.length (y1.map (Value.int .i64)) := owns_block bV1 (fun g e => far g (fun e' => d1 (e' ▸ e)))
    have O2 : OutV ob (.slice (some ⟨blk, 0, none⟩) 2 c) [y1, y0] V2 := by
      refine ⟨(far ob (by omega)).trans OV.box, [u1, u0], ⟨rfl, .inr ?_⟩, fun i xs hx => ?_, fun i j x x' hij hi hj g e => ?_⟩
      · obtain ⟨hs, h1, -⟩ := OV.row
        rcases h1.2 with ⟨h, -⟩ | ⟨g, cap, cur', h5, hg, hc', hnc, hcm, hsz, ht⟩
        · cases h
        · cases h5
          rw [hcV] at hc'
          cases hc'
          refine ⟨blk, c, _, rfl, hg, hc2, hnc, hcm, by simpa using hsz, ?_⟩
          have hz : 1 < cur.size := (Array.getElem?_eq_some_iff.1 k1).1
          exact setSet hz u0 u1
      · match i, hx with
        | 0, hx => simp at hx; subst hx; exact ⟨u1, rfl, e1, fun g e e' => d1 (by rw [e]; exact e'.symm)⟩
        | 1, hx => simp at hx; subst hx; exact ⟨u0, rfl, e0, fun g e e' => d0 (by rw [e]; exact e'.symm)⟩
        | i + 2, hx => simp at hx
      · match i, j, hi, hj with
        | 0, 1, hi, hj =>
          simp at hi hj
          subst hi; subst hj
          exact fun e' => hd g e' e
        | 0, 0, _, _ => omega
        | 1, 0, _, _ => omega
        | 1, 1, _, _ => omega
        | i + 2, _, hi, _ => simp at hi
        | _, j + 2, _, hj => simp at hj
    exact ⟨O2.below hw, (hV.mono (Nat.le_of_lt hlt)).trans (hb2.trans (hw.mono (Nat.le_of_lt O2.lt)))⟩
set_option maxHeartbeats 4000000 in
set_option maxRecDepth 100000 in
theorem sortSubs_two (ob : Nat) (v : Value) (y0 y1 : List Int) (ca : Option Addr) (cc : Nat) (cs : List C3) (W : World) (O : OutV ob v [y0, y1] W) (hc : Consts W ca cs) (hl : y1.length = y0.length) (hl6 : y0.length ≤ 16) (o0 : IdsOk cs.length y0) (o1 : IdsOk cs.length y1) :
    Calls Try.prog 50 #[.slice ca cs.length cc, v] W (SubsEnd ob v (ord2 cs y0 y1) W) := by
  obtain ⟨blk, c, u0, u1, cur, rfl, hob, hcb, k0, k1, b0, b1, d0, d1, hd, t0, t1⟩ := O.two
  obtain ⟨n, hn⟩ : ∃ n, n = cs.length := ⟨_, rfl⟩
  obtain ⟨W0, hW0⟩ : ∃ V, V = (W.alloc (.cells #[.slice ca n cc] 24)).alloc (.cells #[.slice (some ⟨blk, 0, none⟩) 2 c] 38) := ⟨_, rfl⟩
  have hb0 : Below W.heap.size W W0 := by rw [hW0]; exact ((Below.refl _ _).alloc (Nat.le_refl _) _).alloc (by simp) _
  have O0 := O.below hb0
  have hltb := (Array.getElem?_eq_some_iff.1 hcb).1
  have hcb0 := (hb0.block blk hltb).trans hcb
  have z0 : W0.cell? ⟨blk, 0, none⟩ = some u0 := by simp [World.cell?, hcb0, k0]
  have z1 : W0.cell? ⟨blk, 1, none⟩ = some u1 := by simp [World.cell?, hcb0, k1]
  have f0 : W0.frozen? ⟨blk, 0, none⟩ = false := by simp [World.frozen?, hcb0]
  have f1 : W0.frozen? ⟨blk, 1, none⟩ = false := by simp [World.frozen?, hcb0]
  have hlt := O.lt
  obtain ⟨p0, q0, rfl⟩ := owns_shape' b0
  obtain ⟨p1, q1, rfl⟩ := owns_shape' b1
  have i0 : Ints W0 p0 y0 := by
    obtain ⟨a', c', e, h⟩ := ints_of_row b0
    cases e
    exact h.below hb0
  have i1 : Ints W0 p1 y1 := by
    obtain ⟨a', c', e, h⟩ := ints_of_row b1
    cases e
    exact h.below hb0
  have hless : ∀ V, Below W0.heap.size W0 V → Calls Try.prog 75 #[.int .i64 1, .int .i64 0, .pointer (some ⟨W.heap.size + 1, 0, none⟩), .pointer (some ⟨W.heap.size, 0, none⟩)] V fun e w' => e = .returned (.bool (lessL cs y1 y0)) ∧ Below V.heap.size V w' := fun V hV => by
    have hcs : W0.cell? ⟨W.heap.size, 0, none⟩ = some (.slice ca cs.length cc) := by rw [hW0, hn]; simp
    have hsb : W0.cell? ⟨W.heap.size + 1, 0, none⟩ = some (.slice (some ⟨blk, 0, none⟩) 2 c) := by rw [hW0]; simp
    exact less_any (W.heap.size + 1) W.heap.size blk 2 c 1 0 ca cc cs y1 y0 p1 p0 q1 q0 V (on_cell hV hsb) (on_cell hV hcs) ((hc.below hb0 (Nat.le_refl _)).below hV (Nat.le_refl _)) (on_cell hV z1) (on_cell hV z0) (by omega) (by omega) (i1.below hV) (i0.below hV) hl (by omega) o1 o0
  have cS := Lib.hid (Srt.slice_two (blk := blk) (c := c) t0 t1 (lessL cs y1 y0) _ _ W0 z0 z1 f0 f1 hless)
  have HF : Hid (∀ w', Srt.Sorted2 blk (.slice p0 y0.length q0) (.slice p1 y1.length q1) (lessL cs y1 y0) W0 w' → SubsEnd ob (.slice (some ⟨blk, 0, none⟩) 2 c) (ord2 cs y0 y1) W (.returned (.tuple #[])) w') := Lib.hid (fun w' h => by
    obtain ⟨k1', k2'⟩ := sorted_out (lessL cs y1 y0) O0 hob hcb0 k0 k1 (owns_below b0 hb0 (Nat.le_refl _)) (owns_below b1 hb0 (Nat.le_refl _)) d0 d1 hd h
    exact ⟨rfl, k1', (hb0.mono (Nat.le_of_lt hlt)).trans k2'⟩)
  rw [← hn]
  rw [hW0] at cS
  have HW0 := Lib.hid hW0
  have Hn := Lib.hid hn
  clear hless i0 i1 z0 z1 f0 f1 hcb0 O0 hb0 b0 b1 d0 d1 hd t0 t1 k0 k1 hcb hc O o0 o1 hl hW0 hn hltb
  go_enter Try.func50, Try.ntmps50
  go_wp2_with fail
  refine cS.out.mono ?_
  rintro e w' ⟨rfl, hS⟩
  rw [← HW0.out] at hS
  have HF2 := Lib.hid (HF.out w' hS)
  clear hS
  go_wp2_with fail
  go_end0
  exact HF2.out
end Mt
end Go.Proofs.Ytkejjiohkhlnnaa
