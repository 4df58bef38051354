/-
  The laws of the single operations of DumpLinear's last line, over whatever frame.
-/
import Derived.Test.YtglnbcjffhfaaaaDoorSplits
import Derived.BigFrame
namespace Go.Proofs.YtglnbcjffhfaaaaDoor
open Go.RowKit
section
variable {o : Oper} {a : Act} {w : World} {K : Act → World → Prop} {Q : Exit → Act → World → Prop}

theorem eval_of {t : Tmp} {v : Value} (h : a.tmps[t]? = some v) : a.eval (.tmp t) = v := by
  simp [Act.eval, h]

theorem yielded_of {ops : Array Oper} {tmps : Array Value} {j : Nat} {t : Tmp} {b : Bool} (h : (ops[j]?).bind (·.dst) = some t) (h' : tmps[t]? = some (.bool b)) : yielded ops tmps j = some b := by
  simp [yielded, h, h']

theorem wp_conv {x : Operand} {v v' : Value} {s d : TypeId} (ho : o.op = .convert s d x) (hx : a.eval x = v) (hr : (convert s d v).run Tryd.prog w = .ok v' w) (h : K (a.put o.dst v') w) : o.wp Tryd.prog a w K Q := by
  unfold Oper.wp execOp
  simp only [ho, hx]
  simp only [Sem.run_bind, hr, Result.andThen_ok, Sem.run_pure]
  exact h

theorem wp_cut {x y : Operand} {s : ByteArray} {n : Nat} (ho : o.op = .slice 9 x none (some y) none) (hx : a.eval x = .string s) (hy : a.eval y = .int .i64 n) (hn : n ≤ s.size) (h : K (a.put o.dst (.string (s.extract 0 n))) w) : o.wp Tryd.prog a w K Q := by
  unfold Oper.wp execOp
  simp only [ho, hx, hy, Option.map]
  go_simp
  exact h

theorem wp_box {x : Operand} {s : ByteArray} (ho : o.op = .buildSlice 29 1 #[(0, x)]) (hx : a.eval x = .string s) (h : K (a.put o.dst (.slice (some ⟨w.heap.size, 0, none⟩) 1 1)) (w.alloc (.cells #[.string s] 9))) : o.wp Tryd.prog a w K Q := by
  unfold Oper.wp execOp
  have e : (#[(0, x)] : Array (Nat × Operand)).map (fun (i, x) => (i, a.eval x)) = #[(0, .string s)] := by rw [← hx]; simp
  simp only [ho, e]
  go_simp
  exact h

theorem wp_sum {x : Operand} {g N : Nat} {s : ByteArray} {vs : Array TypeId} (ho : o.op = .call { callee := .value (.func 6), args := #[x], argTypes := vs }) (hx : a.eval x = .slice (some ⟨g, 0, none⟩) 1 1) (hs : s.size ≤ 9223372036854775807)
    (hc : w.cell? ⟨g, 0, none⟩ = some (.string s)) (hT : Tabbed w) (hN : Crc.sum [s.data.toList] = N) (h : K (a.put o.dst (.int .u32 N)) w) : o.wp Tryd.prog a w K Q := by
  unfold Oper.wp execOp
  have e : (#[x] : Array Operand).map a.eval = #[.slice (some ⟨g, 0, none⟩) 1 1] := by rw [← hx]; simp
  simp only [ho]
  go_simp
  refine (sum1 g s w hs hc hT).mono ?_
  rintro e w' ⟨rfl, rfl⟩
  rw [hN]
  exact h

theorem wp_xor {x y : Operand} {n m : Nat} {t : TypeId} (ho : o.op = .binOp .xor 23 x y t) (hx : a.eval x = .int .u32 n) (hy : a.eval y = .int .u32 m) (hn : n < 4294967296) (hm : m < 4294967296) (h : K (a.put o.dst (.int .u32 (n ^^^ m : Nat))) w) : o.wp Tryd.prog a w K Q := by
  unfold Oper.wp execOp
  simp only [ho, hx, hy]
  go_simp
  rw [u32_xor_nat n m hn hm]
  exact h

theorem wp_eq {x y : Operand} {n : Int} {t : TypeId} (ho : o.op = .binOp .eql 23 x y t) (hx : a.eval x = .int .u32 n) (hy : a.eval y = .int .u32 n) (h : K (a.put o.dst (.bool true)) w) : o.wp Tryd.prog a w K Q := by
  unfold Oper.wp execOp
  simp only [ho, hx, hy]
  go_simp
  exact h

theorem wp_pick {x y z : Operand} {b : Bool} (ho : o.op = .pick x y z) (hx : a.eval x = .bool true) (hy : a.eval y = .bool b) (h : K (a.put o.dst (.bool b)) w) : o.wp Tryd.prog a w K Q := by
  unfold Oper.wp execOp
  simp only [ho, hx, hy]
  go_simp
  exact h

/-- string(d) of an owned row of bytes -/
theorem conv_row (W : World) (base : Nat) (v : Value) (l : List UInt8) (n : Nat) (hn : l.length = n) (h : W.ownsRow base 5 1 v n (l.map fun x => Value.int .u8 x.toNat)) : (convert 27 9 v).run Tryd.prog W = .ok (.string ⟨l.toArray⟩) W := by
  subst hn
  rcases h.2 with ⟨rfl, h0⟩ | ⟨g, cap, cur, rfl, _⟩
  · have : l = [] := List.eq_nil_of_length_eq_zero h0
    subst this
    rw [run_convert_bytes_string W 27 9 5 _ _ _ Tryd.underlying27 Tryd.underlying5 Tryd.underlying9]
    rfl
  · refine run_convert_bytes_back W 27 9 5 _ cap l Tryd.underlying27 Tryd.underlying5 Tryd.underlying9 fun j hj => ?_
    exact h.cells (g := g) rfl j _ (by simp [hj])
end
end Go.Proofs.YtglnbcjffhfaaaaDoor
