/-
  Match: several of its texts in one.
-/
import Derived.Test.YtkejjiohkhlnnaaZ5
import Derived.Test.YtkejjiohkhlnnaaConsts
import Derived.Deep.CutBlock
namespace Go.Proofs.Ytkejjiohkhlnnaa
open Go.RowKit
namespace Mt

set_option maxHeartbeats 1000000 in
theorem mod_any (n : Int) (k : Nat) (w : World) (h0 : 1 ≤ k) (h1 : k ≤ 1000000) : Calls Try.prog 33 #[.int .i64 n, .int .i64 k] w fun e w' => ∃ r : Nat, e = .returned (.int .i64 r) ∧ r < k ∧ w = w' := by
  have hk : ¬ ((k : Int) = 0) := by omega
  have hkb : ((k : Int) == 0) = false := by simp; omega
  have hk2 : ¬ ((k : Int) = -1) := by omega
  go_enter Try.func33, Try.ntmps33
  go_wp2
  go_ret
  have h1 : -(k : Int) < n.tmod k := Int.lt_tmod_of_pos n (by omega)
  have h2 : n.tmod k < k := Int.tmod_lt_of_pos n (by omega)
  have h3 : wrap64 (n.tmod k + k) = n.tmod k + k := by unfold wrap64; omega
  have h4 : 0 ≤ (wrap64 (n.tmod k + k)).tmod k := Int.tmod_nonneg k (by rw [h3]; omega)
  have h5 : (wrap64 (n.tmod k + k)).tmod k < k := Int.tmod_lt_of_pos _ (by omega)
  obtain ⟨x, hx⟩ : ∃ x, (wrap64 (n.tmod k + k)).tmod k = x := ⟨_, rfl⟩
  rw [hx] at h4 h5 ⊢
  refine ⟨x.toNat, ?_, by omega, rfl⟩
  simp only [Int.toNat_of_nonneg h4]
  rfl
/-- a constant's equality, by its parts -/
def sameC (a b : C3) : Bool := a.1 == b.1 && (a.2.1 == b.2.1 && a.2.2 == b.2.2)
set_option maxHeartbeats 4000000 in
set_option maxRecDepth 8000 in
theorem at_any (a : Option Addr) (c : Nat) (cs : List C3) (x : C3) (w : World) (h : Consts w a cs) (hn : cs.length ≤ 1000000) : Calls Try.prog 40 #[.slice a cs.length c, .agg #[.int .i64 x.1, .int .i64 x.2.1, .string x.2.2]] w fun e w' => ∃ r : Int, e = .returned (.int .i64 r) ∧ (r < 0 → ∀ y ∈ cs, y ≠ x) ∧ Below w.heap.size w w' := by
  obtain ⟨k0, i0, s0⟩ := x
  have H := Lib.hid h
  obtain ⟨N, hN⟩ : ∃ N, N = cs.length := ⟨_, rfl⟩
  have HN := Lib.hid hN
  rw [← hN] at hn ⊢
  clear h hN
  simp only
  obtain ⟨W0, hW0⟩ : ∃ V, V = w.alloc (.cells #[.int .i64 k0, .int .i64 i0, .string s0] 65) := ⟨_, rfl⟩
  obtain ⟨b3, hb3⟩ : ∃ b, b = w.heap.size := ⟨_, rfl⟩
  have hb0 : Below w.heap.size w W0 := by rw [hW0]; exact (Below.refl _ _).alloc (Nat.le_refl _) _
  have y0 : W0.cell? ⟨b3, 0, none⟩ = some (.int .i64 k0) := by rw [hW0, hb3]; simp
  have y1 : W0.cell? ⟨b3, 1, none⟩ = some (.int .i64 i0) := by rw [hW0, hb3]; simp
  have y2 : W0.cell? ⟨b3, 2, none⟩ = some (.string s0) := by rw [hW0, hb3]; simp
  have HW0 := Lib.hid hW0
  have Hb3 := Lib.hid hb3
  clear hW0 hb3
  go_enter Try.func40, Try.ntmps40
  go_upto_region 1 with fail
  rw [← HW0.out, ← Hb3.out]
  go_wp2_with fail
  go_loopw [8] (fun t wr => ∃ k : Nat, t = .int .i64 k ∧ k ≤ N ∧ Below W0.heap.size W0 wr ∧ Hid (∀ y ∈ cs.take k, y ≠ (k0, i0, s0))) (fun t _ => N - (intOf t).toNat)
  case atStart => exact ⟨0, rfl, Nat.zero_le _, Below.refl _ _, Lib.hid (fun y hy => by cases hy)⟩
  case round =>
    obtain ⟨k, rfl, hk, hbel, HT⟩ := hrel
    have y0 := on_cell hbel y0
    have y1 := on_cell hbel y1
    have y2 := on_cell hbel y2
    by_cases hlt : k < N
    · rcases H.out with h | ⟨bc, oc, rfl, hcc⟩
      · rw [HN.out, h] at hlt; simp at hlt
      · obtain ⟨⟨k1, i1, s1⟩, d0, d1, d2, hd⟩ := consts_at hcc (k := k) (by rw [← HN.out]; exact hlt)
        simp only at d0 d1 d2
        have hbW : Below w.heap.size w wr := hb0.trans (hbel.mono hb0.size)
        have d0 := below_cell hbW (Nat.le_refl _) d0
        have d1 := below_cell hbW (Nat.le_refl _) d1
        have d2 := below_cell hbW (Nat.le_refl _) d2
        clear hcc
        have hcase : ((k1 == k0) = false) ∨ ((k1 == k0) = true ∧ (i1 == i0) = false) ∨ ((k1 == k0) = true ∧ (i1 == i0) = true ∧ (s1.toList == s0.toList) = false) ∨ ((k1 == k0) = true ∧ (i1 == i0) = true ∧ (s1.toList == s0.toList) = true) := by
          cases (k1 == k0) <;> cases (i1 == i0) <;> cases (s1.toList == s0.toList) <;> simp
        have hgo : ∀ (h : (k1, i1, s1) ≠ (k0, i0, s0)), Hid (∀ y ∈ cs.take (k + 1), y ≠ (k0, i0, s0)) := fun h => Lib.hid (by
          rw [take_snoc' hd.out]
          intro y hy
          rcases List.mem_append.1 hy with hy | hy
          · exact HT.out y hy
          · rw [List.mem_singleton] at hy; rw [hy]; exact h)
        have HGo := Lib.hid hgo
        clear hgo hd
        rcases hcase with q1 | ⟨q1, q2⟩ | ⟨q1, q2, q3⟩ | ⟨q1, q2, q3⟩
        · have HT2 := HGo.out (fun e => by cases e; simp at q1)
          clear HT HGo
          go_upto_region 4 with fail
          go_quiet (fail)
          go_wp2_with fail
          exact ⟨⟨k + 1, by go_num, by omega, below_drewN hbel _, HT2⟩, by simp [intOf]; omega⟩
        · have HT2 := HGo.out (fun e => by cases e; simp at q2)
          clear HT HGo
          go_upto_region 4 with fail
          go_quiet (fail)
          go_wp2_with fail
          exact ⟨⟨k + 1, by go_num, by omega, below_drewN hbel _, HT2⟩, by simp [intOf]; omega⟩
        · have HT2 := HGo.out (fun e => by cases e; simp at q3)
          clear HT HGo
          go_upto_region 4 with fail
          go_quiet (fail)
          go_wp2_with fail
          exact ⟨⟨k + 1, by go_num, by omega, below_drewN hbel _, HT2⟩, by simp [intOf]; omega⟩
        · have HB : Hid (Below w.heap.size w wr) := Lib.hid hbW
          clear HT HGo hbW
          go_upto_region 4 with fail
          go_quiet (fail)
          go_wp2_with fail
          go_ret
          exact ⟨k, rfl, fun h => by omega, below_drewN HB.out _⟩
    · have HF : Hid (∀ y ∈ cs, y ≠ (k0, i0, s0)) := Lib.hid (by have := HT.out; rwa [List.take_of_length_le (by rw [← HN.out]; omega)] at this)
      go_wp2_with fail
      go_ret
      exact ⟨-1, rfl, fun _ => HF.out, hb0.trans (hbel.mono hb0.size)⟩
set_option maxHeartbeats 4000000 in
set_option maxRecDepth 8000 in
theorem bound_tame (b : Bool) (n : Int) (v d : Nat) (w : World) (hv : v ≤ 1000000) (h0 : 1 ≤ d) (h1 : d ≤ 1000000) : Calls Try.prog 68 #[.agg #[.bool b, .int .i64 n], .int .i64 v, .int .i64 d] w fun e w' => ∃ s : Sl, e = .returned (.agg #[.bool s.1, .int .i64 s.2]) ∧ SlotOk v d s ∧ Below w.heap.size w w' := by
  have cV := fun (h : 1 ≤ v) W => Lib.hid (mod_any n v W h hv)
  have cD := fun W => Lib.hid (mod_any n d W h0 h1)
  go_enter Try.func68, Try.ntmps68
  cases b with
  | true =>
    by_cases hv0 : 1 ≤ v
    · have hvi : (0 : Int) < (v : Int) := by omega
      have cV1 := cV hv0
      go_wp2_with (first | (go_at_call 33; (with_reducible refine (cV1 _).out.mono ?_); rintro e w1 ⟨r, rfl, hr, rfl⟩))
      generalize hV : ((World.alloc w _).alloc _) = V
      have k0 : V.cell? ⟨w.heap.size + 1, 0, none⟩ = some (.bool true) := by rw [← hV]; simp
      have k1 : V.cell? ⟨w.heap.size + 1, 1, none⟩ = some (.int .i64 r) := by rw [← hV]; simp
      have hb : Below w.heap.size w V := by rw [← hV]; exact ((Below.refl _ _).alloc (Nat.le_refl _) _).alloc (by simp) _
      clear hV
      refine bodyPost_ret (v := .agg #[.bool true, .int .i64 r]) (by simp [results, Try.results68, go_sem, k0, k1]) rfl ?_
      exact ⟨(true, (r : Int)), rfl, ⟨by simp only; omega, by simp; omega⟩, hb⟩
    · have hvi : ¬ (0 : Int) < (v : Int) := by omega
      go_wp2_with (first | (go_at_call 33; (with_reducible refine (cD _).out.mono ?_); rintro e w1 ⟨r, rfl, hr, rfl⟩))
      generalize hV : ((World.alloc w _).alloc _) = V
      have k0 : V.cell? ⟨w.heap.size + 1, 0, none⟩ = some (.bool false) := by rw [← hV]; simp
      have k1 : V.cell? ⟨w.heap.size + 1, 1, none⟩ = some (.int .i64 r) := by rw [← hV]; simp
      have hb : Below w.heap.size w V := by rw [← hV]; exact ((Below.refl _ _).alloc (Nat.le_refl _) _).alloc (by simp) _
      clear hV
      refine bodyPost_ret (v := .agg #[.bool false, .int .i64 r]) (by simp [results, Try.results68, go_sem, k0, k1]) rfl ?_
      exact ⟨(false, (r : Int)), rfl, ⟨by simp only; omega, by simp; omega⟩, hb⟩
  | false =>
      go_wp2_with (first | (go_at_call 33; (with_reducible refine (cD _).out.mono ?_); rintro e w1 ⟨r, rfl, hr, rfl⟩))
      generalize hV : ((World.alloc w _).alloc _) = V
      have k0 : V.cell? ⟨w.heap.size + 1, 0, none⟩ = some (.bool false) := by rw [← hV]; simp
      have k1 : V.cell? ⟨w.heap.size + 1, 1, none⟩ = some (.int .i64 r) := by rw [← hV]; simp
      have hb : Below w.heap.size w V := by rw [← hV]; exact ((Below.refl _ _).alloc (Nat.le_refl _) _).alloc (by simp) _
      clear hV
      refine bodyPost_ret (v := .agg #[.bool false, .int .i64 r]) (by simp [results, Try.results68, go_sem, k0, k1]) rfl ?_
      exact ⟨(false, (r : Int)), rfl, ⟨by simp only; omega, by simp; omega⟩, hb⟩
end Mt
end Go.Proofs.Ytkejjiohkhlnnaa

namespace Go.Proofs.Ytkejjiohkhlnnaa
open Go.RowKit
namespace Mt
open Sq (Oth)

/-- one more append to a field of the struct at tb -/
theorem push_step {tb off : Nat} {W2 wr V0 V1 : World} {cs : Array Value} {T e : TypeId} {size n n' : Nat} {v v' : Value} {xs ys : List Value} (hO : Oth tb W2 wr) (hc : wr.heap[tb]? = some (.cells cs T (0, 0))) (htb : tb < W2.heap.size) (hv : wr.ownsRow W2.heap.size e size v n xs)
    (hb : Below wr.heap.size wr V0) (hg : V0.grownBy V1 v.ownBlock) (hv' : V1.ownsRow W2.heap.size e size v' n' ys) :
    Oth tb W2 (V1.setCell ⟨tb, off, none⟩ v') ∧ (V1.setCell ⟨tb, off, none⟩ v').heap[tb]? = some (.cells (cs.setIfInBounds off v') T (0, 0)) ∧ (V1.setCell ⟨tb, off, none⟩ v').ownsRow W2.heap.size e size v' n' ys ∧ V1.cell? ⟨tb, off, none⟩ = cs[off]? ∧ V1.frozen? ⟨tb, off, none⟩ = false := by
  have h2 := hO.size
  have hs := hb.size
  have hs1 := hg.size
  have far : ∀ j, j < W2.heap.size → V1.heap[j]? = wr.heap[j]? := fun j hj => by
    rw [hg.block j (by omega) (fun e => by have := (hv.lt j e.symm).1; omega), hb.block j (by omega)]
  have hc1 : V1.heap[tb]? = some (.cells cs T (0, 0)) := (far tb htb).trans hc
  refine ⟨⟨hg.os.trans (hb.os.trans hO.os), hg.tape.trans (hb.tape.trans hO.tape), hg.output.trans (hb.output.trans hO.output), by simp; omega, fun j hj hn => ?_⟩, heap_setCell hc1 v', owns_block hv' (fun g hg' => Below.heap_setCell _ _ _ _ (fun e => ?_)), ?_, ?_⟩
  · rw [Below.heap_setCell _ _ _ _ (fun e => hn e), far j hj]
    exact hO.keep j hj hn
  · have := (hv'.lt g hg').1
    have e : g = tb := e
    omega
  · simp [World.cell?, hc1]
  · simp [World.frozen?, hc1]
theorem Oth.cellB {tb : Nat} {W2 wr : World} (hO : Oth tb W2 wr) {b o : Nat} {x : Value} (h : W2.cell? ⟨b, o, none⟩ = some x) (hn : b ≠ tb) : wr.cell? ⟨b, o, none⟩ = some x := hO.cell h hn
/-- a slot of a tame pattern -/
def SlT (d : Nat) (s : Sl) : Prop := s.1 = false → 0 ≤ s.2 ∧ s.2 < d
/-- a tame pattern -/
def PatT (ar : List Int) (d : Nat) (p : Pat) : Prop := ∃ i : Nat, p.1 = i ∧ i < ar.length ∧ (p.2.length : Int) = ar.getD i 0 ∧ ∀ s ∈ p.2, SlT d s
def TPatEnd (ar : List Int) (d : Nat) (w : World) (e : Ending) (w' : World) : Prop := ∃ (p : Pat) (v : Value), e = .returned (.agg #[.int .i64 p.1, v]) ∧ PatT ar d p ∧ w'.ownsRow w.heap.size 58 2 v p.2.length (slotCells p.2) ∧ Below w.heap.size w w'
theorem slotCells_snoc (l : List Sl) (s : Sl) : slotCells (l ++ [s]) = slotCells l ++ [.bool s.1, .int .i64 s.2] := by simp [slotCells]
set_option maxHeartbeats 4000000 in
set_option maxRecDepth 8000 in
theorem tpat_any (pr : Int) (pa aa : Option Addr) (pc ac : Nat) (pl : List Sl) (ar : List Int) (d : Nat) (w : World) (hp : Slots w pa pl) (ha : Ints w aa ar) (h1 : 1 ≤ ar.length) (h2 : ar.length ≤ 1000) (h3 : ∀ x ∈ ar, 0 ≤ x ∧ x ≤ 8) (hd : 1 ≤ d) (hd2 : d ≤ 1000000) :
    Calls Try.prog 67 #[.agg #[.int .i64 pr, .slice pa pl.length pc], .slice aa ar.length ac, .int .i64 d] w (TPatEnd ar d w) := by
  have HP := Lib.hid hp
  have HA := Lib.hid ha
  have H3 := Lib.hid h3
  obtain ⟨N, hN⟩ : ∃ N, N = ar.length := ⟨_, rfl⟩
  obtain ⟨PL, hPL⟩ : ∃ N, N = pl.length := ⟨_, rfl⟩
  have HN := Lib.hid hN
  have HPL := Lib.hid hPL
  rw [← hN] at h1 h2 ⊢
  rw [← hPL]
  clear hp ha h3 hN hPL
  have cM := fun W => Lib.hid (mod_any pr N W h1 (by omega))
  have cD := fun n W => Lib.hid (mod_any n d W hd hd2)
  obtain ⟨b3, hb3⟩ : ∃ b, b = w.heap.size := ⟨_, rfl⟩
  obtain ⟨b4, hb4⟩ : ∃ b, b = w.heap.size + 1 := ⟨_, rfl⟩
  obtain ⟨W0, hW0⟩ : ∃ V, V = (w.alloc (.cells #[.int .i64 pr, .slice pa PL pc] 27)).alloc (.cells #[.int .i64 0, .slice none 0 0] 27) := ⟨_, rfl⟩
  have hb0 : Below w.heap.size w W0 := by rw [hW0]; exact ((Below.refl _ _).alloc (Nat.le_refl _) _).alloc (by simp) _
  have hs0 : W0.heap.size = w.heap.size + 2 := by rw [hW0]; simp
  have y0 : W0.cell? ⟨b3, 0, none⟩ = some (.int .i64 pr) := by rw [hW0, hb3]; simp
  have y1 : W0.cell? ⟨b3, 1, none⟩ = some (.slice pa PL pc) := by rw [hW0, hb3]; simp
  have g4 : W0.heap[b4]? = some (.cells #[.int .i64 0, .slice none 0 0] 27 (0, 0)) := by
    rw [hW0, hb4]
    have := (MapKept.heap_alloc (w.alloc (.cells #[.int .i64 pr, .slice pa PL pc] 27)) (.cells #[.int .i64 0, .slice none 0 0] 27)).1
    simpa using this
  have HW0 := Lib.hid hW0
  have Hb3 := Lib.hid hb3
  have Hb4 := Lib.hid hb4
  have hlt : b3 < W0.heap.size ∧ b4 < W0.heap.size ∧ b3 ≠ b4 := by omega
  have hlo : w.heap.size ≤ W0.heap.size := hb0.size
  have Hs0 := Lib.hid hs0
  have Hlt := Lib.hid hlt
  clear hW0 hb3 hb4 hs0
  go_enter Try.func67, Try.ntmps67
  go_upto_region 1 with fail
  rw [← HW0.out, ← Hb4.out, ← Hb3.out]
  go_upto_region 2 with (first | (go_at_call 33; (with_reducible refine (cM _).out.mono ?_); rintro e w1 ⟨pi, rfl, hpi, rfl⟩))
  obtain ⟨b5, hb5⟩ : ∃ b, b = W0.heap.size := ⟨_, rfl⟩
  obtain ⟨W2, hW2⟩ : ∃ V, V = W0.alloc (.cells #[.int .i64 (pi : Int), .slice none 0 0] 27) := ⟨_, rfl⟩
  have hb2 : Below W0.heap.size W0 W2 := by rw [hW2]; exact (Below.refl _ _).alloc (Nat.le_refl _) _
  have g5 : W2.heap[b5]? = some (.cells #[.int .i64 (pi : Int), .slice none 0 0] 27 (0, 0)) := by rw [hW2, hb5]; exact (MapKept.heap_alloc W0 _).1
  have hs2 : W2.heap.size = W0.heap.size + 1 := by rw [hW2]; simp
  have y0 := on_cell hb2 y0
  have y1 := on_cell hb2 y1
  have g4 := (hb2.block b4 hlt.2.1).trans g4
  have HB2 : Hid (Below w.heap.size w W2) := Lib.hid (hb0.trans (hb2.mono hb0.size))
  obtain ⟨ba, oa, rfl, x, c1, HX⟩ := ints_some HA.out (k := pi) (by rw [← HN.out]; exact hpi)
  obtain ⟨m, rfl⟩ := Int.eq_ofNat_of_zero_le (H3.out x (List.mem_of_getElem? HX.out)).1
  have hm8 : m ≤ 8 := by have := (H3.out _ (List.mem_of_getElem? HX.out)).2; omega
  have c1 := below_cell HB2.out (Nat.le_refl _) c1
  have Hd5 := Lib.hid hb5
  have Hs2 := Lib.hid hs2
  rw [← hW2, ← hb5]
  have z0 : W2.cell? ⟨b5, 0, none⟩ = some (.int .i64 (pi : Int)) := by simp [World.cell?, g5]
  clear hW2 hb5 hb0 hb2 cM hs2
  have z4 := Lib.hid g4
  have G5 := Lib.hid g5
  clear g4 g5
  go_wp2_with fail
  clear z0 c1
  go_loopw [21] (fun t wr => ∃ (j : Nat) (l : List Sl) (v : Value), t = .int .i64 j ∧ j ≤ m ∧ Hid (l.length = j) ∧ Hid (∀ s ∈ l, SlT d s) ∧ Hid (Oth b5 W2 wr) ∧ Hid (wr.heap[b5]? = some (.cells #[.int .i64 (pi : Int), v] 27 (0, 0))) ∧ Hid (wr.ownsRow W2.heap.size 58 2 v j (slotCells l))) (fun t _ => m - (intOf t).toNat)
  case atStart => exact ⟨0, [], _, rfl, Nat.zero_le _, Lib.hid rfl, Lib.hid (fun s hs => by cases hs), Lib.hid (Oth.refl _ _), G5, Lib.hid (World.ownsRow_nil _ _ _ _)⟩
  case round =>
    obtain ⟨j, l, v, rfl, hjm, HL, HT, HO, HC5, HOW⟩ := hrel
    have hne : b3 ≠ b5 ∧ b4 ≠ b5 ∧ b5 < W2.heap.size := by have := Hd5.out; have := Hs2.out; omega
    have y0 := HO.out.cell y0 hne.1
    have y1 := HO.out.cell y1 hne.1
    obtain ⟨vs, vl, rfl⟩ := owns_shape' HOW.out
    have q0 : wr.cell? ⟨b5, 0, none⟩ = some (.int .i64 (pi : Int)) := by have := HC5.out; simp [World.cell?, this]
    have q1 : wr.cell? ⟨b5, 1, none⟩ = some (.slice vs j vl) := by have := HC5.out; simp [World.cell?, this]
    by_cases hlt : j < m
    · go_upto_region 6 with fail
      obtain ⟨b9, hb9⟩ : ∃ b, b = wr.heap.size := ⟨_, rfl⟩
      obtain ⟨W3, hW3⟩ : ∃ V, V = wr.alloc (.cells #[.bool true, .int .i64 (j : Int)] 58) := ⟨_, rfl⟩
      have hb3' : Below wr.heap.size wr W3 := by rw [hW3]; exact (Below.refl _ _).alloc (Nat.le_refl _) _
      have g9 : W3.heap[b9]? = some (.cells #[.bool true, .int .i64 (j : Int)] 58 (0, 0)) := by rw [hW3, hb9]; exact (MapKept.heap_alloc wr _).1
      have hs3 : W3.heap.size = wr.heap.size + 1 := by rw [hW3]; simp
      have y0 := on_cell hb3' y0
      have y1 := on_cell hb3' y1
      have q0 := on_cell hb3' q0
      have q1 := on_cell hb3' q1
      rw [← hW3, ← hb9]
      have hn9 : b9 ≠ b3 ∧ b9 ≠ b5 ∧ b9 ≠ b4 := by
        have := HO.out.size
        have := Hlt.out
        have := Hs2.out
        omega
      have HW3 : Hid (wr.heap.size ≤ b9 ∧ b9 < W3.heap.size) := Lib.hid (by omega)
      clear hW3 hb9 hs3
      have r0 : W3.cell? ⟨b9, 0, none⟩ = some (.bool true) := by simp [World.cell?, g9]
      have r1 : W3.cell? ⟨b9, 1, none⟩ = some (.int .i64 (j : Int)) := by simp [World.cell?, g9]
      have f0 : W3.frozen? ⟨b9, 0, none⟩ = false := by simp [World.frozen?, g9]
      have f1 : W3.frozen? ⟨b9, 1, none⟩ = false := by simp [World.frozen?, g9]
      have G9 := Lib.hid g9
      have HB3 := Lib.hid hb3'
      clear g9 hb3'
      go_upto_if 30 with fail
      go_cut [] (fun wc => ∃ s : Sl, Hid (Below wr.heap.size wr wc) ∧ Hid (wc.heap[b9]? = some (.cells #[.bool s.1, .int .i64 s.2] 58 (0, 0))) ∧ Hid (W3.heap.size ≤ wc.heap.size))
      case first =>
        by_cases hjP : j < PL
        · rcases HP.out with h | ⟨bp, op, rfl, hpp⟩
          · rw [HPL.out, h] at hjP; simp at hjP
          · obtain ⟨v0, n0, c0, c1, HS⟩ := slots_at hpp (k := j) (by rw [← HPL.out]; exact hjP)
            have hbw : Below w.heap.size w W3 := (HB2.out.trans (HO.out.low (by have := Hd5.out; omega) HB2.out.size)).trans (HB3.out.mono (Nat.le_trans HB2.out.size HO.out.size))
            have c0 := below_cell hbw (Nat.le_refl _) c0
            have c1 := below_cell hbw (Nat.le_refl _) c1
            clear hpp hbw
            go_wp2_with fail
            go_meet
            exact ⟨(v0, n0), Lib.hid ((HB3.out.setCell (p := ⟨b9, 0, none⟩) HW3.out.1 _).setCell (p := ⟨b9, 1, none⟩) HW3.out.1 _), Lib.hid (by simpa using heap_setCell (j := 1) (heap_setCell (j := 0) G9.out (.bool v0)) (.int .i64 n0)), Lib.hid (by simp)⟩
        · go_wp2_with fail
          go_meet
          case rel => exact ⟨(true, (j : Int)), HB3, G9, Lib.hid (Nat.le_refl _)⟩
      case rest =>
        obtain ⟨s, HBc, HGc, HSc⟩ := hcut
        clear y0 y1 q0 q1 r0 r1 f0 f1
        have r0 : wc.cell? ⟨b9, 0, none⟩ = some (.bool s.1) := by have := HGc.out; simp [World.cell?, this]
        have r1 : wc.cell? ⟨b9, 1, none⟩ = some (.int .i64 s.2) := by have := HGc.out; simp [World.cell?, this]
        have f0 : wc.frozen? ⟨b9, 0, none⟩ = false := by have := HGc.out; simp [World.frozen?, this]
        have f1 : wc.frozen? ⟨b9, 1, none⟩ = false := by have := HGc.out; simp [World.frozen?, this]
        obtain ⟨sb, sn⟩ := s
        simp only at r0 r1
        go_upto_if 38 with fail
        go_cut [] (fun wd => ∃ s : Sl, SlT d s ∧ Hid (Below wr.heap.size wr wd) ∧ Hid (wd.heap[b9]? = some (.cells #[.bool s.1, .int .i64 s.2] 58 (0, 0))) ∧ Hid (W3.heap.size ≤ wd.heap.size))
        case first =>
          cases sb with
          | true =>
            go_wp2_with fail
            go_meet
            case rel => exact ⟨(true, sn), fun h => (by cases h), HBc, HGc, HSc⟩
          | false =>
            go_wp2_with (first | (go_at_call 33; (with_reducible refine (cD _ _).out.mono ?_); rintro e wx ⟨r, rfl, hr, rfl⟩))
            go_meet
            case rel => exact ⟨(false, (r : Int)), fun _ => ⟨by simp only; omega, by simp only; omega⟩, Lib.hid (HBc.out.setCell (p := ⟨b9, 1, none⟩) HW3.out.1 _), Lib.hid (by simpa using heap_setCell (j := 1) HGc.out (.int .i64 (r : Int))), Lib.hid (by have := HSc.out; simpa using this)⟩
        case rest =>
          obtain ⟨s, hsT, HBd, HGd, HSd⟩ := hcut
          clear r0 r1 f0 f1
          obtain ⟨sb2, sn2⟩ := s
          have hz2 := HO.out.size
          have hzc := HBd.out.size
          have hown := owns_below HOW.out HBd.out (Nat.le_refl _)
          have hc5 := (HBd.out.block b5 (by omega)).trans HC5.out
          have q1 : wc.cell? ⟨b5, 1, none⟩ = some (.slice vs j vl) := by simp [World.cell?, hc5]
          have r0 : wc.cell? ⟨b9, 0, none⟩ = some (.bool sb2) := by have := HGd.out; simp [World.cell?, this]
          have r1 : wc.cell? ⟨b9, 1, none⟩ = some (.int .i64 sn2) := by have := HGd.out; simp [World.cell?, this]
          have hl2 := HL.out
          clear hc5
          go_wp2_with (first | (at_builtin; refine wpList_append_any elemSlot _ rfl _ _ rfl W2.heap.size _ j (slotCells l) rfl (hown.alloc _) (some ⟨wc.heap.size, 0, none⟩) 1 1 [.bool sb2, .int .i64 sn2] rfl (source_new _ _ _) rfl (by simp [Value.oneCell']) (by unfold maxLen; omega) (by omega) (by simp; omega) ?_; intro v' w2 hown2 hgrow2 hblk2; obtain ⟨va, vc, rfl⟩ := owns_shape' hown2; obtain ⟨p1, p2, p3, p4, p5⟩ := push_step (off := 1) HO.out HC5.out hne.2.2 HOW.out (HBd.out.alloc HBd.out.size (.cells #[.bool sb2, .int .i64 sn2] 58)) hgrow2 hown2; have P1 := Lib.hid p1; have P2 := Lib.hid p2; have P3 := Lib.hid p3; replace p4 : w2.cell? ⟨b5, 1, none⟩ = some (.slice vs j vl) := p4; clear p1 p2 p3 hown2 hgrow2 hblk2 hown))
          go_roundw
          case rel => exact ⟨j + 1, l ++ [(sb2, sn2)], _, by go_num, by omega, Lib.hid (by simp [hl2]), Lib.hid (fun z hz => by
            rcases List.mem_append.1 hz with hz | hz
            · exact HT.out z hz
            · rw [List.mem_singleton] at hz; rw [hz]; exact hsT), P1, Lib.hid (by simpa using P2.out), Lib.hid (by rw [slotCells_snoc]; exact P3.out)⟩
          case measure => simp [intOf]; omega
    · have hje : j = m := by omega
      subst hje
      have h4 := (HO.out.keep b4 (by have := Hlt.out; have := Hs2.out; omega) hne.2.1).trans z4.out
      have e0 : wr.cell? ⟨b4, 0, none⟩ = some (.int .i64 0) := by simp [World.cell?, h4]
      have e1 : wr.cell? ⟨b4, 1, none⟩ = some (.slice none 0 0) := by simp [World.cell?, h4]
      have f0 : wr.frozen? ⟨b4, 0, none⟩ = false := by simp [World.frozen?, h4]
      have f1 : wr.frozen? ⟨b4, 1, none⟩ = false := by simp [World.frozen?, h4]
      have HF : Hid (∀ V, V = (wr.setCell ⟨b4, 0, none⟩ (.int .i64 (pi : Int))).setCell ⟨b4, 1, none⟩ (.slice vs j vl) → V.cell? ⟨b4, 0, none⟩ = some (.int .i64 (pi : Int)) ∧ V.cell? ⟨b4, 1, none⟩ = some (.slice vs j vl) ∧ TPatEnd ar d w (.returned (.agg #[.int .i64 (pi : Int), .slice vs j vl])) V) := Lib.hid (fun V hV => by
        have hg : V.heap[b4]? = some (.cells #[.int .i64 (pi : Int), .slice vs j vl] 27 (0, 0)) := by rw [hV]; simpa using heap_setCell (j := 1) (heap_setCell (j := 0) h4 (.int .i64 (pi : Int))) (.slice vs j vl)
        have hlo4 : w.heap.size ≤ b4 := by have := Hb4.out; omega
        have hbw : Below w.heap.size w wr := HB2.out.trans (HO.out.low (by have := Hd5.out; omega) HB2.out.size)
        refine ⟨by simp [World.cell?, hg], by simp [World.cell?, hg], ((pi : Int), l), _, rfl, ⟨pi, rfl, by rw [← HN.out]; exact hpi, ?_, HT.out⟩, ?_, ?_⟩
        · have := HX.out
          simp only [HL.out]
          rw [List.getD_eq_getElem?_getD, this]
          rfl
        · have := HL.out
          simp only [this]
          rw [hV]
          have hlt4 := Hlt.out
          have hsz2 := Hs2.out
          refine owns_base (owns_block HOW.out (fun g hg => ?_)) HB2.out.size
          have := (HOW.out.lt g hg).1
          rw [Below.heap_setCell _ _ _ _ (fun e => by have e : g = b4 := e; omega), Below.heap_setCell _ _ _ _ (fun e => by have e : g = b4 := e; omega)]
        · rw [hV]
          exact (hbw.setCell (p := ⟨b4, 0, none⟩) hlo4 _).setCell (p := ⟨b4, 1, none⟩) hlo4 _)
      clear h4 HO HOW y0 y1
      go_wp2_with fail
      generalize hV : ((World.setCell wr _ _).setCell _ _) = V
      obtain ⟨k0, k1, HE⟩ := HF.out V hV.symm
      clear hV
      refine bodyPost_ret (v := .agg #[.int .i64 (pi : Int), .slice vs j vl]) (by simp [results, Try.results67, go_sem, k0, k1]) rfl ?_
      exact HE
end Mt
end Go.Proofs.Ytkejjiohkhlnnaa

namespace Go.Proofs.Ytkejjiohkhlnnaa
open Go.RowKit
namespace Mt

theorem elemPat : Elem Try.prog 28 27 (.agg #[.int .i64 0, .slice none 0 0]) 2 32 := ⟨Try.underlying28, by kernel_rfl, rfl, by decide⟩
theorem elemTst : Elem Try.prog 29 60 (.agg #[.int .i64 0, .bool false, .int .i64 0, .bool false, .int .i64 0]) 5 40 := ⟨Try.underlying29, by kernel_rfl, rfl, by decide⟩
theorem elemStr : Elem Try.prog 30 9 (.string ByteArray.empty) 1 16 := ⟨Try.underlying30, by kernel_rfl, rfl, by decide⟩
/-- of the blocks that were there, none but tb and vb has turned -/
structure Chg (tb : Nat) (vb : Option Nat) (w V : World) : Prop where
  os : V.os = w.os
  tape : V.tape = w.tape
  output : V.output = w.output
  size : w.heap.size ≤ V.heap.size
  keep : ∀ j, j < w.heap.size → j ≠ tb → vb ≠ some j → V.heap[j]? = w.heap[j]?
section
variable {tb : Nat} {vb : Option Nat} {w V : World}
theorem Chg.below (h : Below w.heap.size w V) : Chg tb vb w V := ⟨h.os, h.tape, h.output, h.size, fun j hj _ _ => h.block j hj⟩
theorem Chg.low {n : Nat} (h : Chg tb vb w V) (h1 : n ≤ w.heap.size) (h2 : n ≤ tb) (h3 : ∀ g, vb = some g → n ≤ g) : Below n w V := ⟨h.os, h.tape, h.output, h.size, fun j hj => h.keep j (by omega) (by omega) (fun e => by have := h3 j e; omega)⟩
theorem Chg.block (h : Chg tb vb w V) {b : Nat} {o : Obj} (hb : w.heap[b]? = some o) (h1 : b ≠ tb) (h2 : vb ≠ some b) : V.heap[b]? = some o := (h.keep b (Array.getElem?_eq_some_iff.1 hb).1 h1 h2).trans hb
theorem own_typ {B e size n : Nat} {v : Value} {xs : List Value} (h : w.ownsRow B e size v n xs) {g : Nat} (hg : v.ownBlock = some g) : ∃ cur, w.heap[g]? = some (.cells cur e (0, 0)) := by
  rcases h.2 with ⟨rfl, _⟩ | ⟨g', cap, cur, rfl, _, hc, _⟩
  · cases hg
  · cases hg; exact ⟨cur, hc⟩
theorem typ_ne {a b : Nat} {c1 c2 : Array Value} {T1 T2 : TypeId} (h1 : w.heap[a]? = some (.cells c1 T1 (0, 0))) (h2 : w.heap[b]? = some (.cells c2 T2 (0, 0))) (hT : T1 ≠ T2) : a ≠ b := fun e => by
  subst e
  rw [h1] at h2
  cases h2
  exact hT rfl
theorem Chg.owns (h : Chg tb vb w V) {B e size n : Nat} {v : Value} {xs : List Value} (ho : w.ownsRow B e size v n xs) (hn : ∀ g cur, v.ownBlock = some g → w.heap[g]? = some (.cells cur e (0, 0)) → g ≠ tb ∧ vb ≠ some g) : V.ownsRow B e size v n xs :=
  owns_block ho (fun g hg => by
    obtain ⟨cur, hc⟩ := own_typ ho hg
    obtain ⟨k1, k2⟩ := hn g cur hg hc
    rw [hc]; exact h.block hc k1 k2)
theorem chg_store (w : World) (b o : Nat) (x : Value) : Chg b none w (w.setCell ⟨b, o, none⟩ x) := ⟨rfl, rfl, rfl, by simp, fun j _ hn _ => Below.heap_setCell _ _ _ _ (fun e => hn e)⟩
theorem Chg.trans_below {V2 : World} (h : Below w.heap.size w V) (k : Chg tb vb V V2) : Chg tb vb w V2 := ⟨k.os.trans h.os, k.tape.trans h.tape, k.output.trans h.output, Nat.le_trans h.size k.size, fun j hj h1 h2 => (k.keep j (Nat.lt_of_lt_of_le hj h.size) h1 h2).trans (h.block j hj)⟩
/-- an append, and its store -/
theorem chg_push {V0 V1 : World} {v x : Value} {o : Nat} (hb : Below w.heap.size w V0) (hg : V0.grownBy V1 v.ownBlock) : Chg tb v.ownBlock w (V1.setCell ⟨tb, o, none⟩ x) :=
  ⟨hg.os.trans hb.os, hg.tape.trans hb.tape, hg.output.trans hb.output, by have := hb.size; have := hg.size; simp; omega, fun j hj h1 h2 => by
    rw [Below.heap_setCell _ _ _ _ (fun e => h1 e), hg.block j (Nat.lt_of_lt_of_le hj hb.size) h2.symm, hb.block j hj]⟩
end
/-- a list of patterns, each slot list in a block of its own below H -/
def PatRow (B H : Nat) (w : World) (v : Value) (ps : List Pat) : Prop := ∃ cells, w.ownsRow B 27 2 v ps.length cells ∧
  ∀ (i : Nat) p, ps[i]? = some p → ∃ u, cells[i * 2]? = some (.int .i64 p.1) ∧ cells[i * 2 + 1]? = some u ∧ w.ownsRow B 58 2 u p.2.length (slotCells p.2) ∧ ∀ g, u.ownBlock = some g → g < H
theorem PatRow.nil (B H : Nat) (w : World) : PatRow B H w (.slice none 0 0) [] := ⟨[], World.ownsRow_nil _ _ _ _, fun i p h => by simp at h⟩
section
variable {B H H' tb : Nat} {vb : Option Nat} {w V : World} {v : Value} {ps : List Pat}
theorem PatRow.raise (h : PatRow B H w v ps) (hH : H ≤ H') : PatRow B H' w v ps := by
  obtain ⟨cells, h1, h2⟩ := h
  refine ⟨cells, h1, fun i p hp => ?_⟩
  obtain ⟨u, k1, k2, k3, k4⟩ := h2 i p hp
  exact ⟨u, k1, k2, k3, fun g hg => Nat.lt_of_lt_of_le (k4 g hg) hH⟩
theorem PatRow.chg (h : PatRow B H w v ps) (k : Chg tb vb w V) (h1 : ∀ g cur, v.ownBlock = some g → w.heap[g]? = some (.cells cur 27 (0, 0)) → g ≠ tb ∧ vb ≠ some g) (h2 : ∀ g cur, g < H → w.heap[g]? = some (.cells cur 58 (0, 0)) → g ≠ tb ∧ vb ≠ some g) : PatRow B H V v ps := by
  obtain ⟨cells, q1, q2⟩ := h
  refine ⟨cells, k.owns q1 h1, fun i p hp => ?_⟩
  obtain ⟨u, k1, k2, k3, k4⟩ := q2 i p hp
  exact ⟨u, k1, k2, k.owns k3 (fun g cur hg hc => h2 g cur (k4 g hg) hc), k4⟩
theorem PatRow.below (h : PatRow B H w v ps) (hb : Below w.heap.size w V) : PatRow B H V v ps := by
  obtain ⟨cells, q1, q2⟩ := h
  refine ⟨cells, owns_below q1 hb (Nat.le_refl _), fun i p hp => ?_⟩
  obtain ⟨u, k1, k2, k3, k4⟩ := q2 i p hp
  exact ⟨u, k1, k2, owns_below k3 hb (Nat.le_refl _), k4⟩
theorem PatRow.push {V0 V1 : World} {v' u : Value} {o : Nat} {p : Pat} (h : PatRow B H w v ps) (hb : Below w.heap.size w V0) (hg : V0.grownBy V1 v.ownBlock) (htb : ∃ cs, w.heap[tb]? = some (.cells cs 32 (0, 0)))
    (hv' : ∀ cells, w.ownsRow B 27 2 v ps.length cells → V1.ownsRow B 27 2 v' (ps.length + 1) (cells ++ [.int .i64 p.1, u])) (hvb : ∀ g, v'.ownBlock = some g → g ≠ tb)
    (hu : w.ownsRow B 58 2 u p.2.length (slotCells p.2)) (hH : H ≤ w.heap.size) : PatRow B w.heap.size (V1.setCell ⟨tb, o, none⟩ v') v' (ps ++ [p]) := by
  obtain ⟨cells, q1, q2⟩ := h
  obtain ⟨cs, htb⟩ := htb
  have k : Chg tb v.ownBlock w (V1.setCell ⟨tb, o, none⟩ v') := chg_push hb hg
  have hsl : ∀ g cur, w.heap[g]? = some (.cells cur 58 (0, 0)) → g ≠ tb ∧ v.ownBlock ≠ some g := fun g cur hc => ⟨typ_ne hc htb (by decide), fun e => by
    obtain ⟨cur2, hc2⟩ := own_typ q1 e
    exact typ_ne hc hc2 (by decide) rfl⟩
  have hl : cells.length = ps.length * 2 := q1.1
  refine ⟨cells ++ [.int .i64 p.1, u], ?_, fun i p' hp' => ?_⟩
  · rw [List.length_append]
    exact owns_block (hv' cells q1) (fun g hg => Below.heap_setCell _ _ _ _ (fun e => hvb g hg e))
  · by_cases hi : i < ps.length
    · rw [List.getElem?_append_left hi] at hp'
      obtain ⟨u', k1, k2, k3, k4⟩ := q2 i p' hp'
      exact ⟨u', by rw [List.getElem?_append_left (by omega)]; exact k1, by rw [List.getElem?_append_left (by omega)]; exact k2, k.owns k3 (fun g cur _ hc => hsl g cur hc), fun g hg => Nat.lt_of_lt_of_le (k4 g hg) hH⟩
    · have hie : i = ps.length := by
        have := (List.getElem?_eq_some_iff.1 hp').1
        simp at this
        omega
      subst hie
      rw [List.getElem?_append_right (Nat.le_refl _)] at hp'
      simp at hp'
      subst hp'
      refine ⟨u, by rw [List.getElem?_append_right (by omega)]; simp [hl], by rw [List.getElem?_append_right (by omega)]; simp [hl], k.owns hu (fun g cur _ hc => hsl g cur hc), fun g hg => (hu.lt g hg).2⟩
theorem PatRow.pats (h : PatRow B H w v ps) : ∃ a c, v = .slice a ps.length c ∧ Pats w a ps := by
  obtain ⟨cells, q1, q2⟩ := h
  rcases owns_form q1 with ⟨rfl, h0, _⟩ | ⟨g, cap, rfl, hb, _, _, _, _, hc, _⟩
  · have : ps = [] := List.eq_nil_of_length_eq_zero h0
    subst this
    exact ⟨none, 0, rfl, .inl rfl⟩
  · refine ⟨_, _, rfl, .inr ⟨g, 0, rfl, fun i p hp => ?_⟩⟩
    obtain ⟨u, k1, k2, k3, k4⟩ := q2 i p hp
    obtain ⟨a, c, rfl, hS, _⟩ := slots_of_row k3
    refine ⟨by rw [Nat.zero_add]; exact hc _ _ k1, a, c, by rw [Nat.zero_add]; exact hc _ _ k2, hS.1⟩
end
def tstCells (ts : List Tst) : List Value := ts.flatMap fun t => [.int .i64 t.1, .bool t.2.1.1, .int .i64 t.2.1.2, .bool t.2.2.1, .int .i64 t.2.2.2]
def vV : Value := .string { data := #[86] }
/-- the state of tamedRule -/
structure RSt (ws : World) (H : Nat) (rs : List (Nat × Array Value)) (tb nb : Nat) (hp cl : Int) (ha : Value) (nums : List Int) (pv tv gv vv : Value) (ps : List Pat) (ts : List Tst) (ns : List Pat) (nv : Nat) (w : World) : Prop where
  old : Below ws.heap.size ws w
  r : ∀ x ∈ rs, w.heap[x.1]? = some (.cells x.2 32 (0, 0))
  t : w.heap[tb]? = some (.cells #[.int .i64 hp, ha, pv, tv, gv, vv, .int .i64 cl] 32 (0, 0))
  n : w.heap[nb]? = some (.cells (nums.map (Value.int .i64)).toArray 3 (0, 0))
  pos : PatRow ws.heap.size H w pv ps
  tst : w.ownsRow ws.heap.size 60 5 tv ts.length (tstCells ts)
  neg : PatRow ws.heap.size H w gv ns
  vars : w.ownsRow ws.heap.size 9 1 vv nv (List.replicate nv vV)
  apart : ∀ g, pv.ownBlock = some g → gv.ownBlock ≠ some g
  ne : ∀ x ∈ rs, x.1 ≠ tb
  lo : ws.heap.size ≤ tb ∧ ws.heap.size ≤ nb
  hi : H ≤ w.heap.size
section
variable {ws : World} {H tb nb : Nat} {rs : List (Nat × Array Value)} {hp cl : Int} {ha : Value} {nums : List Int} {pv tv gv vv : Value} {ps : List Pat} {ts : List Tst} {ns : List Pat} {nv : Nat} {w V : World}
theorem PatRow.typ {B : Nat} {v : Value} (h : PatRow B H w v ps) {g : Nat} (hg : v.ownBlock = some g) : ∃ cur, w.heap[g]? = some (.cells cur 27 (0, 0)) := by
  obtain ⟨cells, q1, -⟩ := h
  exact own_typ q1 hg
theorem PatRow.lt {B : Nat} {v : Value} (h : PatRow B H w v ps) {g : Nat} (hg : v.ownBlock = some g) : B ≤ g ∧ g < w.heap.size := by
  obtain ⟨cells, q1, -⟩ := h
  exact q1.lt g hg
theorem RSt.below (h : RSt ws H rs tb nb hp cl ha nums pv tv gv vv ps ts ns nv w) (hb : Below w.heap.size w V) : RSt ws H rs tb nb hp cl ha nums pv tv gv vv ps ts ns nv V := by
  have k : ∀ {b : Nat} {o : Obj}, w.heap[b]? = some o → V.heap[b]? = some o := fun {b o} hb' => (hb.block b (Array.getElem?_eq_some_iff.1 hb').1).trans hb'
  exact ⟨h.old.trans (hb.mono h.old.size), fun x hx => k (h.r x hx), k h.t, k h.n, h.pos.below hb, owns_below h.tst hb (Nat.le_refl _), h.neg.below hb, owns_below h.vars hb (Nat.le_refl _), h.apart, h.ne, h.lo, Nat.le_trans h.hi hb.size⟩
theorem RSt.raise (h : RSt ws H rs tb nb hp cl ha nums pv tv gv vv ps ts ns nv w) : RSt ws w.heap.size rs tb nb hp cl ha nums pv tv gv vv ps ts ns nv w :=
  ⟨h.old, h.r, h.t, h.n, h.pos.raise h.hi, h.tst, h.neg.raise h.hi, h.vars, h.apart, h.ne, h.lo, Nat.le_refl _⟩
/-- a store into a block of integers -/
theorem RSt.num (h : RSt ws H rs tb nb hp cl ha nums pv tv gv vv ps ts ns nv w) (k : Nat) (x : Int) : RSt ws H rs tb nb hp cl ha (nums.set k x) pv tv gv vv ps ts ns nv (w.setCell ⟨nb, k, none⟩ (.int .i64 x)) := by
  have c := chg_store w nb k (.int .i64 x)
  have hn := h.n
  have no : ∀ {g : Nat} {cur : Array Value} {T : TypeId}, w.heap[g]? = some (.cells cur T (0, 0)) → T ≠ 3 → g ≠ nb ∧ (none : Option Nat) ≠ some g := fun hc hT => ⟨typ_ne hc hn hT, by simp⟩
  refine ⟨h.old.trans (c.low h.old.size h.lo.2 (fun g e => by cases e)), fun x hx => c.block (h.r x hx) (no (h.r x hx) (by decide)).1 (by simp), c.block h.t (no h.t (by decide)).1 (by simp), ?_, h.pos.chg c (fun g cur _ hc => no hc (by decide)) (fun g cur _ hc => no hc (by decide)), c.owns h.tst (fun g cur _ hc => no hc (by decide)),
    h.neg.chg c (fun g cur _ hc => no hc (by decide)) (fun g cur _ hc => no hc (by decide)), c.owns h.vars (fun g cur _ hc => no hc (by decide)), h.apart, h.ne, h.lo, by simpa using h.hi⟩
  have := heap_setCell (j := k) hn (.int .i64 x)
  rw [this]
  simp
/-- a store into a block of slots that belongs to no pattern yet -/
theorem RSt.slot (h : RSt ws H rs tb nb hp cl ha nums pv tv gv vv ps ts ns nv w) {b : Nat} {cs : Array Value} (hb : w.heap[b]? = some (.cells cs 58 (0, 0))) (hH : H ≤ b) (hws : ws.heap.size ≤ b) (o : Nat) (x : Value) : RSt ws H rs tb nb hp cl ha nums pv tv gv vv ps ts ns nv (w.setCell ⟨b, o, none⟩ x) := by
  have c := chg_store w b o x
  have no : ∀ {g : Nat} {cur : Array Value} {T : TypeId}, w.heap[g]? = some (.cells cur T (0, 0)) → T ≠ 58 → g ≠ b ∧ (none : Option Nat) ≠ some g := fun hc hT => ⟨typ_ne hc hb hT, by simp⟩
  exact ⟨h.old.trans (c.low h.old.size hws (fun g e => by cases e)), fun x hx => c.block (h.r x hx) (no (h.r x hx) (by decide)).1 (by simp), c.block h.t (no h.t (by decide)).1 (by simp), c.block h.n (no h.n (by decide)).1 (by simp), h.pos.chg c (fun g cur _ hc => no hc (by decide)) (fun g cur hg _ => ⟨by omega, by simp⟩), c.owns h.tst (fun g cur _ hc => no hc (by decide)),
    h.neg.chg c (fun g cur _ hc => no hc (by decide)) (fun g cur hg _ => ⟨by omega, by simp⟩), c.owns h.vars (fun g cur _ hc => no hc (by decide)), h.apart, h.ne, h.lo, by simpa using h.hi⟩
/-- one variable more -/
theorem RSt.var (h : RSt ws H rs tb nb hp cl ha nums pv tv gv vv ps ts ns nv w) {V0 V1 : World} {v' : Value} (hb : Below w.heap.size w V0) (hg : V0.grownBy V1 vv.ownBlock) (hv' : V1.ownsRow ws.heap.size 9 1 v' (nv + 1) (List.replicate nv vV ++ [vV])) (ho : v'.ownBlock = vv.ownBlock ∨ v'.ownBlock = some V0.heap.size) :
    RSt ws H rs tb nb hp cl ha nums pv tv gv v' ps ts ns (nv + 1) (V1.setCell ⟨tb, 5, none⟩ v') ∧ V1.cell? ⟨tb, 5, none⟩ = some vv ∧ V1.frozen? ⟨tb, 5, none⟩ = false := by
  have c : Chg tb vv.ownBlock w (V1.setCell ⟨tb, 5, none⟩ v') := chg_push hb hg
  have ht := h.t
  have htl := (Array.getElem?_eq_some_iff.1 ht).1
  have hz := hb.size
  have vt : ∀ {g : Nat} {cur : Array Value} {T : TypeId}, w.heap[g]? = some (.cells cur T (0, 0)) → T ≠ 9 → vv.ownBlock ≠ some g := fun {g cur T} hc hT e => by
    obtain ⟨cur2, hc2⟩ := own_typ h.vars e
    exact typ_ne hc hc2 hT rfl
  have no : ∀ {g : Nat} {cur : Array Value} {T : TypeId}, w.heap[g]? = some (.cells cur T (0, 0)) → T ≠ 9 → T ≠ 32 → g ≠ tb ∧ vv.ownBlock ≠ some g := fun hc h1 h2 => ⟨typ_ne hc ht h2, vt hc h1⟩
  have hV1 : V1.heap[tb]? = some (.cells #[.int .i64 hp, ha, pv, tv, gv, vv, .int .i64 cl] 32 (0, 0)) := by
    rw [hg.block tb (by omega) (vt ht (by decide)).symm, hb.block tb htl]; exact ht
  refine ⟨⟨h.old.trans (c.low h.old.size h.lo.1 (fun g e => (h.vars.lt g e).1)), fun x hx => c.block (h.r x hx) (h.ne x hx) (vt (h.r x hx) (by decide)), by simpa using heap_setCell (j := 5) hV1 v', c.block h.n (no h.n (by decide) (by decide)).1 (no h.n (by decide) (by decide)).2, h.pos.chg c (fun g cur _ hc => no hc (by decide) (by decide)) (fun g cur _ hc => no hc (by decide) (by decide)), c.owns h.tst (fun g cur _ hc => no hc (by decide) (by decide)),
    h.neg.chg c (fun g cur _ hc => no hc (by decide) (by decide)) (fun g cur _ hc => no hc (by decide) (by decide)), ?_, h.apart, h.ne, h.lo, by have := h.hi; have := hg.size; simp; omega⟩, by simp [World.cell?, hV1], by simp [World.frozen?, hV1]⟩
  have e : List.replicate (nv + 1) vV = List.replicate nv vV ++ [vV] := List.replicate_succ'
  rw [e]
  refine owns_block hv' (fun g hg' => Below.heap_setCell _ _ _ _ (fun e => ?_))
  have e : g = tb := e
  subst e
  rcases ho with ho | ho
  · rw [ho] at hg'
    exact vt ht (by decide) hg'
  · rw [ho] at hg'
    cases hg'
    omega
/-- one pattern more (pos) -/
theorem RSt.pushPos (h : RSt ws H rs tb nb hp cl ha nums pv tv gv vv ps ts ns nv w) {V0 V1 : World} {v' u : Value} {p : Pat} (hb : Below w.heap.size w V0) (hg : V0.grownBy V1 pv.ownBlock) (hv' : ∀ cells, w.ownsRow ws.heap.size 27 2 pv ps.length cells → V1.ownsRow ws.heap.size 27 2 v' (ps.length + 1) (cells ++ [.int .i64 p.1, u])) (ho : v'.ownBlock = pv.ownBlock ∨ v'.ownBlock = some V0.heap.size)
    (hu : w.ownsRow ws.heap.size 58 2 u p.2.length (slotCells p.2)) : RSt ws w.heap.size rs tb nb hp cl ha nums v' tv gv vv (ps ++ [p]) ts ns nv (V1.setCell ⟨tb, 2, none⟩ v') ∧ V1.cell? ⟨tb, 2, none⟩ = some pv ∧ V1.frozen? ⟨tb, 2, none⟩ = false := by
  have c : Chg tb pv.ownBlock w (V1.setCell ⟨tb, 2, none⟩ v') := chg_push hb hg
  have ht := h.t
  have htl := (Array.getElem?_eq_some_iff.1 ht).1
  have hz := hb.size
  have vt : ∀ {g : Nat} {cur : Array Value} {T : TypeId}, w.heap[g]? = some (.cells cur T (0, 0)) → T ≠ 27 → pv.ownBlock ≠ some g := fun {g cur T} hc hT e => by
    obtain ⟨cur2, hc2⟩ := h.pos.typ e
    exact typ_ne hc hc2 hT rfl
  have no : ∀ {g : Nat} {cur : Array Value} {T : TypeId}, w.heap[g]? = some (.cells cur T (0, 0)) → T ≠ 27 → T ≠ 32 → g ≠ tb ∧ pv.ownBlock ≠ some g := fun hc h1 h2 => ⟨typ_ne hc ht h2, vt hc h1⟩
  have hV1 : V1.heap[tb]? = some (.cells #[.int .i64 hp, ha, pv, tv, gv, vv, .int .i64 cl] 32 (0, 0)) := by
    rw [hg.block tb (by omega) (vt ht (by decide)).symm, hb.block tb htl]; exact ht
  have hvt : ∀ g, v'.ownBlock = some g → g ≠ tb := fun g e e' => by
    subst e'
    rcases ho with ho | ho
    · rw [ho] at e; exact vt ht (by decide) e
    · rw [ho] at e; cases e; omega
  refine ⟨⟨h.old.trans (c.low h.old.size h.lo.1 (fun g e => (h.pos.lt e).1)), fun x hx => c.block (h.r x hx) (h.ne x hx) (vt (h.r x hx) (by decide)), by simpa using heap_setCell (j := 2) hV1 v', c.block h.n (no h.n (by decide) (by decide)).1 (no h.n (by decide) (by decide)).2, h.pos.push (tb := tb) (o := 2) hb hg ⟨_, ht⟩ hv' hvt hu h.hi, c.owns h.tst (fun g cur _ hc => no hc (by decide) (by decide)),
    (h.neg.chg c (fun g cur hg' hc => ⟨typ_ne hc ht (by decide), fun e => h.apart g e hg'⟩) (fun g cur _ hc => no hc (by decide) (by decide))).raise h.hi, c.owns h.vars (fun g cur _ hc => no hc (by decide) (by decide)), fun g e1 e2 => by
    rcases ho with ho | ho
    · rw [ho] at e1; exact h.apart g e1 e2
    · rw [ho] at e1; cases e1; have := (h.neg.lt e2).2; omega, h.ne, h.lo, by have := hg.size; simp; omega⟩, by simp [World.cell?, hV1], by simp [World.frozen?, hV1]⟩
/-- one pattern more (neg) -/
theorem RSt.pushNeg (h : RSt ws H rs tb nb hp cl ha nums pv tv gv vv ps ts ns nv w) {V0 V1 : World} {v' u : Value} {p : Pat} (hb : Below w.heap.size w V0) (hg : V0.grownBy V1 gv.ownBlock) (hv' : ∀ cells, w.ownsRow ws.heap.size 27 2 gv ns.length cells → V1.ownsRow ws.heap.size 27 2 v' (ns.length + 1) (cells ++ [.int .i64 p.1, u])) (ho : v'.ownBlock = gv.ownBlock ∨ v'.ownBlock = some V0.heap.size)
    (hu : w.ownsRow ws.heap.size 58 2 u p.2.length (slotCells p.2)) : RSt ws w.heap.size rs tb nb hp cl ha nums pv tv v' vv ps ts (ns ++ [p]) nv (V1.setCell ⟨tb, 4, none⟩ v') ∧ V1.cell? ⟨tb, 4, none⟩ = some gv ∧ V1.frozen? ⟨tb, 4, none⟩ = false := by
  have c : Chg tb gv.ownBlock w (V1.setCell ⟨tb, 4, none⟩ v') := chg_push hb hg
  have ht := h.t
  have htl := (Array.getElem?_eq_some_iff.1 ht).1
  have hz := hb.size
  have vt : ∀ {g : Nat} {cur : Array Value} {T : TypeId}, w.heap[g]? = some (.cells cur T (0, 0)) → T ≠ 27 → gv.ownBlock ≠ some g := fun {g cur T} hc hT e => by
    obtain ⟨cur2, hc2⟩ := h.neg.typ e
    exact typ_ne hc hc2 hT rfl
  have no : ∀ {g : Nat} {cur : Array Value} {T : TypeId}, w.heap[g]? = some (.cells cur T (0, 0)) → T ≠ 27 → T ≠ 32 → g ≠ tb ∧ gv.ownBlock ≠ some g := fun hc h1 h2 => ⟨typ_ne hc ht h2, vt hc h1⟩
  have hV1 : V1.heap[tb]? = some (.cells #[.int .i64 hp, ha, pv, tv, gv, vv, .int .i64 cl] 32 (0, 0)) := by
    rw [hg.block tb (by omega) (vt ht (by decide)).symm, hb.block tb htl]; exact ht
  have hvt : ∀ g, v'.ownBlock = some g → g ≠ tb := fun g e e' => by
    subst e'
    rcases ho with ho | ho
    · rw [ho] at e; exact vt ht (by decide) e
    · rw [ho] at e; cases e; omega
  refine ⟨⟨h.old.trans (c.low h.old.size h.lo.1 (fun g e => (h.neg.lt e).1)), fun x hx => c.block (h.r x hx) (h.ne x hx) (vt (h.r x hx) (by decide)), by simpa using heap_setCell (j := 4) hV1 v', c.block h.n (no h.n (by decide) (by decide)).1 (no h.n (by decide) (by decide)).2, (h.pos.chg c (fun g cur hg' hc => ⟨typ_ne hc ht (by decide), fun e => h.apart g hg' e⟩) (fun g cur _ hc => no hc (by decide) (by decide))).raise h.hi, c.owns h.tst (fun g cur _ hc => no hc (by decide) (by decide)),
    h.neg.push (tb := tb) (o := 4) hb hg ⟨_, ht⟩ hv' hvt hu h.hi, c.owns h.vars (fun g cur _ hc => no hc (by decide) (by decide)), fun g e1 e2 => by
    rcases ho with ho | ho
    · rw [ho] at e2; exact h.apart g e1 e2
    · rw [ho] at e2; cases e2; have := (h.pos.lt e1).2; omega, h.ne, h.lo, by have := hg.size; simp; omega⟩, by simp [World.cell?, hV1], by simp [World.frozen?, hV1]⟩
theorem tstCells_length (l : List Tst) : (tstCells l).length = l.length * 5 := by
  induction l with
  | nil => rfl
  | cons x l ih => simp only [tstCells, List.flatMap_cons, List.length_append, List.length_cons, List.length_nil] at ih ⊢; omega
theorem tstCells_app (a b : List Tst) : tstCells (a ++ b) = tstCells a ++ tstCells b := by simp [tstCells]
theorem tstCells_snoc (l : List Tst) (t : Tst) : tstCells (l ++ [t]) = tstCells l ++ [.int .i64 t.1, .bool t.2.1.1, .int .i64 t.2.1.2, .bool t.2.2.1, .int .i64 t.2.2.2] := by simp [tstCells]
/-- one test more -/
theorem RSt.pushTst (h : RSt ws H rs tb nb hp cl ha nums pv tv gv vv ps ts ns nv w) {V0 V1 : World} {v' : Value} {t : Tst} (hb : Below w.heap.size w V0) (hg : V0.grownBy V1 tv.ownBlock) (hv' : V1.ownsRow ws.heap.size 60 5 v' (ts.length + 1) (tstCells ts ++ [.int .i64 t.1, .bool t.2.1.1, .int .i64 t.2.1.2, .bool t.2.2.1, .int .i64 t.2.2.2])) (ho : v'.ownBlock = tv.ownBlock ∨ v'.ownBlock = some V0.heap.size) :
    RSt ws H rs tb nb hp cl ha nums pv v' gv vv ps (ts ++ [t]) ns nv (V1.setCell ⟨tb, 3, none⟩ v') ∧ V1.cell? ⟨tb, 3, none⟩ = some tv ∧ V1.frozen? ⟨tb, 3, none⟩ = false := by
  have c : Chg tb tv.ownBlock w (V1.setCell ⟨tb, 3, none⟩ v') := chg_push hb hg
  have ht := h.t
  have htl := (Array.getElem?_eq_some_iff.1 ht).1
  have hz := hb.size
  have vt : ∀ {g : Nat} {cur : Array Value} {T : TypeId}, w.heap[g]? = some (.cells cur T (0, 0)) → T ≠ 60 → tv.ownBlock ≠ some g := fun {g cur T} hc hT e => by
    obtain ⟨cur2, hc2⟩ := own_typ h.tst e
    exact typ_ne hc hc2 hT rfl
  have no : ∀ {g : Nat} {cur : Array Value} {T : TypeId}, w.heap[g]? = some (.cells cur T (0, 0)) → T ≠ 60 → T ≠ 32 → g ≠ tb ∧ tv.ownBlock ≠ some g := fun hc h1 h2 => ⟨typ_ne hc ht h2, vt hc h1⟩
  have hV1 : V1.heap[tb]? = some (.cells #[.int .i64 hp, ha, pv, tv, gv, vv, .int .i64 cl] 32 (0, 0)) := by
    rw [hg.block tb (by omega) (vt ht (by decide)).symm, hb.block tb htl]; exact ht
  refine ⟨⟨h.old.trans (c.low h.old.size h.lo.1 (fun g e => (h.tst.lt g e).1)), fun x hx => c.block (h.r x hx) (h.ne x hx) (vt (h.r x hx) (by decide)), by simpa using heap_setCell (j := 3) hV1 v', c.block h.n (no h.n (by decide) (by decide)).1 (no h.n (by decide) (by decide)).2, h.pos.chg c (fun g cur _ hc => no hc (by decide) (by decide)) (fun g cur _ hc => no hc (by decide) (by decide)), ?_,
    h.neg.chg c (fun g cur _ hc => no hc (by decide) (by decide)) (fun g cur _ hc => no hc (by decide) (by decide)), c.owns h.vars (fun g cur _ hc => no hc (by decide) (by decide)), h.apart, h.ne, h.lo, by have := h.hi; have := hg.size; simp; omega⟩, by simp [World.cell?, hV1], by simp [World.frozen?, hV1]⟩
  rw [tstCells_snoc, List.length_append]
  refine owns_block hv' (fun g hg' => Below.heap_setCell _ _ _ _ (fun e => ?_))
  have e : g = tb := e
  subst e
  rcases ho with ho | ho
  · rw [ho] at hg'
    exact vt ht (by decide) hg'
  · rw [ho] at hg'
    cases hg'
    omega
end
end Mt
end Go.Proofs.Ytkejjiohkhlnnaa

namespace Go.Proofs.Ytkejjiohkhlnnaa
open Go.RowKit
namespace Mt

/-- four numbers: of each kind of variable its number, or -1; nv of them are told -/
structure NumOk (nums : List Int) (nv : Nat) : Prop where
  len : nums.length = 4
  rng : ∀ x ∈ nums, x = -1 ∨ (0 ≤ x ∧ x < nv)
  cnt : (nums.filter (fun x => decide (0 ≤ x))).length = nv
theorem NumOk.le {nums : List Int} {nv : Nat} (h : NumOk nums nv) : nv ≤ 4 := by
  have := List.length_filter_le (fun x => decide (0 ≤ x)) nums
  rw [h.cnt, h.len] at this
  exact this
theorem filter_set {l : List Int} {k : Nat} {x : Int} (hk : k < l.length) (h1 : l[k] < 0) (h2 : 0 ≤ x) : ((l.set k x).filter (fun x => decide (0 ≤ x))).length = (l.filter (fun x => decide (0 ≤ x))).length + 1 := by
  induction l generalizing k with
  | nil => simp at hk
  | cons y l ih =>
    cases k with
    | zero =>
      simp only [List.getElem_cons_zero] at h1
      have e1 : decide (0 ≤ y) = false := by simp; omega
      have e2 : decide (0 ≤ x) = true := by simp; omega
      simp only [List.set_cons_zero, List.filter_cons, e1, e2, if_true, Bool.false_eq_true, if_false, List.length_cons]
    | succ k =>
      have := ih (k := k) (by simpa using hk) (by simpa using h1)
      simp only [List.set_cons_succ, List.filter_cons]
      split
      · simp only [List.length_cons, this]
      · exact this
theorem NumOk.new {nums : List Int} {nv k : Nat} (h : NumOk nums nv) (hk : k < 4) (h1 : nums.getD k 0 < 0) : NumOk (nums.set k nv) (nv + 1) := by
  have hkl : k < nums.length := by rw [h.len]; exact hk
  have e : nums.getD k 0 = nums[k] := by rw [List.getD_eq_getElem?_getD, List.getElem?_eq_getElem hkl]; rfl
  refine ⟨by simp [h.len], fun x hx => ?_, ?_⟩
  · rcases List.mem_or_eq_of_mem_set hx with hx | rfl
    · rcases h.rng x hx with e | ⟨e1, e2⟩
      · exact .inl e
      · exact .inr ⟨e1, by omega⟩
    · exact .inr ⟨by omega, by omega⟩
  · rw [filter_set hkl (by rw [← e]; exact h1) (by omega), h.cnt]
theorem SlotOk.mono {v v' d : Nat} {s : Sl} (h : SlotOk v d s) (hv : v ≤ v') : SlotOk v' d s := by
  obtain ⟨h1, h2⟩ := h
  refine ⟨h1, ?_⟩
  split at h2
  · rename_i hs; rw [if_pos hs]; omega
  · rename_i hs; rw [if_neg hs]; exact h2
theorem nextL_app (a b : List Sl) (m n : Nat) (h : nextL a m = some n) : nextL (a ++ b) m = nextL b n := by
  induction a generalizing m with
  | nil => simp [nextL] at h; subst h; rfl
  | cons s r ih =>
    simp only [List.cons_append, nextL] at h ⊢
    split at h
    · rename_i hs
      rw [if_pos hs]
      split at h
      · cases h
      · rename_i h1
        rw [if_neg h1]
        split at h
        · rename_i h2; rw [if_pos h2]; exact ih _ h
        · rename_i h2; rw [if_neg h2]; exact ih _ h
    · rename_i hs
      rw [if_neg hs]
      exact ih _ h
theorem nextP_app (a b : List Pat) (m n : Nat) (h : nextP a m = some n) : nextP (a ++ b) m = nextP b n := by
  induction a generalizing m with
  | nil => simp [nextP] at h; subst h; rfl
  | cons s r ih =>
    simp only [List.cons_append, nextP] at h ⊢
    obtain ⟨k, h1, h2⟩ := Option.bind_eq_some_iff.1 h
    rw [h1]
    exact ih _ h2
/-- what holds of the slots that have been numbered -/
structure DoneL (d nv0 nv : Nat) (l : List Sl) : Prop where
  next : nextL l nv0 = some nv
  ok : ∀ s ∈ l, SlotOk nv d s
theorem DoneL.nil (d nv : Nat) : DoneL d nv nv [] := ⟨rfl, fun s hs => by cases hs⟩
theorem DoneL.const {d nv0 nv : Nat} {l : List Sl} (h : DoneL d nv0 nv l) {s : Sl} (hs : s.1 = false) (hk : 0 ≤ s.2 ∧ s.2 < d) : DoneL d nv0 nv (l ++ [s]) := by
  refine ⟨by rw [nextL_app _ _ _ _ h.next]; simp [nextL, hs], fun z hz => ?_⟩
  rcases List.mem_append.1 hz with hz | hz
  · exact h.ok z hz
  · rw [List.mem_singleton] at hz
    subst hz
    exact ⟨hk.1, by rw [hs]; exact hk.2⟩
theorem DoneL.old {d nv0 nv : Nat} {l : List Sl} (h : DoneL d nv0 nv l) {x : Int} (h0 : 0 ≤ x) (h1 : x < nv) : DoneL d nv0 nv (l ++ [(true, x)]) := by
  refine ⟨by rw [nextL_app _ _ _ _ h.next]; simp only [nextL, if_true]; rw [if_neg (by omega), if_neg (by omega)], fun z hz => ?_⟩
  rcases List.mem_append.1 hz with hz | hz
  · exact h.ok z hz
  · rw [List.mem_singleton] at hz
    subst hz
    exact ⟨h0, h1⟩
theorem DoneL.new {d nv0 nv : Nat} {l : List Sl} (h : DoneL d nv0 nv l) : DoneL d nv0 (nv + 1) (l ++ [(true, (nv : Int))]) := by
  refine ⟨by rw [nextL_app _ _ _ _ h.next]; simp [nextL], fun z hz => ?_⟩
  rcases List.mem_append.1 hz with hz | hz
  · exact (h.ok z hz).mono (by omega)
  · rw [List.mem_singleton] at hz
    subst hz
    exact ⟨by simp only; omega, by simp only [if_true]; omega⟩
/-- what holds of the patterns that have been numbered -/
structure DoneP (ar : List Int) (d nv : Nat) (ps : List Pat) : Prop where
  next : nextP ps 0 = some nv
  ok : ∀ p ∈ ps, PatOk nv d p ∧ PatT ar d p
theorem DoneP.nil (ar : List Int) (d : Nat) : DoneP ar d 0 [] := ⟨rfl, fun p hp => by cases hp⟩
theorem DoneP.push {ar : List Int} {d nv0 nv : Nat} {ps : List Pat} {p : Pat} (h : DoneP ar d nv0 ps) (hl : DoneL d nv0 nv p.2) (h8 : p.2.length ≤ 8) (hp : PatT ar d p) : DoneP ar d nv (ps ++ [p]) := by
  have hle : nv0 ≤ nv := (next_new hl.next).1
  refine ⟨by rw [nextP_app _ _ _ _ h.next]; simp only [nextP, hl.next]; rfl, fun q hq => ?_⟩
  rcases List.mem_append.1 hq with hq | hq
  · obtain ⟨⟨k1, k2, k3⟩, k4⟩ := h.ok q hq
    exact ⟨⟨k1, k2, fun s hs => (k3 s hs).mono hle⟩, k4⟩
  · rw [List.mem_singleton] at hq
    subst hq
    obtain ⟨i, hi, -⟩ := id hp
    exact ⟨⟨by omega, h8, hl.ok⟩, hp⟩
theorem slotCells_set {l : List Sl} {j : Nat} {s : Sl} {x : Int} (h : l[j]? = some s) : slotCells (l.set j (s.1, x)) = (slotCells l).set (j * 2 + 1) (.int .i64 x) := by
  induction l generalizing j with
  | nil => simp at h
  | cons y l ih =>
    cases j with
    | zero =>
      simp at h
      subst h
      simp [slotCells]
    | succ j =>
      have := ih (j := j) (by simpa using h)
      have e : (j + 1) * 2 + 1 = j * 2 + 1 + 1 + 1 := by omega
      rw [e]
      simp only [slotCells, List.set_cons_succ, List.flatMap_cons, List.cons_append, List.nil_append] at this ⊢
      rw [this]
/-- a slot is written -/
theorem own_slot {w : World} {B g c n : Nat} {l : List Sl} {j : Nat} {s : Sl} {x : Int} (h : w.ownsRow B 58 2 (.slice (some ⟨g, 0, none⟩) n c) n (slotCells l)) (hj : l[j]? = some s) (hn : l.length = n) : (w.setCell ⟨g, j * 2 + 1, none⟩ (.int .i64 x)).ownsRow B 58 2 (.slice (some ⟨g, 0, none⟩) n c) n (slotCells (l.set j (s.1, x))) ∧ (∃ cs, w.heap[g]? = some (.cells cs 58 (0, 0))) ∧ w.cell? ⟨g, j * 2, none⟩ = some (.bool s.1) ∧ w.cell? ⟨g, j * 2 + 1, none⟩ = some (.int .i64 s.2) ∧ w.frozen? ⟨g, j * 2 + 1, none⟩ = false := by
  have hjl := (List.getElem?_eq_some_iff.1 hj).1
  rcases h.2 with ⟨h0, -⟩ | ⟨g', cap, cur, h5, hg, hc, hnc, hcm, hsz, ht⟩
  · cases h0
  · injection h5 with h5 h6 h7
    injection h5 with h5
    injection h5 with h5
    subst h5
    subst h7
    have e1 := slotCells_even l j
    have e2 := slotCells_odd l j
    rw [hj] at e1 e2
    have q1 : cur[j * 2]? = some (.bool s.1) := by
      have : (cur.toList.take (n * 2))[j * 2]? = some (.bool s.1) := by rw [ht]; exact e1
      rw [List.getElem?_take_of_lt (by omega)] at this
      simpa using this
    have q2 : cur[j * 2 + 1]? = some (.int .i64 s.2) := by
      have : (cur.toList.take (n * 2))[j * 2 + 1]? = some (.int .i64 s.2) := by rw [ht]; exact e2
      rw [List.getElem?_take_of_lt (by omega)] at this
      simpa using this
    refine ⟨⟨by rw [slotCells_set hj, List.length_set]; exact h.1, .inr ⟨g, c, cur.setIfInBounds (j * 2 + 1) (.int .i64 x), rfl, hg, heap_setCell hc _, hnc, hcm, by simpa using hsz, ?_⟩⟩, ⟨cur, hc⟩, by simp [World.cell?, hc, q1], by simp [World.cell?, hc, q2], by simp [World.frozen?, hc]⟩
    rw [slotCells_set hj, Array.toList_setIfInBounds, List.take_set, ht]
end Mt
end Go.Proofs.Ytkejjiohkhlnnaa

namespace Go.Proofs.Ytkejjiohkhlnnaa
open Go.RowKit
namespace Mt

/-- the state of tamedRule, and a pattern in hand: its box pb, its slots l -/
structure PSt (ws : World) (H : Nat) (rs : List (Nat × Array Value)) (tb nb : Nat) (hp cl : Int) (ha : Value) (nums : List Int) (pv tv gv vv : Value) (ps : List Pat) (ts : List Tst) (ns : List Pat) (nv : Nat) (pb : Nat) (pr : Int) (v : Value) (l : List Sl) (w : World) : Prop where
  st : RSt ws H rs tb nb hp cl ha nums pv tv gv vv ps ts ns nv w
  box : w.heap[pb]? = some (.cells #[.int .i64 pr, v] 27 (0, 0))
  own : w.ownsRow ws.heap.size 58 2 v l.length (slotCells l)
  new : ∀ g, v.ownBlock = some g → H ≤ g
section
variable {ws : World} {H tb nb pb : Nat} {rs : List (Nat × Array Value)} {hp cl pr : Int} {ha : Value} {nums : List Int} {pv tv gv vv v : Value} {ps : List Pat} {ts : List Tst} {ns : List Pat} {nv : Nat} {l : List Sl} {w V : World}
theorem PSt.below (h : PSt ws H rs tb nb hp cl ha nums pv tv gv vv ps ts ns nv pb pr v l w) (hb : Below w.heap.size w V) : PSt ws H rs tb nb hp cl ha nums pv tv gv vv ps ts ns nv pb pr v l V :=
  ⟨h.st.below hb, (hb.block pb (Array.getElem?_eq_some_iff.1 h.box).1).trans h.box, owns_below h.own hb (Nat.le_refl _), h.new⟩
theorem PSt.num (h : PSt ws H rs tb nb hp cl ha nums pv tv gv vv ps ts ns nv pb pr v l w) (k : Nat) (x : Int) : PSt ws H rs tb nb hp cl ha (nums.set k x) pv tv gv vv ps ts ns nv pb pr v l (w.setCell ⟨nb, k, none⟩ (.int .i64 x)) := by
  have c := chg_store w nb k (.int .i64 x)
  have hn := h.st.n
  refine ⟨h.st.num k x, c.block h.box (typ_ne h.box hn (by decide)) (by simp), c.owns h.own (fun g cur _ hc => ⟨typ_ne hc hn (by decide), by simp⟩), h.new⟩
theorem PSt.var (h : PSt ws H rs tb nb hp cl ha nums pv tv gv vv ps ts ns nv pb pr v l w) {V0 V1 : World} {v' : Value} (hb : Below w.heap.size w V0) (hg : V0.grownBy V1 vv.ownBlock) (hv' : V1.ownsRow ws.heap.size 9 1 v' (nv + 1) (List.replicate nv vV ++ [vV])) (ho : v'.ownBlock = vv.ownBlock ∨ v'.ownBlock = some V0.heap.size) :
    PSt ws H rs tb nb hp cl ha nums pv tv gv v' ps ts ns (nv + 1) pb pr v l (V1.setCell ⟨tb, 5, none⟩ v') ∧ V1.cell? ⟨tb, 5, none⟩ = some vv ∧ V1.frozen? ⟨tb, 5, none⟩ = false := by
  obtain ⟨k1, k2, k3⟩ := h.st.var hb hg hv' ho
  have c : Chg tb vv.ownBlock w (V1.setCell ⟨tb, 5, none⟩ v') := chg_push hb hg
  have no : ∀ {g : Nat} {cur : Array Value} {T : TypeId}, w.heap[g]? = some (.cells cur T (0, 0)) → T ≠ 9 → T ≠ 32 → g ≠ tb ∧ vv.ownBlock ≠ some g := fun hc h1 h2 => ⟨typ_ne hc h.st.t h2, fun e => by
    obtain ⟨cur2, hc2⟩ := own_typ h.st.vars e
    exact typ_ne hc hc2 h1 rfl⟩
  exact ⟨⟨k1, c.block h.box (no h.box (by decide) (by decide)).1 (no h.box (by decide) (by decide)).2, c.owns h.own (fun g cur _ hc => no hc (by decide) (by decide)), h.new⟩, k2, k3⟩
theorem PSt.set {g c n : Nat} (h : PSt ws H rs tb nb hp cl ha nums pv tv gv vv ps ts ns nv pb pr (.slice (some ⟨g, 0, none⟩) n c) l w) (hn : l.length = n) {j : Nat} {s : Sl} (hj : l[j]? = some s) (x : Int) :
    PSt ws H rs tb nb hp cl ha nums pv tv gv vv ps ts ns nv pb pr (.slice (some ⟨g, 0, none⟩) n c) (l.set j (s.1, x)) (w.setCell ⟨g, j * 2 + 1, none⟩ (.int .i64 x)) := by
  have ho := h.own
  rw [hn] at ho
  obtain ⟨k1, ⟨cs, hc⟩, -⟩ := own_slot (x := x) ho hj hn
  have c := chg_store w g (j * 2 + 1) (.int .i64 x)
  refine ⟨h.st.slot hc (h.new g rfl) (ho.lt g rfl).1 _ _, c.block h.box (typ_ne h.box hc (by decide)) (by simp), by rw [List.length_set, hn]; exact k1, h.new⟩
/-- what the walk reads -/
theorem RSt.vcell (h : RSt ws H rs tb nb hp cl ha nums pv tv gv vv ps ts ns nv w) : w.cell? ⟨tb, 2, none⟩ = some pv ∧ w.cell? ⟨tb, 3, none⟩ = some tv ∧ w.cell? ⟨tb, 4, none⟩ = some gv ∧ w.cell? ⟨tb, 5, none⟩ = some vv := by
  have := h.t
  simp [World.cell?, this]
theorem RSt.ncell (h : RSt ws H rs tb nb hp cl ha nums pv tv gv vv ps ts ns nv w) {k : Nat} (hk : k < nums.length) : w.cell? ⟨nb, k, none⟩ = some (.int .i64 nums[k]) ∧ w.frozen? ⟨nb, k, none⟩ = false := by
  have := h.n
  simp [World.cell?, World.frozen?, this, hk]
theorem RSt.rcell (h : RSt ws H rs tb nb hp cl ha nums pv tv gv vv ps ts ns nv w) {b : Nat} {cs : Array Value} (hm : (b, cs) ∈ rs) {k : Nat} {x : Value} (hk : cs[k]? = some x) : w.cell? ⟨b, k, none⟩ = some x := by
  have := h.r _ hm
  simp [World.cell?, this, hk]
end
end Mt
end Go.Proofs.Ytkejjiohkhlnnaa

namespace Go.Proofs.Ytkejjiohkhlnnaa
open Go.RowKit
namespace Mt

/-- the cells of a rule that has nothing yet -/
def zeroR : Array Value := #[.int .i64 0, .slice none 0 0, .slice none 0 0, .slice none 0 0, .slice none 0 0, .slice none 0 0, .int .i64 0]
def TRuleEnd (ar : List Int) (d : Nat) (R : RuleV) (w : World) (e : Ending) (w' : World) : Prop := ∃ R' : RuleV, e = .returned (.agg R'.cells) ∧ (∀ V : World, (∀ j, w.heap.size ≤ j → j < w'.heap.size → V.heap[j]? = w'.heap[j]?) → RuleIn V R') ∧ RuleOk R' d ∧ Below w.heap.size w w' ∧ R'.pos.length ≤ 4 ∧ R'.tests.length ≤ 3 ∧ R'.neg.length ≤ 3 ∧ (∀ p ∈ R'.pos, PatT ar d p) ∧ (∀ p ∈ R'.neg, PatT ar d p) ∧ R'.hp = R.hp ∧ R'.ha = R.ha ∧ R'.hn = R.hn ∧ R'.hc = R.hc ∧ R'.cl = R.cl ∧ w'.ownsRow w.heap.size 9 1 (.slice R'.va R'.nv R'.vc) R'.nv (List.replicate R'.nv vV)
theorem slotCells_set2 {l : List Sl} {j : Nat} {s : Sl} (z : Sl) (h : l[j]? = some s) : slotCells (l.set j z) = ((slotCells l).set (j * 2) (.bool z.1)).set (j * 2 + 1) (.int .i64 z.2) := by
  induction l generalizing j with
  | nil => simp at h
  | cons y l ih =>
    cases j with
    | zero => simp [slotCells]
    | succ j =>
      have := ih (j := j) (by simpa using h)
      have e : (j + 1) * 2 + 1 = j * 2 + 1 + 1 + 1 := by omega
      have e2 : (j + 1) * 2 = j * 2 + 1 + 1 := by omega
      rw [e, e2]
      simp only [slotCells, List.set_cons_succ, List.flatMap_cons, List.cons_append, List.nil_append] at this ⊢
      rw [this]
/-- a slot is written, both its cells -/
theorem own_slot2 {w : World} {B g c n : Nat} {l : List Sl} {j : Nat} {s : Sl} (z : Sl) (h : w.ownsRow B 58 2 (.slice (some ⟨g, 0, none⟩) n c) n (slotCells l)) (hj : l[j]? = some s) : ((w.setCell ⟨g, j * 2, none⟩ (.bool z.1)).setCell ⟨g, j * 2 + 1, none⟩ (.int .i64 z.2)).ownsRow B 58 2 (.slice (some ⟨g, 0, none⟩) n c) n (slotCells (l.set j z)) ∧ w.frozen? ⟨g, j * 2, none⟩ = false := by
  rcases h.2 with ⟨h0, -⟩ | ⟨g', cap, cur, h5, hg, hc, hnc, hcm, hsz, ht⟩
  · cases h0
  · injection h5 with h5 h6 h7
    injection h5 with h5
    injection h5 with h5
    subst h5
    subst h7
    refine ⟨⟨by rw [slotCells_set2 z hj, List.length_set, List.length_set]; exact h.1, .inr ⟨g, c, (cur.setIfInBounds (j * 2) (.bool z.1)).setIfInBounds (j * 2 + 1) (.int .i64 z.2), rfl, hg, heap_setCell (j := j * 2 + 1) (heap_setCell (j := j * 2) hc _) _, hnc, hcm, by simpa using hsz, ?_⟩⟩, by simp [World.frozen?, hc]⟩
    rw [slotCells_set2 z hj, Array.toList_setIfInBounds, Array.toList_setIfInBounds, List.take_set, List.take_set, ht]
section
variable {ws : World} {H tb nb pb : Nat} {rs : List (Nat × Array Value)} {hp cl pr : Int} {ha : Value} {nums : List Int} {pv tv gv vv v : Value} {ps : List Pat} {ts : List Tst} {ns : List Pat} {nv : Nat} {l : List Sl} {w V : World}
theorem PSt.set2 {g c n : Nat} (h : PSt ws H rs tb nb hp cl ha nums pv tv gv vv ps ts ns nv pb pr (.slice (some ⟨g, 0, none⟩) n c) l w) (hn : l.length = n) {j : Nat} {s : Sl} (hj : l[j]? = some s) (z : Sl) :
    PSt ws H rs tb nb hp cl ha nums pv tv gv vv ps ts ns nv pb pr (.slice (some ⟨g, 0, none⟩) n c) (l.set j z) ((w.setCell ⟨g, j * 2, none⟩ (.bool z.1)).setCell ⟨g, j * 2 + 1, none⟩ (.int .i64 z.2)) := by
  have ho := h.own
  rw [hn] at ho
  obtain ⟨k1, -⟩ := own_slot2 z ho hj
  obtain ⟨-, ⟨cs, hc⟩, -⟩ := own_slot (x := 0) ho hj hn
  have hc2 := heap_setCell (j := j * 2) hc (.bool z.1)
  have hb := (chg_store w g (j * 2) (.bool z.1)).block h.box (typ_ne h.box hc (by decide)) (by simp)
  refine ⟨(h.st.slot hc (h.new g rfl) (ho.lt g rfl).1 _ _).slot hc2 (h.new g rfl) (ho.lt g rfl).1 _ _, (chg_store _ g (j * 2 + 1) (.int .i64 z.2)).block hb (typ_ne h.box hc (by decide)) (by simp), by rw [List.length_set, hn]; exact k1, h.new⟩
theorem Chg.trans {V2 : World} {tb : Nat} {vb : Option Nat} (h : Chg tb vb w V) (k : Chg tb vb V V2) : Chg tb vb w V2 := ⟨k.os.trans h.os, k.tape.trans h.tape, k.output.trans h.output, Nat.le_trans h.size k.size, fun j hj h1 h2 => (k.keep j (Nat.lt_of_lt_of_le hj h.size) h1 h2).trans (h.keep j hj h1 h2)⟩
/-- the seven stores of a rule -/
theorem rule_stores {b : Nat} {T : TypeId} (h : w.heap[b]? = some (.cells zeroR T (0, 0))) (x0 x1 x2 x3 x4 x5 x6 : Value) (hV : V = ((((((w.setCell ⟨b, 0, none⟩ x0).setCell ⟨b, 1, none⟩ x1).setCell ⟨b, 2, none⟩ x2).setCell ⟨b, 3, none⟩ x3).setCell ⟨b, 4, none⟩ x4).setCell ⟨b, 5, none⟩ x5).setCell ⟨b, 6, none⟩ x6) :
    V.heap[b]? = some (.cells #[x0, x1, x2, x3, x4, x5, x6] T (0, 0)) ∧ Chg b none w V := by
  subst hV
  refine ⟨by simpa [zeroR] using heap_setCell (j := 6) (heap_setCell (j := 5) (heap_setCell (j := 4) (heap_setCell (j := 3) (heap_setCell (j := 2) (heap_setCell (j := 1) (heap_setCell (j := 0) h x0) x1) x2) x3) x4) x5) x6, ?_⟩
  exact ((((((chg_store _ _ _ _).trans (chg_store _ _ _ _)).trans (chg_store _ _ _ _)).trans (chg_store _ _ _ _)).trans (chg_store _ _ _ _)).trans (chg_store _ _ _ _)).trans (chg_store _ _ _ _)
theorem tsts_row {B : Nat} (q1 : w.ownsRow B 60 5 tv ts.length (tstCells ts)) : ∃ a c, tv = .slice a ts.length c ∧ Tsts w a ts := by
  rcases owns_form q1 with ⟨rfl, h0, _⟩ | ⟨g, cap, rfl, hb, _, _, _, _, hc, _⟩
  · have : ts = [] := List.eq_nil_of_length_eq_zero h0
    subst this
    exact ⟨none, 0, rfl, .inl rfl⟩
  · refine ⟨_, _, rfl, .inr ⟨g, 0, rfl, fun i t ht => ?_⟩⟩
    have key : ∀ (k : Nat) (x : Value), k < 5 → [Value.int .i64 t.1, .bool t.2.1.1, .int .i64 t.2.1.2, .bool t.2.2.1, .int .i64 t.2.2.2][k]? = some x → w.cell? ⟨g, 0 + i * 5 + k, none⟩ = some x := fun k x hk hx => by
      have e : (tstCells ts)[i * 5 + k]? = some x := by
        obtain ⟨hi, rfl⟩ := List.getElem?_eq_some_iff.1 ht
        have hs : ts = ts.take i ++ ts[i] :: ts.drop (i + 1) := by rw [← List.drop_eq_getElem_cons hi, List.take_append_drop]
        have e1 : tstCells ts = tstCells (ts.take i) ++ ([Value.int .i64 ts[i].1, .bool ts[i].2.1.1, .int .i64 ts[i].2.1.2, .bool ts[i].2.2.1, .int .i64 ts[i].2.2.2] ++ tstCells (ts.drop (i + 1))) := by
          conv => lhs; rw [hs, tstCells_app]
          rfl
        have hl : (tstCells (ts.take i)).length = i * 5 := by rw [tstCells_length, List.length_take]; omega
        rw [e1, List.getElem?_append_right (by omega), hl, show i * 5 + k - i * 5 = k by omega, List.getElem?_append_left (by simpa using hk)]
        exact hx
      have := hc _ _ e
      rwa [Nat.zero_add]
    exact ⟨key 0 _ (by omega) rfl, key 1 _ (by omega) rfl, key 2 _ (by omega) rfl, key 3 _ (by omega) rfl, key 4 _ (by omega) rfl⟩
theorem PatRow.keepZ {B H : Nat} {w V : World} {v : Value} {ps : List Pat} (h : PatRow B H w v ps) (hk : ∀ j, B ≤ j → j < w.heap.size → V.heap[j]? = w.heap[j]?) : PatRow B H V v ps := by
  obtain ⟨cells, q1, q2⟩ := h
  refine ⟨cells, owns_block q1 (fun g hg => hk g (q1.lt g hg).1 (q1.lt g hg).2), fun i p hp => ?_⟩
  obtain ⟨u, k1, k2, k3, k4⟩ := q2 i p hp
  exact ⟨u, k1, k2, owns_block k3 (fun g hg => hk g (k3.lt g hg).1 (k3.lt g hg).2), k4⟩
theorem RSt.done (h : RSt ws H rs tb nb hp cl ha nums pv tv gv vv ps ts ns nv w) {b : Nat} {cs : Array Value} (hb : (b, cs) ∈ rs) (hlo : ws.heap.size ≤ b) (c : Chg b none w V) : Below ws.heap.size ws V ∧ PatRow ws.heap.size H V pv ps ∧ V.ownsRow ws.heap.size 60 5 tv ts.length (tstCells ts) ∧ PatRow ws.heap.size H V gv ns ∧ V.ownsRow ws.heap.size 9 1 vv nv (List.replicate nv vV) := by
  have hb' := h.r _ hb
  have no : ∀ {g : Nat} {cur : Array Value} {T : TypeId}, w.heap[g]? = some (.cells cur T (0, 0)) → T ≠ 32 → g ≠ b ∧ (none : Option Nat) ≠ some g := fun hc hT => ⟨typ_ne hc hb' hT, by simp⟩
  exact ⟨h.old.trans (c.low h.old.size hlo (fun g e => by cases e)), h.pos.chg c (fun g cur _ hc => no hc (by decide)) (fun g cur _ hc => no hc (by decide)), c.owns h.tst (fun g cur _ hc => no hc (by decide)), h.neg.chg c (fun g cur _ hc => no hc (by decide)) (fun g cur _ hc => no hc (by decide)), c.owns h.vars (fun g cur _ hc => no hc (by decide))⟩
theorem trule_fin {ar : List Int} {d : Nat} {R : RuleV} {rha va : Option Addr} {rhn rhc vc : Nat} (h : RSt ws H rs tb nb hp cl (.slice rha rhn rhc) nums pv tv gv (.slice va nv vc) ps ts ns nv w) {b : Nat} {cs : Array Value} (hb : (b, cs) ∈ rs) (hlo : ws.heap.size ≤ b) (c : Chg b none w V) (ho : NumOk nums nv) (hd : DoneP ar d nv ps)
    (h4 : ps.length ≤ 4) (ht : ts.length ≤ 3) (hT : ∀ t ∈ ts, TstOk nv d t) (hn : ns.length ≤ 3) (hN : ∀ p ∈ ns, PatOk nv d p ∧ PatT ar d p) (e1 : R.hp = hp) (e2 : R.ha = rha) (e3 : R.hn = rhn) (e4 : R.hc = rhc) (e5 : R.cl = cl) :
    TRuleEnd ar d R ws (.returned (.agg #[.int .i64 hp, .slice rha rhn rhc, pv, tv, gv, .slice va nv vc, .int .i64 cl])) V := by
  obtain ⟨k1, k2, k3, k4, k5⟩ := h.done hb hlo c
  obtain ⟨pa, pc, rfl, hP⟩ := k2.pats
  obtain ⟨ta, tc, rfl, hTs⟩ := tsts_row k3
  obtain ⟨na, nc, rfl, hNs⟩ := k4.pats
  have hv := ho.le
  refine ⟨⟨hp, rha, rhn, rhc, pa, pc, ps, ta, tc, ts, na, nc, ns, va, nv, vc, cl⟩, rfl, fun V' hk => ?_, ⟨by simp only; omega, by simp only; omega, fun p hp => (hd.ok p hp).1, fun p hp => (hN p hp).1, hT, hd.next⟩, k1, h4, ht, hn, fun p hp => (hd.ok p hp).2, fun p hp => (hN p hp).2, e1.symm, e2.symm, e3.symm, e4.symm, e5.symm, k5⟩
  obtain ⟨pa', pc', p1, p2⟩ := (k2.keepZ hk).pats
  obtain ⟨ta', tc', t1, t2⟩ := tsts_row (owns_block k3 (fun g hg => hk g (k3.lt g hg).1 (k3.lt g hg).2))
  obtain ⟨na', nc', n1, n2⟩ := (k4.keepZ hk).pats
  cases p1
  cases t1
  cases n1
  exact ⟨p2, t2, n2⟩
end
theorem owns_same {w : World} {B e size n : Nat} {v : Value} {xs ys : List Value} (h1 : w.ownsRow B e size v n xs) (h2 : w.ownsRow B e size v n ys) : xs = ys := by
  rcases h1 with ⟨l1, ⟨rfl, a1⟩ | ⟨g, cap, cur, rfl, hg, hc, hnc, hcm, hsz, ht⟩⟩
  · have l2 := h2.1
    subst a1
    have e : xs = [] := List.eq_nil_of_length_eq_zero (by rw [l1]; simp)
    have e2 : ys = [] := List.eq_nil_of_length_eq_zero (by rw [l2]; simp)
    rw [e, e2]
  · rcases h2 with ⟨l2, ⟨h0, -⟩ | ⟨g', cap', cur', h5, hg', hc', hnc', hcm', hsz', ht'⟩⟩
    · cases h0
    · cases h5
      rw [hc] at hc'
      cases hc'
      exact ht.symm.trans ht'
theorem take_set_at {α : Type} {l : List α} {j : Nat} {a : α} (h : j < l.length) : (l.set j a).take (j + 1) = l.take j ++ [a] := by
  rw [take_snoc' (show (l.set j a)[j]? = some a by simp [h]), List.take_set_of_le (Nat.le_refl _)]
theorem patT_slots {ar : List Int} {d nv : Nat} {pr : Int} {l0 l2 : List Sl} (h : PatT ar d (pr, l0)) (hl : l2.length = l0.length) (h8 : l2.length ≤ 8) (h2 : ∀ s ∈ l2, SlotOk nv d s) : PatOk nv d (pr, l2) ∧ PatT ar d (pr, l2) := by
  obtain ⟨q, h1, h3, h4, h5⟩ := h
  refine ⟨⟨by simp only at h1 ⊢; omega, h8, h2⟩, q, h1, h3, by simp only at h4 ⊢; rw [hl]; exact h4, fun s hs hs1 => ?_⟩
  obtain ⟨k1, k2⟩ := h2 s hs
  rw [hs1] at k2
  exact ⟨k1, k2⟩
end Mt
end Go.Proofs.Ytkejjiohkhlnnaa

namespace Go.Proofs.Ytkejjiohkhlnnaa
open Go.RowKit
namespace Mt

theorem three_at (w : World) (o1 o2 o3 o4 : Obj) : ((((w.alloc o1).alloc o2).alloc o3).alloc o4).heap[w.heap.size]? = some o1 ∧ ((((w.alloc o1).alloc o2).alloc o3).alloc o4).heap[w.heap.size + 1]? = some o2 ∧ ((((w.alloc o1).alloc o2).alloc o3).alloc o4).heap[w.heap.size + 1 + 1]? = some o3 ∧ ((((w.alloc o1).alloc o2).alloc o3).alloc o4).heap[w.heap.size + 1 + 1 + 1]? = some o4 := by
  obtain ⟨q1, q2, q3⟩ := blk3 w o1 o2 o3
  refine ⟨(Below.heap_alloc _ _ _ (by simp; omega)).trans q1, (Below.heap_alloc _ _ _ (by simp)).trans q2, (Below.heap_alloc _ _ _ (by simp)).trans q3, ?_⟩
  have := World.alloc_heap_new (((w.alloc o1).alloc o2).alloc o3) o4
  rwa [World.size_alloc, World.size_alloc, World.size_alloc] at this
theorem patT_same {ar : List Int} {d nv0 nv : Nat} {pr : Int} {l0 l2 : List Sl} (h : PatT ar d (pr, l0)) (hl : l2.length = l0.length) (h2 : DoneL d nv0 nv l2) : PatT ar d (pr, l2) := by
  obtain ⟨q, h1, h3, h4, h5⟩ := h
  refine ⟨q, h1, h3, by simp only at h4 ⊢; rw [hl]; exact h4, fun s hs hs1 => ?_⟩
  obtain ⟨k1, k2⟩ := h2.ok s hs
  rw [hs1] at k2
  exact ⟨k1, k2⟩
set_option linter.unusedSimpArgs false in
set_option maxHeartbeats 16000000 in
set_option maxRecDepth 100000 in
theorem trule_any (R : RuleV) (aa : Option Addr) (ac : Nat) (ar : List Int) (d : Nat) (w : World) (hr : RuleIn w R) (ha : Ints w aa ar) (h1 : 1 ≤ ar.length) (h2 : ar.length ≤ 1000) (h3 : ∀ x ∈ ar, 0 ≤ x ∧ x ≤ 8) (hd : 1 ≤ d) (hd2 : d ≤ 1000000) :
    Calls Try.prog 41 #[.agg R.cells, .slice aa ar.length ac, .int .i64 d] w (TRuleEnd ar d R w) := by
  have HP := Lib.hid hr.pos
  have HT := Lib.hid hr.tests
  have HN := Lib.hid hr.neg
  have HA := Lib.hid ha
  have H3 := Lib.hid h3
  have cT := fun (pr : Int) (pa : Option Addr) (pc : Nat) (pl : List Sl) (W : World) (hW : Below w.heap.size w W) (hp : Slots W pa pl) => Lib.hid (tpat_any pr pa aa pc ac pl ar d W hp (ha.below hW) h1 h2 h3 hd hd2)
  have cM := fun n W => Lib.hid (show Calls Try.prog 33 #[.int .i64 n, .int .i64 4] W fun e w' => ∃ r : Nat, e = .returned (.int .i64 r) ∧ r < 4 ∧ W = w' from mod_any n 4 W (by omega) (by omega))
  have cM6 := fun n W => Lib.hid (show Calls Try.prog 33 #[.int .i64 n, .int .i64 6] W fun e w' => ∃ r : Nat, e = .returned (.int .i64 r) ∧ r < 6 ∧ W = w' from mod_any n 6 W (by omega) (by omega))
  have cB := fun b n (v : Nat) W (hv : v ≤ 1000000) => Lib.hid (bound_tame b n v d W hv hd hd2)
  obtain ⟨N, hN⟩ : ∃ N, N = ar.length := ⟨_, rfl⟩
  have HAN := Lib.hid hN
  rw [← hN] at cT ⊢
  clear hr ha h3 hN h1 h2
  obtain ⟨hp, rha, rhn, rhc, pa, pc, pos, ta, tc, tests, na, nc, neg, va, nv0, vc, cl⟩ := R
  unfold RuleV.cells
  simp only at HP HT HN ⊢
  obtain ⟨P, hPl⟩ : ∃ n, n = pos.length := ⟨_, rfl⟩
  obtain ⟨T, hTl⟩ : ∃ n, n = tests.length := ⟨_, rfl⟩
  obtain ⟨G, hGl⟩ : ∃ n, n = neg.length := ⟨_, rfl⟩
  rw [← hPl, ← hTl, ← hGl]
  have HPl := Lib.hid hPl
  have HTl := Lib.hid hTl
  have HGl := Lib.hid hGl
  clear hPl hTl hGl
  obtain ⟨rb, hrb⟩ : ∃ b, b = w.heap.size := ⟨_, rfl⟩
  obtain ⟨b6, hb6⟩ : ∃ b, b = w.heap.size + 1 := ⟨_, rfl⟩
  obtain ⟨tb, htb⟩ : ∃ b, b = w.heap.size + 1 + 1 := ⟨_, rfl⟩
  obtain ⟨nb, hnb⟩ : ∃ b, b = w.heap.size + 1 + 1 + 1 := ⟨_, rfl⟩
  obtain ⟨rc, hrc⟩ : ∃ c : Array Value, c = #[.int .i64 hp, .slice rha rhn rhc, .slice pa P pc, .slice ta T tc, .slice na G nc, .slice va nv0 vc, .int .i64 cl] := ⟨_, rfl⟩
  obtain ⟨W0, hW0⟩ : ∃ V, V = (((w.alloc (.cells rc 32)).alloc (.cells zeroR 32)).alloc (.cells #[.int .i64 hp, .slice rha rhn rhc, .slice none 0 0, .slice none 0 0, .slice none 0 0, .slice none 0 0, .int .i64 cl] 32)).alloc (.cells #[.int .i64 (-1), .int .i64 (-1), .int .i64 (-1), .int .i64 (-1)] 3) := ⟨_, rfl⟩
  obtain ⟨q1, q2, q3, q4⟩ := three_at w (.cells rc 32) (.cells zeroR 32) (.cells #[.int .i64 hp, .slice rha rhn rhc, .slice none 0 0, .slice none 0 0, .slice none 0 0, .slice none 0 0, .int .i64 cl] 32) (.cells #[.int .i64 (-1), .int .i64 (-1), .int .i64 (-1), .int .i64 (-1)] 3)
  rw [← hW0] at q1 q2 q3 q4
  rw [← hrb] at q1
  rw [← hb6] at q2
  rw [← htb] at q3
  rw [← hnb] at q4
  have hsz : W0.heap.size = w.heap.size + 4 := by rw [hW0]; simp
  have hb0 : Below w.heap.size w W0 := by rw [hW0]; exact ((((Below.refl _ _).alloc (Nat.le_refl _) _).alloc (by simp) _).alloc (by simp; omega) _).alloc (by simp; omega) _
  have RS : RSt w W0.heap.size [(rb, rc), (b6, zeroR)] tb nb hp cl (.slice rha rhn rhc) [-1, -1, -1, -1] (.slice none 0 0) (.slice none 0 0) (.slice none 0 0) (.slice none 0 0) [] [] [] 0 W0 :=
    ⟨hb0, fun x hx => by
      rcases List.mem_cons.1 hx with rfl | hx
      · exact q1
      · rw [List.mem_singleton] at hx; subst hx; exact q2, q3, q4, PatRow.nil _ _ _, World.ownsRow_nil _ _ _ _, PatRow.nil _ _ _, World.ownsRow_nil _ _ _ _, fun g h => (by cases h), fun x hx => by
      rcases List.mem_cons.1 hx with rfl | hx
      · simp only; omega
      · rw [List.mem_singleton] at hx; subst hx; simp only; omega, ⟨by omega, by omega⟩, Nat.le_refl _⟩
  have HRS := Lib.hid RS
  have HNO : Hid (NumOk [-1, -1, -1, -1] 0) := Lib.hid ⟨rfl, fun x hx => by simp at hx; exact .inl hx, rfl⟩
  have HW0 : Hid (W0 = (((w.alloc (.cells #[.int .i64 hp, .slice rha rhn rhc, .slice pa P pc, .slice ta T tc, .slice na G nc, .slice va nv0 vc, .int .i64 cl] 32)).alloc (.cells #[.int .i64 0, .slice none 0 0, .slice none 0 0, .slice none 0 0, .slice none 0 0, .slice none 0 0, .int .i64 0] 32)).alloc (.cells #[.int .i64 hp, .slice rha rhn rhc, .slice none 0 0, .slice none 0 0, .slice none 0 0, .slice none 0 0, .int .i64 cl] 32)).alloc (.cells #[.int .i64 (-1), .int .i64 (-1), .int .i64 (-1), .int .i64 (-1)] 3)) := Lib.hid (by rw [hW0, hrc]; rfl)
  have Hbs : Hid (rb = w.heap.size ∧ b6 = w.heap.size + 1 ∧ tb = w.heap.size + 1 + 1 ∧ nb = w.heap.size + 1 + 1 + 1) := Lib.hid ⟨hrb, hb6, htb, hnb⟩
  have Hrc := Lib.hid hrc
  clear RS q1 q2 q3 q4 hsz hb0 hW0 hrb hb6 htb hnb hrc
  go_enter Try.func41, Try.ntmps41
  go_upto_region 3 with fail
  rw [← HW0.out, ← Hbs.out.2.2.2, ← Hbs.out.2.2.1, ← Hbs.out.2.1, ← Hbs.out.1]
  go_upto_block 0 with fail
  go_cut [] (fun wr => ∃ (H : Nat) (nums : List Int) (pv vv : Value) (ps : List Pat) (nv : Nat), Hid (RSt w H [(rb, rc), (b6, zeroR)] tb nb hp cl (.slice rha rhn rhc) nums pv (.slice none 0 0) (.slice none 0 0) vv ps [] [] nv wr) ∧ Hid (ps.length ≤ 4) ∧ Hid (NumOk nums nv) ∧ Hid (DoneP ar d nv ps))
  case first =>
    go_wp2_with fail
    go_loopw [9] (fun t wr => ∃ (i H : Nat) (nums : List Int) (pv vv : Value) (ps : List Pat) (nv : Nat), t = .int .i64 i ∧ i ≤ 4 ∧ Hid (RSt w H [(rb, rc), (b6, zeroR)] tb nb hp cl (.slice rha rhn rhc) nums pv (.slice none 0 0) (.slice none 0 0) vv ps [] [] nv wr) ∧ Hid (ps.length = i) ∧ Hid (NumOk nums nv) ∧ Hid (DoneP ar d nv ps)) (fun t _ => 5 - (intOf t).toNat)
    case atStart => exact ⟨0, _, _, _, _, [], 0, rfl, by omega, HRS, Lib.hid rfl, HNO, Lib.hid (DoneP.nil ar d)⟩
    case round =>
      clear HRS HNO
      obtain ⟨i, H, nums, pv, vv, ps, nv, rfl, hi4, HR, HL, HO, HD⟩ := hrel
      have r1 := HR.out.rcell (List.mem_cons_self ..) (k := 2) (x := .slice pa P pc) (by rw [Hrc.out]; rfl)
      by_cases hlt : i < P ∧ i < 4
      · obtain ⟨hiP, hi4'⟩ := hlt
        have hi4i : (i : Int) < 4 := by omega
        have hold := HR.out.old
        obtain ⟨bp, op, p0, hpa, hp0, c0, sa, sc, c1, hSl⟩ := pats_at HP.out (k := i) (by rw [← HPl.out]; exact hiP)
        rw [hpa] at r1
        obtain ⟨pr0, sl0⟩ := p0
        have c0 := below_cell hold (Nat.le_refl _) c0
        have c1 := below_cell hold (Nat.le_refl _) c1
        have cT1 := cT pr0 sa sc sl0 wr hold (hSl.below hold (Nat.le_refl _))
        simp only at c0 c1
        have Hpa := Lib.hid hpa
        clear hold hSl hp0 hpa
        go_upto_region 7 with (first | (go_at_call 67; (with_reducible refine cT1.out.mono ?_); rintro e w1 ⟨p1, v1, rfl, hPT, hown, hb1⟩; obtain ⟨xa, xc, rfl⟩ := owns_shape' hown))
        obtain ⟨pr, l0⟩ := p1
        simp only at hown ⊢
        obtain ⟨n, hn⟩ : ∃ n, n = l0.length := ⟨_, rfl⟩
        rw [← hn] at hown ⊢
        have hn8 : n ≤ 8 := by
          obtain ⟨q, hq1, hq2, hq3, -⟩ := id hPT
          have := H3.out (ar.getD q 0) (by rw [List.getD_eq_getElem?_getD, List.getElem?_eq_getElem hq2]; exact List.getElem_mem _)
          simp only at hq3
          omega
        obtain ⟨W4, hW4⟩ : ∃ V, V = w1.alloc (.cells #[.int .i64 pr, .slice xa n xc] 27) := ⟨_, rfl⟩
        obtain ⟨pb, hpb⟩ : ∃ b, b = w1.heap.size := ⟨_, rfl⟩
        have hb4 : Below w1.heap.size w1 W4 := by rw [hW4]; exact (Below.refl _ _).alloc (Nat.le_refl _) _
        have PS : PSt w wr.heap.size [(rb, rc), (b6, zeroR)] tb nb hp cl (.slice rha rhn rhc) nums pv (.slice none 0 0) (.slice none 0 0) vv ps [] [] nv pb pr (.slice xa n xc) l0 W4 :=
          ⟨(HR.out.raise.below hb1).below hb4, by rw [hW4, hpb]; exact (MapKept.heap_alloc w1 _).1, by rw [← hn]; exact owns_base (owns_below hown hb4 (Nat.le_refl _)) HR.out.old.size, fun g hg => (hown.lt g hg).1⟩
        obtain ⟨H1, hH1⟩ : ∃ x, x = wr.heap.size := ⟨_, rfl⟩
        rw [← hH1] at PS
        have HPS := Lib.hid PS
        have HPT := Lib.hid hPT
        have HN0 := Lib.hid hn
        rw [← hW4, ← hpb]
        clear hW4 hpb hb4 PS hPT hn hown hb1 HR r1 c0 c1 cT1 hH1
        have x1 : W4.cell? ⟨pb, 1, none⟩ = some (.slice xa n xc) := by have := HPS.out.box; simp [World.cell?, this]
        go_upto_block 2 with fail
        clear x1
        go_cut [] (fun wc => ∃ (nums2 : List Int) (vv2 : Value) (nv2 : Nat) (l2 : List Sl), Hid (PSt w H1 [(rb, rc), (b6, zeroR)] tb nb hp cl (.slice rha rhn rhc) nums2 pv (.slice none 0 0) (.slice none 0 0) vv2 ps [] [] nv2 pb pr (.slice xa n xc) l2 wc) ∧ Hid (l2.length = n) ∧ Hid (NumOk nums2 nv2) ∧ Hid (DoneL d nv nv2 l2))
        case first =>
          have x1 : W4.cell? ⟨pb, 1, none⟩ = some (.slice xa n xc) := by have := HPS.out.box; simp [World.cell?, this]
          go_wp2_with fail
          go_loopw [46] (fun t wx => ∃ (j : Nat) (nums2 : List Int) (vv2 : Value) (nv2 : Nat) (l2 : List Sl), t = .int .i64 j ∧ j ≤ n ∧ Hid (PSt w H1 [(rb, rc), (b6, zeroR)] tb nb hp cl (.slice rha rhn rhc) nums2 pv (.slice none 0 0) (.slice none 0 0) vv2 ps [] [] nv2 pb pr (.slice xa n xc) l2 wx) ∧ Hid (l2.length = n) ∧ Hid (NumOk nums2 nv2) ∧ Hid (DoneL d nv nv2 (l2.take j)) ∧ Hid (∀ k, j ≤ k → l2[k]? = l0[k]?)) (fun t _ => n - (intOf t).toNat)
          case atStart => exact ⟨0, nums, vv, nv, l0, rfl, Nat.zero_le _, HPS, Lib.hid HN0.out.symm, HO, Lib.hid (DoneL.nil d nv), Lib.hid (fun k _ => rfl)⟩
          case round =>
            clear HPS x1
            obtain ⟨j, nums2, vv2, nv2, l2, rfl, hjn, HQ, HL2, HO2, HDL, HK⟩ := hrel
            by_cases hj : j < n
            · obtain ⟨g, rfl⟩ : ∃ g, xa = some ⟨g, 0, none⟩ := by
                have h := HQ.out.own
                rw [HL2.out] at h
                rcases owns_form h with ⟨-, h0, -⟩ | ⟨g, cap, h5, -⟩
                · omega
                · injection h5 with h5 _ _
                  exact ⟨g, h5⟩
              have hjl : j < l2.length := by rw [HL2.out]; exact hj
              obtain ⟨⟨sv, sn⟩, hs⟩ : ∃ s, l2[j]? = some s := ⟨_, List.getElem?_eq_getElem hjl⟩
              have hown := HQ.out.own
              rw [HL2.out] at hown
              obtain ⟨-, ⟨cs, hcs⟩, s0, s1, s2⟩ := own_slot (x := 0) hown hs HL2.out
              simp only at s0 s1
              have x1 : wr.cell? ⟨pb, 1, none⟩ = some (.slice (some ⟨g, 0, none⟩) n xc) := by have := HQ.out.box; simp [World.cell?, this]
              have Hs := Lib.hid hs
              have hst : SlT d (sv, sn) := by
                obtain ⟨q, -, -, -, hq⟩ := HPT.out
                have := HK.out j (Nat.le_refl _)
                rw [hs] at this
                exact hq _ (List.mem_of_getElem? this.symm)
              have Hcs : Hid (∃ cs, wr.heap[g]? = some (.cells cs 58 (0, 0))) := Lib.hid ⟨cs, hcs⟩
              have htk : l2.take (j + 1) = l2.take j ++ [(sv, sn)] := take_snoc' hs
              have Htk := Lib.hid htk
              clear hs hown hcs htk hjl
              cases sv with
              | false =>
                have HD2 : Hid (DoneL d nv nv2 (l2.take (j + 1))) := Lib.hid (by rw [Htk.out]; exact HDL.out.const rfl (hst rfl))
                go_wp2_with fail
                go_roundw
                case rel => exact ⟨j + 1, nums2, vv2, nv2, l2, by go_num, by omega, HQ, HL2, HO2, HD2, Lib.hid (fun k hk => HK.out k (by omega))⟩
                case measure => simp [intOf]; omega
              | true =>
                go_upto_if 66 with (first | (go_at_call 33; (with_reducible refine (cM _ _).out.mono ?_); rintro e wy ⟨k, rfl, hk4, rfl⟩; have hkl : k < nums2.length := (by rw [HO2.out.len]; exact hk4); obtain ⟨m0, m1⟩ := HQ.out.st.ncell hkl; obtain ⟨y, hy⟩ : ∃ y, y = nums2[k] := ⟨_, rfl⟩; rw [← hy] at m0; have Hy : Hid (nums2[k]? = some y) := Lib.hid (by rw [hy]; exact List.getElem?_eq_getElem hkl); clear hy))
                clear x1 s0 s1 s2 c0 c1
                go_cut [] (fun wc => ∃ (nums3 : List Int) (vv3 : Value) (nv3 : Nat) (x : Int), Hid (PSt w H1 [(rb, rc), (b6, zeroR)] tb nb hp cl (.slice rha rhn rhc) nums3 pv (.slice none 0 0) (.slice none 0 0) vv3 ps [] [] nv3 pb pr (.slice (some ⟨g, 0, none⟩) n xc) l2 wc) ∧ Hid (NumOk nums3 nv3) ∧ Hid (nums3[k]? = some x) ∧ Hid (DoneL d nv nv3 (l2.take j ++ [(true, x)])))
                case first =>
                  by_cases hy0 : y < 0
                  · obtain ⟨va2, vc2, rfl⟩ := owns_shape' HQ.out.st.vars
                    have y5 := HQ.out.st.vcell.2.2.2
                    have hnv := HO2.out.le
                    go_upto_region 14 with fail
                    clear m0 m1 y5
                    obtain ⟨W5, hW5⟩ : ∃ V, V = wr.setCell ⟨nb, k, none⟩ (.int .i64 (nv2 : Int)) := ⟨_, rfl⟩
                    have HQ5 : Hid (PSt w H1 [(rb, rc), (b6, zeroR)] tb nb hp cl (.slice rha rhn rhc) (nums2.set k (nv2 : Int)) pv (.slice none 0 0) (.slice none 0 0) (.slice va2 nv2 vc2) ps [] [] nv2 pb pr (.slice (some ⟨g, 0, none⟩) n xc) l2 W5) := Lib.hid (by rw [hW5]; exact HQ.out.num k _)
                    have HO5 : Hid (NumOk (nums2.set k (nv2 : Int)) (nv2 + 1)) := Lib.hid (HO2.out.new hk4 (by rw [List.getD_eq_getElem?_getD, Hy.out]; exact hy0))
                    have HX5 : Hid ((nums2.set k (nv2 : Int))[k]? = some (nv2 : Int)) := Lib.hid (by simp [hkl])
                    rw [← hW5]
                    clear hW5
                    have y5 := HQ5.out.st.vcell.2.2.2
                    have hown := HQ5.out.st.vars
                    have hlow := HQ5.out.st.old.size
                    go_wp2_with (first | (at_builtin; refine wpList_append_any elemStr _ rfl _ _ rfl w.heap.size _ nv2 (List.replicate nv2 vV) rfl (hown.alloc _) (some ⟨W5.heap.size, 0, none⟩) 1 1 [vV] rfl (source_new _ _ _) rfl (by simp [Value.oneCell', vV]) (by unfold maxLen; omega) (by omega) (by simp; omega) ?_; intro v' w2 hown2 hgrow2 hblk2; obtain ⟨va3, vc3, rfl⟩ := owns_shape' hown2; obtain ⟨p1, p2, p3⟩ := HQ5.out.var ((Below.refl _ _).alloc (Nat.le_refl _) _) hgrow2 hown2 hblk2; have P1 := Lib.hid p1; clear p1 hown2 hgrow2 hblk2 hown))
                    go_meet
                    exact ⟨_, _, nv2 + 1, (nv2 : Int), P1, HO5, HX5, Lib.hid HDL.out.new⟩
                  · go_wp2_with fail
                    go_meet
                    exact ⟨nums2, vv2, nv2, y, HQ, HO2, Hy, Lib.hid (HDL.out.old (by omega) (by
                      rcases HO2.out.rng y (List.mem_of_getElem? Hy.out) with h | h
                      · omega
                      · exact h.2))⟩
                case rest =>
                  obtain ⟨nums3, vv3, nv3, x, HQ3, HO3, HX3, HDL3⟩ := hcut
                  have hk3 : k < nums3.length := by rw [HO3.out.len]; exact hk4
                  have n0 : wc.cell? ⟨nb, k, none⟩ = some (.int .i64 x) := by
                    rw [(HQ3.out.st.ncell hk3).1]
                    have := HX3.out
                    rw [List.getElem?_eq_getElem hk3] at this
                    injection this with this
                    rw [this]
                  have x1 : wc.cell? ⟨pb, 1, none⟩ = some (.slice (some ⟨g, 0, none⟩) n xc) := by have := HQ3.out.box; simp [World.cell?, this]
                  have ho := HQ3.out.own
                  rw [HL2.out] at ho
                  obtain ⟨-, ⟨cs, hcs⟩, s0, s1, s2⟩ := own_slot (x := x) ho Hs.out HL2.out
                  have hgp : g ≠ pb := typ_ne hcs HQ3.out.box (by decide)
                  have hgn : g ≠ nb := typ_ne hcs HQ3.out.st.n (by decide)
                  have P3 := Lib.hid ((HQ3.out.set HL2.out Hs.out x).below (Below.refl _ _).drew)
                  have HDX : Hid (DoneL d nv nv3 ((l2.set j (true, x)).take (j + 1))) := Lib.hid (by rw [take_set_at (by rw [HL2.out]; exact hj)]; exact HDL3.out)
                  have HKX : Hid (∀ k, j + 1 ≤ k → (l2.set j (true, x))[k]? = l0[k]?) := Lib.hid (fun k hk => by rw [List.getElem?_set_ne (by omega)]; exact HK.out k (by omega))
                  clear hcs ho hk3
                  have zk : (0 : Int) ≤ (k : Int) := by omega
                  have zk4 : (k : Int) < 4 := by omega
                  have zj : (0 : Int) ≤ (j : Int) := by omega
                  have zjn : (j : Int) < (n : Int) := by omega
                  go_wp2
                  go_region_held3 (fun w' => w'.cell? ⟨pb, 1, none⟩ = some (.slice (some ⟨g, 0, none⟩) n xc) ∧ w'.cell? ⟨nb, k, none⟩ = some (.int .i64 x)) (first | exact ⟨x1, n0⟩ | exact ⟨(World.cell?_setCell_far _ _ _ _ hgp).trans x1, (World.cell?_setCell_far _ _ _ _ hgn).trans n0⟩ | go_keep) (fail)
                  go_wp2
                  go_roundw
                  case rel => exact ⟨j + 1, nums3, vv3, nv3, l2.set j (true, x), by go_num, by omega, P3, Lib.hid (by rw [List.length_set]; exact HL2.out), HO3, HDX, HKX⟩
                  case measure => simp [intOf]; omega
            · have hje : j = n := by omega
              subst hje
              have HDX : Hid (DoneL d nv nv2 l2) := Lib.hid (by have := HDL.out; rwa [List.take_of_length_le (by rw [HL2.out]; exact Nat.le_refl _)] at this)
              go_wp2_with fail
              go_meet
              exact ⟨nums2, vv2, nv2, l2, HQ, HL2, HO2, HDX⟩
        case rest =>
          clear HPS
          obtain ⟨nums2, vv2, nv2, l2, HQ, HL2, HO2, HDX⟩ := hcut
          obtain ⟨pcells, hpo, -⟩ := id HQ.out.st.pos
          obtain ⟨pa1, pc1, rfl⟩ := owns_shape' hpo
          have x0 : wc.cell? ⟨pb, 0, none⟩ = some (.int .i64 pr) := by have := HQ.out.box; simp [World.cell?, this]
          have x1 : wc.cell? ⟨pb, 1, none⟩ = some (.slice xa n xc) := by have := HQ.out.box; simp [World.cell?, this]
          have y2 := HQ.out.st.vcell.1
          have hpl : ps.length ≤ 4 := by rw [HL.out]; exact hi4
          have hlow := HQ.out.st.old.size
          have HDP : Hid (DoneP ar d nv2 (ps ++ [(pr, l2)])) := Lib.hid (HD.out.push (p := (pr, l2)) HDX.out (by show l2.length ≤ 8; rw [HL2.out]; exact hn8) (patT_same HPT.out (by rw [HL2.out]; exact HN0.out) HDX.out))
          have HLX : Hid ((ps ++ [(pr, l2)]).length = i + 1) := Lib.hid (by rw [List.length_append, HL.out]; rfl)
          go_wp2_with (first | (at_builtin; refine wpList_append_any elemPat _ rfl _ _ rfl w.heap.size _ ps.length pcells rfl (hpo.alloc _) (some ⟨wc.heap.size, 0, none⟩) 1 1 [.int .i64 pr, .slice xa n xc] rfl (source_new _ _ _) rfl (by simp [Value.oneCell']) (by unfold maxLen; omega) (by omega) (by simp; omega) ?_; intro v' w2 hown2 hgrow2 hblk2; obtain ⟨va3, vc3, rfl⟩ := owns_shape' hown2; obtain ⟨p1, p2, p3⟩ := HQ.out.st.pushPos (p := (pr, l2)) (u := .slice xa n xc) ((Below.refl _ _).alloc (Nat.le_refl _) _) hgrow2 (fun cells hcc => by rw [owns_same hcc hpo]; exact hown2) hblk2 HQ.out.own; have P1 := Lib.hid p1; clear p1 hown2 hgrow2 hblk2))
          go_roundw
          case rel => exact ⟨i + 1, _, nums2, _, vv2, ps ++ [(pr, l2)], nv2, by go_num, by omega, P1, HLX, HO2, HDP⟩
          case measure => simp [intOf]; omega
      · have HLX : Hid (ps.length ≤ 4) := Lib.hid (by rw [HL.out]; exact hi4)
        by_cases hiP : i < P
        · have hi4i : ¬ ((i : Int) < 4) := by omega
          go_wp2_with fail
          go_meet
          exact ⟨H, nums, pv, vv, ps, nv, HR, HLX, HO, HD⟩
        · go_wp2_with fail
          go_meet
          exact ⟨H, nums, pv, vv, ps, nv, HR, HLX, HO, HD⟩
  case rest =>
    clear HRS HNO
    obtain ⟨H, nums, pv, vv, ps, nv, HR, HPL4, HO, HD⟩ := hcut
    obtain ⟨va2, vc2, rfl⟩ := owns_shape' HR.out.vars
    have y5 := HR.out.vcell.2.2.2
    have hnv := HO.out.le
    go_upto_block 4 with fail
    clear y5
    go_cut [] (fun wt => ∃ (tv : Value) (ts : List Tst), Hid (RSt w H [(rb, rc), (b6, zeroR)] tb nb hp cl (.slice rha rhn rhc) nums pv tv (.slice none 0 0) (.slice va2 nv vc2) ps ts [] nv wt) ∧ Hid (ts.length ≤ 3) ∧ Hid (∀ t ∈ ts, TstOk nv d t))
    case first =>
      go_wp2_with fail
      go_loopw [14] (fun t wr => ∃ (i : Nat) (tv : Value) (ts : List Tst), t = .int .i64 i ∧ i ≤ 3 ∧ Hid (RSt w H [(rb, rc), (b6, zeroR)] tb nb hp cl (.slice rha rhn rhc) nums pv tv (.slice none 0 0) (.slice va2 nv vc2) ps ts [] nv wr) ∧ Hid (ts.length = i) ∧ Hid (∀ t ∈ ts, TstOk nv d t)) (fun t _ => 4 - (intOf t).toNat)
      case atStart => exact ⟨0, _, [], rfl, by omega, HR, Lib.hid rfl, Lib.hid (fun t ht => by cases ht)⟩
      case round =>
        clear HR
        obtain ⟨i, tv, ts, rfl, hi3, HR, HTL, HTO⟩ := hrel
        have r1 := HR.out.rcell (List.mem_cons_self ..) (k := 3) (x := .slice ta T tc) (by rw [Hrc.out]; rfl)
        by_cases hlt : i < T ∧ i < 3
        · obtain ⟨hiT, hi3'⟩ := hlt
          have hi3i : (i : Int) < 3 := by omega
          have hold := HR.out.old
          obtain ⟨bt, ot, t0, hta, -, c0, c1, c2, c3, c4⟩ := tsts_at HT.out (k := i) (by rw [← HTl.out]; exact hiT)
          obtain ⟨op0, ⟨sb1, sn1⟩, ⟨sb2, sn2⟩⟩ := t0
          rw [hta] at r1
          have hbt : bt < w.heap.size := World.block_lt_of_cell? _ _ c0
          have c0 := below_cell hold (Nat.le_refl _) c0
          have c1 := below_cell hold (Nat.le_refl _) c1
          have c2 := below_cell hold (Nat.le_refl _) c2
          have c3 := below_cell hold (Nat.le_refl _) c3
          have c4 := below_cell hold (Nat.le_refl _) c4
          simp only at c0 c1 c2 c3 c4
          obtain ⟨tva, tvc, rfl⟩ := owns_shape' HR.out.tst
          have t3 := HR.out.vcell.2.1
          have hts : ts.length ≤ 3 := by rw [HTL.out]; exact hi3
          have cB1 := fun W => cB sb1 sn1 nv W (by omega)
          have cB2 := fun W => cB sb2 sn2 nv W (by omega)
          have Hvb : Hid (∀ g, (Value.slice tva ts.length tvc).ownBlock = some g → rb ≠ g ∧ bt ≠ g) := Lib.hid (fun g hg => by
            obtain ⟨cur, hc⟩ := own_typ HR.out.tst hg
            exact ⟨typ_ne (HR.out.r _ (List.mem_cons_self ..)) hc (by decide), by have := (HR.out.tst.lt g hg).1; omega⟩)
          have hn1 : tb ≠ rb := Ne.symm (HR.out.ne _ (List.mem_cons_self ..))
          have hn2 : tb ≠ bt := by have := HR.out.lo.1; omega
          have zi : (0 : Int) ≤ (i : Int) := by omega
          have ziT : (i : Int) < (T : Int) := by omega
          clear hold hta
          go_upto_region 22 with fail
          obtain ⟨V0, hV0⟩ : ∃ V, V = wr.drew := ⟨_, rfl⟩
          have hbd : Below wr.heap.size wr V0 := by rw [hV0]; exact (Below.refl _ _).drew
          have HR0 := Lib.hid (HR.out.below hbd)
          have r1 := on_cell hbd r1
          have c0 := on_cell hbd c0
          have c1 := on_cell hbd c1
          have c2 := on_cell hbd c2
          have c3 := on_cell hbd c3
          have c4 := on_cell hbd c4
          have t3 := on_cell hbd t3
          have hown := HR0.out.tst
          have hlow := HR0.out.old.size
          have hb0 := Below.refl V0.heap.size V0
          clear hbd HR
          refine wp_region_noPanic ?_
          refine wp_region_held_drew (S := (fun w' => w'.cell? ⟨rb, 3, none⟩ = some (.slice (some ⟨bt, ot, none⟩) T tc) ∧ w'.cell? ⟨bt, ot + i * 5, none⟩ = some (.int .i64 op0) ∧ w'.cell? ⟨bt, ot + i * 5 + 1, none⟩ = some (.bool sb1) ∧ w'.cell? ⟨bt, ot + i * 5 + 2, none⟩ = some (.int .i64 sn1) ∧ w'.cell? ⟨bt, ot + i * 5 + 3, none⟩ = some (.bool sb2) ∧ w'.cell? ⟨bt, ot + i * 5 + 4, none⟩ = some (.int .i64 sn2))) (by kernel_rfl) ?_ (fun hHeld => ?_)
          · rw [← hV0]; exact ⟨r1, c0, c1, c2, c3, c4⟩
          rw [← hV0] at hHeld ⊢
          clear hV0
          refine wpAnyH_take (i := 0) (oi := ⟨some 108, _, _, _, _, _⟩) (v := ?_) rfl (by kernel_rfl) (by kernel_rfl) (by kernel_rfl) (fun _ _ _ h => h) (Or.inl ⟨by rfl, ?_⟩) (by assumption) ?_
          rotate_left 1
          · intro w hSw
            (try dsimp only at hSw)
            go_simp
            all_goals with_reducible rfl
          (try simp only [Act.put, List.setIfInBounds_toArray, List.set_cons_zero, List.set_cons_succ])
          refine wpAnyH_take (i := 2) (oi := ⟨some 110, _, _, _, _, _⟩) (v := ?_) rfl (by kernel_rfl) (by kernel_rfl) (by kernel_rfl) (fun _ _ _ h => h) (Or.inl ⟨by rfl, ?_⟩) (by assumption) ?_
          rotate_left 1
          · intro w hSw
            (try dsimp only at hSw)
            go_simp
            all_goals with_reducible rfl
          (try simp only [Act.put, List.setIfInBounds_toArray, List.set_cons_zero, List.set_cons_succ])
          refine wpAnyH_take (i := 3) (oi := ⟨some 111, _, _, _, _, _⟩) (v := ?_) rfl (by kernel_rfl) (by kernel_rfl) (by kernel_rfl) (fun _ _ _ h => h) (Or.inl ⟨by rfl, ?_⟩) (by assumption) ?_
          rotate_left 1
          · intro w hSw
            (try dsimp only at hSw)
            go_simp
            all_goals with_reducible rfl
          (try simp only [Act.put, List.setIfInBounds_toArray, List.set_cons_zero, List.set_cons_succ])
          refine wpAnyH_take (i := 4) (oi := ⟨some 112, _, _, _, _, _⟩) (v := ?_) rfl (by kernel_rfl) (by kernel_rfl) (by kernel_rfl) (fun _ _ _ h => h) (Or.inl ⟨by rfl, ?_⟩) (by assumption) ?_
          rotate_left 1
          · intro w hSw
            (try dsimp only at hSw)
            go_simp
            all_goals with_reducible rfl
          (try simp only [Act.put, List.setIfInBounds_toArray, List.set_cons_zero, List.set_cons_succ])
          refine wpAnyH_take (i := 5) (oi := ⟨some 113, _, _, _, _, _⟩) (v := ?_) rfl (by kernel_rfl) (by kernel_rfl) (by kernel_rfl) (fun _ _ _ h => h) (Or.inl ⟨by rfl, ?_⟩) (by assumption) ?_
          rotate_left 1
          · intro w hSw
            (try dsimp only at hSw)
            go_simp
            all_goals with_reducible rfl
          (try simp only [Act.put, List.setIfInBounds_toArray, List.set_cons_zero, List.set_cons_succ])
          refine wpAnyH_take (i := 6) (oi := ⟨some 114, _, _, _, _, _⟩) (v := ?_) rfl (by kernel_rfl) (by kernel_rfl) (by kernel_rfl) (fun _ _ _ h => h) (Or.inl ⟨by rfl, ?_⟩) (by assumption) ?_
          rotate_left 1
          · intro w hSw
            (try dsimp only at hSw)
            go_simp
            all_goals with_reducible rfl
          (try simp only [Act.put, List.setIfInBounds_toArray, List.set_cons_zero, List.set_cons_succ])
          refine wpAnyH_take (i := 7) (oi := ⟨some 115, _, _, _, _, _⟩) (v := ?_) rfl (by kernel_rfl) (by kernel_rfl) (by kernel_rfl) (fun _ _ _ h => h) (Or.inl ⟨by rfl, ?_⟩) (by assumption) ?_
          rotate_left 1
          · intro w hSw
            (try dsimp only at hSw)
            go_simp
            all_goals with_reducible rfl
          (try simp only [Act.put, List.setIfInBounds_toArray, List.set_cons_zero, List.set_cons_succ])
          refine wpAnyH_take (i := 10) (oi := ⟨some 118, _, _, _, _, _⟩) (v := ?_) rfl (by kernel_rfl) (by kernel_rfl) (by kernel_rfl) (fun _ _ _ h => h) (Or.inl ⟨by rfl, ?_⟩) (by assumption) ?_
          rotate_left 1
          · intro w hSw
            (try dsimp only at hSw)
            go_simp
            all_goals with_reducible rfl
          (try simp only [Act.put, List.setIfInBounds_toArray, List.set_cons_zero, List.set_cons_succ])
          refine wpAnyH_take (i := 11) (oi := ⟨some 119, _, _, _, _, _⟩) (v := ?_) rfl (by kernel_rfl) (by kernel_rfl) (by kernel_rfl) (fun _ _ _ h => h) (Or.inl ⟨by rfl, ?_⟩) (by assumption) ?_
          rotate_left 1
          · intro w hSw
            (try dsimp only at hSw)
            go_simp
            all_goals with_reducible rfl
          (try simp only [Act.put, List.setIfInBounds_toArray, List.set_cons_zero, List.set_cons_succ])
          refine wpAnyH_take (i := 12) (oi := ⟨some 120, _, _, _, _, _⟩) (v := ?_) rfl (by kernel_rfl) (by kernel_rfl) (by kernel_rfl) (fun _ _ _ h => h) (Or.inl ⟨by rfl, ?_⟩) (by assumption) ?_
          rotate_left 1
          · intro w hSw
            (try dsimp only at hSw)
            go_simp
            all_goals with_reducible rfl
          (try simp only [Act.put, List.setIfInBounds_toArray, List.set_cons_zero, List.set_cons_succ])
          refine wpAnyH_take (i := 13) (oi := ⟨some 121, _, _, _, _, _⟩) (v := ?_) rfl (by kernel_rfl) (by kernel_rfl) (by kernel_rfl) (fun _ _ _ h => h) (Or.inl ⟨by rfl, ?_⟩) (by assumption) ?_
          rotate_left 1
          · intro w hSw
            (try dsimp only at hSw)
            go_simp
            all_goals with_reducible rfl
          (try simp only [Act.put, List.setIfInBounds_toArray, List.set_cons_zero, List.set_cons_succ])
          refine wpAnyH_take (i := 14) (oi := ⟨some 122, _, _, _, _, _⟩) (v := ?_) rfl (by kernel_rfl) (by kernel_rfl) (by kernel_rfl) (fun _ _ _ h => h) (Or.inl ⟨by rfl, ?_⟩) (by assumption) ?_
          rotate_left 1
          · intro w hSw
            (try dsimp only at hSw)
            go_simp
            all_goals with_reducible rfl
          (try simp only [Act.put, List.setIfInBounds_toArray, List.set_cons_zero, List.set_cons_succ])
          refine wpAnyH_take (i := 15) (oi := ⟨some 123, _, _, _, _, _⟩) (v := ?_) rfl (by kernel_rfl) (by kernel_rfl) (by kernel_rfl) (fun _ _ _ h => h) (Or.inl ⟨by rfl, ?_⟩) (by assumption) ?_
          rotate_left 1
          · intro w hSw
            (try dsimp only at hSw)
            go_simp
            all_goals with_reducible rfl
          (try simp only [Act.put, List.setIfInBounds_toArray, List.set_cons_zero, List.set_cons_succ])
          refine wpAnyH_take (i := 16) (oi := ⟨some 124, _, _, _, _, _⟩) (v := ?_) rfl (by kernel_rfl) (by kernel_rfl) (by kernel_rfl) (fun _ _ _ h => h) (Or.inl ⟨by rfl, ?_⟩) (by assumption) ?_
          rotate_left 1
          · intro w hSw
            (try dsimp only at hSw)
            go_simp
            all_goals with_reducible rfl
          (try simp only [Act.put, List.setIfInBounds_toArray, List.set_cons_zero, List.set_cons_succ])
          refine wpAnyH_take (i := 17) (oi := ⟨some 125, _, _, _, _, _⟩) (v := ?_) rfl (by kernel_rfl) (by kernel_rfl) (by kernel_rfl) (fun _ _ _ h => h) (Or.inl ⟨by rfl, ?_⟩) (by assumption) ?_
          rotate_left 1
          · intro w hSw
            (try dsimp only at hSw)
            go_simp
            all_goals with_reducible rfl
          (try simp only [Act.put, List.setIfInBounds_toArray, List.set_cons_zero, List.set_cons_succ])
          refine wpAnyH_take (i := 19) (oi := ⟨some 127, _, _, _, _, _⟩) (v := ?_) rfl (by kernel_rfl) (by kernel_rfl) (by kernel_rfl) (fun _ _ _ h => h) (Or.inl ⟨by rfl, ?_⟩) (by assumption) ?_
          rotate_left 1
          · intro w hSw
            (try dsimp only at hSw)
            go_simp
            all_goals with_reducible rfl
          (try simp only [Act.put, List.setIfInBounds_toArray, List.set_cons_zero, List.set_cons_succ])
          refine wpAnyH_take (i := 20) (oi := ⟨some 128, _, _, _, _, _⟩) (v := ?_) rfl (by kernel_rfl) (by kernel_rfl) (by kernel_rfl) (fun _ _ _ h => h) (Or.inl ⟨by rfl, ?_⟩) (by assumption) ?_
          rotate_left 1
          · intro w hSw
            (try dsimp only at hSw)
            go_simp
            all_goals with_reducible rfl
          (try simp only [Act.put, List.setIfInBounds_toArray, List.set_cons_zero, List.set_cons_succ])
          refine wpAnyH_take (i := 21) (oi := ⟨some 129, _, _, _, _, _⟩) (v := ?_) rfl (by kernel_rfl) (by kernel_rfl) (by kernel_rfl) (fun _ _ _ h => h) (Or.inl ⟨by rfl, ?_⟩) (by assumption) ?_
          rotate_left 1
          · intro w hSw
            (try dsimp only at hSw)
            go_simp
            all_goals with_reducible rfl
          (try simp only [Act.put, List.setIfInBounds_toArray, List.set_cons_zero, List.set_cons_succ])
          refine wpAnyH_take (i := 22) (oi := ⟨some 130, _, _, _, _, _⟩) (v := ?_) rfl (by kernel_rfl) (by kernel_rfl) (by kernel_rfl) (fun _ _ _ h => h) (Or.inl ⟨by rfl, ?_⟩) (by assumption) ?_
          rotate_left 1
          · intro w hSw
            (try dsimp only at hSw)
            go_simp
            all_goals with_reducible rfl
          (try simp only [Act.put, List.setIfInBounds_toArray, List.set_cons_zero, List.set_cons_succ])
          refine wpAnyH_take (i := 23) (oi := ⟨some 131, _, _, _, _, _⟩) (v := ?_) rfl (by kernel_rfl) (by kernel_rfl) (by kernel_rfl) (fun _ _ _ h => h) (Or.inl ⟨by rfl, ?_⟩) (by assumption) ?_
          rotate_left 1
          · intro w hSw
            (try dsimp only at hSw)
            go_simp
            all_goals with_reducible rfl
          (try simp only [Act.put, List.setIfInBounds_toArray, List.set_cons_zero, List.set_cons_succ])
          refine wpAnyH_take (i := 24) (oi := ⟨some 132, _, _, _, _, _⟩) (v := ?_) rfl (by kernel_rfl) (by kernel_rfl) (by kernel_rfl) (fun _ _ _ h => h) (Or.inl ⟨by rfl, ?_⟩) (by assumption) ?_
          rotate_left 1
          · intro w hSw
            (try dsimp only at hSw)
            go_simp
            all_goals with_reducible rfl
          (try simp only [Act.put, List.setIfInBounds_toArray, List.set_cons_zero, List.set_cons_succ])
          refine wpAnyH_take (i := 25) (oi := ⟨some 133, _, _, _, _, _⟩) (v := ?_) rfl (by kernel_rfl) (by kernel_rfl) (by kernel_rfl) (fun _ _ _ h => h) (Or.inl ⟨by rfl, ?_⟩) (by assumption) ?_
          rotate_left 1
          · intro w hSw
            (try dsimp only at hSw)
            go_simp
            all_goals with_reducible rfl
          (try simp only [Act.put, List.setIfInBounds_toArray, List.set_cons_zero, List.set_cons_succ])
          refine wpAnyH_take (i := 26) (oi := ⟨some 134, _, _, _, _, _⟩) (v := ?_) rfl (by kernel_rfl) (by kernel_rfl) (by kernel_rfl) (fun _ _ _ h => h) (Or.inl ⟨by rfl, ?_⟩) (by assumption) ?_
          rotate_left 1
          · intro w hSw
            (try dsimp only at hSw)
            go_simp
            all_goals with_reducible rfl
          (try simp only [Act.put, List.setIfInBounds_toArray, List.set_cons_zero, List.set_cons_succ])
          refine wpAnyH_ready (rs := [1, 8]) (by kernel_rfl) (by simp) ?_
          refine AllReadyH.cons (o := _) rfl (fun K hK => ?_) ?_
          · have tt := on_cell hb0 t3
            go_simp
            clear tt
            refine hK.out _ _ ?_ (fun hHeld => ?_)
            · exact ⟨on_cell hb0 r1, on_cell hb0 c0, on_cell hb0 c1, on_cell hb0 c2, on_cell hb0 c3, on_cell hb0 c4⟩
            clear hK K
            (try simp only [Act.put, List.setIfInBounds_toArray, List.set_cons_zero, List.set_cons_succ])
            refine wpAnyH_ready (rs := [8]) (by kernel_rfl) (by simp) ?_
            refine AllReadyH.cons (o := _) rfl (fun K hK => ?_) ?_
            · go_simp
              with_reducible refine (cM6 _ _).out.mono ?_
              rintro e _ ⟨r, rfl, hr6, rfl⟩
              have hwr : IntKind.i64.wrap (1 + (r : Int)) = 1 + (r : Int) := IntWalk.i64_in _ (by omega)
              refine hK.out _ _ ?_ (fun hHeld => ?_)
              · exact ⟨on_cell hb0 r1, on_cell hb0 c0, on_cell hb0 c1, on_cell hb0 c2, on_cell hb0 c3, on_cell hb0 c4⟩
              clear hK K
              (try simp only [Act.put, List.setIfInBounds_toArray, List.set_cons_zero, List.set_cons_succ])
              refine wpAnyH_take (i := 9) (oi := ⟨some 117, _, _, _, _, _⟩) (v := ?_) rfl (by kernel_rfl) (by kernel_rfl) (by kernel_rfl) (fun _ _ _ h => h) (Or.inl ⟨by rfl, ?_⟩) (by assumption) ?_
              rotate_left 1
              · intro w hSw
                (try dsimp only at hSw)
                go_simp
                all_goals with_reducible rfl
              (try simp only [Act.put, List.setIfInBounds_toArray, List.set_cons_zero, List.set_cons_succ])
              refine wpAnyH_ready (rs := [18]) (by kernel_rfl) (by simp) ?_
              refine AllReadyH.cons (o := _) rfl (fun K hK => ?_) ?_
              · clear hwr
                go_simp
                with_reducible refine (cB1 _).out.mono ?_
                rintro e V1 ⟨s1, rfl, hs1, hb1⟩
                refine hK.out _ _ ?_ (fun hHeld => ?_)
                · exact ⟨on_cell hb1 r1, on_cell hb1 c0, on_cell hb1 c1, on_cell hb1 c2, on_cell hb1 c3, on_cell hb1 c4⟩
                clear hK K
                (try simp only [Act.put, List.setIfInBounds_toArray, List.set_cons_zero, List.set_cons_succ])
                refine wpAnyH_ready (rs := [27]) (by kernel_rfl) (by simp) ?_
                refine AllReadyH.cons (o := _) rfl (fun K hK => ?_) ?_
                · go_simp
                  with_reducible refine (cB2 _).out.mono ?_
                  rintro e V2 ⟨s2, rfl, hs2, hb2'⟩
                  have hb2 : Below V0.heap.size V0 V2 := hb1.trans (hb2'.mono hb1.size)
                  refine hK.out _ _ ?_ (fun hHeld => ?_)
                  · exact ⟨on_cell hb2 r1, on_cell hb2 c0, on_cell hb2 c1, on_cell hb2 c2, on_cell hb2 c3, on_cell hb2 c4⟩
                  clear hK K
                  (try simp only [Act.put, List.setIfInBounds_toArray, List.set_cons_zero, List.set_cons_succ])
                  refine wpAnyH_take (i := 28) (oi := ⟨some 136, _, _, _, _, _⟩) (v := ?_) rfl (by kernel_rfl) (by kernel_rfl) (by kernel_rfl) (fun _ _ _ h => h) (Or.inl ⟨by rfl, ?_⟩) (by assumption) ?_
                  rotate_left 1
                  · intro w hSw
                    (try dsimp only at hSw)
                    go_simp
                    all_goals with_reducible rfl
                  (try simp only [Act.put, List.setIfInBounds_toArray, List.set_cons_zero, List.set_cons_succ])
                  refine wpAnyH_ready (rs := [29]) (by kernel_rfl) (by simp) ?_
                  refine AllReadyH.cons (o := _) rfl (fun K hK => ?_) ?_
                  · go_simp
                    obtain ⟨V3, hV3⟩ : ∃ W, W = V2.alloc (.cells #[.int .i64 (1 + (r : Int)), .bool s1.1, .int .i64 s1.2, .bool s2.1, .int .i64 s2.2] 60) := ⟨_, rfl⟩
                    obtain ⟨b9, hb9⟩ : ∃ b, b = V2.heap.size := ⟨_, rfl⟩
                    rw [← hV3, ← hb9]
                    have hb3 : Below V0.heap.size V0 V3 := by rw [hV3]; exact hb2.alloc hb2.size _
                    have src3 : Source V3 (some ⟨b9, 0, none⟩) 1 1 [.int .i64 (1 + (r : Int)), .bool s1.1, .int .i64 s1.2, .bool s2.1, .int .i64 s2.2] := by rw [hV3, hb9]; exact source_new V2 [.int .i64 (1 + (r : Int)), .bool s1.1, .int .i64 s1.2, .bool s2.1, .int .i64 s2.2] 60
                    clear hV3 hb9
                    refine hK.out _ _ ?_ (fun hHeld => ?_)
                    · exact ⟨on_cell hb3 r1, on_cell hb3 c0, on_cell hb3 c1, on_cell hb3 c2, on_cell hb3 c3, on_cell hb3 c4⟩
                    clear hK K
                    (try simp only [Act.put, List.setIfInBounds_toArray, List.set_cons_zero, List.set_cons_succ])
                    refine wpAnyH_ready (rs := [30]) (by kernel_rfl) (by simp) ?_
                    refine AllReadyH.cons (o := _) rfl (fun K hK => ?_) ?_
                    · have hz3 := hb3.size
                      refine step_append_any elemTst _ rfl _ _ rfl w.heap.size (.slice tva ts.length tvc) ts.length (tstCells ts) rfl (owns_below hown hb3 (Nat.le_refl _)) (some ⟨b9, 0, none⟩) 1 1 [.int .i64 (1 + (r : Int)), .bool s1.1, .int .i64 s1.2, .bool s2.1, .int .i64 s2.2] rfl src3 rfl (by simp [Value.oneCell']) (by unfold maxLen; omega) (by omega) (by omega) ?_
                      intro v' V4 hown4 hgrow4 hblk4
                      obtain ⟨va4, vc4, rfl⟩ := owns_shape' hown4
                      obtain ⟨p1, p2, p3⟩ := HR0.out.pushTst (t := (1 + (r : Int), s1, s2)) hb3 hgrow4 hown4 hblk4
                      have P1 := Lib.hid p1
                      have hS4 : V4.cell? ⟨rb, 3, none⟩ = some (.slice (some ⟨bt, ot, none⟩) T tc) ∧ V4.cell? ⟨bt, ot + i * 5, none⟩ = some (.int .i64 op0) ∧ V4.cell? ⟨bt, ot + i * 5 + 1, none⟩ = some (.bool sb1) ∧ V4.cell? ⟨bt, ot + i * 5 + 2, none⟩ = some (.int .i64 sn1) ∧ V4.cell? ⟨bt, ot + i * 5 + 3, none⟩ = some (.bool sb2) ∧ V4.cell? ⟨bt, ot + i * 5 + 4, none⟩ = some (.int .i64 sn2) := ⟨hgrow4.cell (on_cell hb3 r1) (fun e => (Hvb.out _ e.symm).1 rfl), hgrow4.cell (on_cell hb3 c0) (fun e => (Hvb.out _ e.symm).2 rfl), hgrow4.cell (on_cell hb3 c1) (fun e => (Hvb.out _ e.symm).2 rfl), hgrow4.cell (on_cell hb3 c2) (fun e => (Hvb.out _ e.symm).2 rfl), hgrow4.cell (on_cell hb3 c3) (fun e => (Hvb.out _ e.symm).2 rfl), hgrow4.cell (on_cell hb3 c4) (fun e => (Hvb.out _ e.symm).2 rfl)⟩
                      clear p1 hown4 hgrow4 hblk4 src3
                      refine hK.out _ _ ?_ (fun hHeld => ?_)
                      · exact hS4
                      clear hK K
                      (try simp only [Act.put, List.setIfInBounds_toArray, List.set_cons_zero, List.set_cons_succ])
                      refine wpAnyH_take (i := 31) (oi := ⟨some 139, _, _, _, _, _⟩) (v := ?_) rfl (by kernel_rfl) (by kernel_rfl) (by kernel_rfl) (fun _ _ _ h => h) (Or.inl ⟨by rfl, ?_⟩) (by assumption) ?_
                      rotate_left 1
                      · intro w hSw
                        (try dsimp only at hSw)
                        go_simp
                        all_goals with_reducible rfl
                      (try simp only [Act.put, List.setIfInBounds_toArray, List.set_cons_zero, List.set_cons_succ])
                      refine wpAnyH_ready (rs := [32]) (by kernel_rfl) (by simp) ?_
                      refine AllReadyH.cons (o := _) rfl (fun K hK => ?_) ?_
                      · go_simp
                        refine hK.out _ _ ?_ (fun hHeld => ?_)
                        · exact ⟨(World.cell?_setCell_far _ _ _ _ hn1).trans hS4.1, (World.cell?_setCell_far _ _ _ _ hn2).trans hS4.2.1, (World.cell?_setCell_far _ _ _ _ hn2).trans hS4.2.2.1, (World.cell?_setCell_far _ _ _ _ hn2).trans hS4.2.2.2.1, (World.cell?_setCell_far _ _ _ _ hn2).trans hS4.2.2.2.2.1, (World.cell?_setCell_far _ _ _ _ hn2).trans hS4.2.2.2.2.2⟩
                        clear hK K
                        (try simp only [Act.put, List.setIfInBounds_toArray, List.set_cons_zero, List.set_cons_succ])
                        refine wpAnyH_done (by kernel_rfl) ?_ _
                        refine NoPanic.normal ?_
                        have HLX : Hid ((ts ++ [(1 + (r : Int), s1, s2)]).length = i + 1) := Lib.hid (by rw [List.length_append, HTL.out]; rfl)
                        have HTX : Hid (∀ t ∈ ts ++ [(1 + (r : Int), s1, s2)], TstOk nv d t) := Lib.hid (fun t ht => by
                  rcases List.mem_append.1 ht with ht | ht
                  · exact HTO.out t ht
                  · rw [List.mem_singleton] at ht; subst ht; exact ⟨by simp only; omega, by simp only; omega, hs1, hs2⟩)
                        clear hS4 hHeld
                        go_wp2
                        go_roundw
                        case rel => exact ⟨i + 1, _, _, by go_num, by omega, P1, HLX, HTX⟩
                        case measure => simp [intOf]; omega
                      exact AllReadyH.nil
                    exact AllReadyH.nil
                  exact AllReadyH.nil
                exact AllReadyH.nil
              exact AllReadyH.nil
            exact AllReadyH.nil
          refine AllReadyH.cons (o := _) rfl (fun K hK => ?_) ?_
          · go_simp
            with_reducible refine (cM6 _ _).out.mono ?_
            rintro e _ ⟨r, rfl, hr6, rfl⟩
            have hwr : IntKind.i64.wrap (1 + (r : Int)) = 1 + (r : Int) := IntWalk.i64_in _ (by omega)
            refine hK.out _ _ ?_ (fun hHeld => ?_)
            · exact ⟨on_cell hb0 r1, on_cell hb0 c0, on_cell hb0 c1, on_cell hb0 c2, on_cell hb0 c3, on_cell hb0 c4⟩
            clear hK K
            (try simp only [Act.put, List.setIfInBounds_toArray, List.set_cons_zero, List.set_cons_succ])
            refine wpAnyH_take (i := 9) (oi := ⟨some 117, _, _, _, _, _⟩) (v := ?_) rfl (by kernel_rfl) (by kernel_rfl) (by kernel_rfl) (fun _ _ _ h => h) (Or.inl ⟨by rfl, ?_⟩) (by assumption) ?_
            rotate_left 1
            · intro w hSw
              (try dsimp only at hSw)
              go_simp
              all_goals with_reducible rfl
            (try simp only [Act.put, List.setIfInBounds_toArray, List.set_cons_zero, List.set_cons_succ])
            refine wpAnyH_ready (rs := [1, 18]) (by kernel_rfl) (by simp) ?_
            refine AllReadyH.cons (o := _) rfl (fun K hK => ?_) ?_
            · have tt := on_cell hb0 t3
              go_simp
              clear tt
              refine hK.out _ _ ?_ (fun hHeld => ?_)
              · exact ⟨on_cell hb0 r1, on_cell hb0 c0, on_cell hb0 c1, on_cell hb0 c2, on_cell hb0 c3, on_cell hb0 c4⟩
              clear hK K
              (try simp only [Act.put, List.setIfInBounds_toArray, List.set_cons_zero, List.set_cons_succ])
              refine wpAnyH_ready (rs := [18]) (by kernel_rfl) (by simp) ?_
              refine AllReadyH.cons (o := _) rfl (fun K hK => ?_) ?_
              · clear hwr
                go_simp
                with_reducible refine (cB1 _).out.mono ?_
                rintro e V1 ⟨s1, rfl, hs1, hb1⟩
                refine hK.out _ _ ?_ (fun hHeld => ?_)
                · exact ⟨on_cell hb1 r1, on_cell hb1 c0, on_cell hb1 c1, on_cell hb1 c2, on_cell hb1 c3, on_cell hb1 c4⟩
                clear hK K
                (try simp only [Act.put, List.setIfInBounds_toArray, List.set_cons_zero, List.set_cons_succ])
                refine wpAnyH_ready (rs := [27]) (by kernel_rfl) (by simp) ?_
                refine AllReadyH.cons (o := _) rfl (fun K hK => ?_) ?_
                · go_simp
                  with_reducible refine (cB2 _).out.mono ?_
                  rintro e V2 ⟨s2, rfl, hs2, hb2'⟩
                  have hb2 : Below V0.heap.size V0 V2 := hb1.trans (hb2'.mono hb1.size)
                  refine hK.out _ _ ?_ (fun hHeld => ?_)
                  · exact ⟨on_cell hb2 r1, on_cell hb2 c0, on_cell hb2 c1, on_cell hb2 c2, on_cell hb2 c3, on_cell hb2 c4⟩
                  clear hK K
                  (try simp only [Act.put, List.setIfInBounds_toArray, List.set_cons_zero, List.set_cons_succ])
                  refine wpAnyH_take (i := 28) (oi := ⟨some 136, _, _, _, _, _⟩) (v := ?_) rfl (by kernel_rfl) (by kernel_rfl) (by kernel_rfl) (fun _ _ _ h => h) (Or.inl ⟨by rfl, ?_⟩) (by assumption) ?_
                  rotate_left 1
                  · intro w hSw
                    (try dsimp only at hSw)
                    go_simp
                    all_goals with_reducible rfl
                  (try simp only [Act.put, List.setIfInBounds_toArray, List.set_cons_zero, List.set_cons_succ])
                  refine wpAnyH_ready (rs := [29]) (by kernel_rfl) (by simp) ?_
                  refine AllReadyH.cons (o := _) rfl (fun K hK => ?_) ?_
                  · go_simp
                    obtain ⟨V3, hV3⟩ : ∃ W, W = V2.alloc (.cells #[.int .i64 (1 + (r : Int)), .bool s1.1, .int .i64 s1.2, .bool s2.1, .int .i64 s2.2] 60) := ⟨_, rfl⟩
                    obtain ⟨b9, hb9⟩ : ∃ b, b = V2.heap.size := ⟨_, rfl⟩
                    rw [← hV3, ← hb9]
                    have hb3 : Below V0.heap.size V0 V3 := by rw [hV3]; exact hb2.alloc hb2.size _
                    have src3 : Source V3 (some ⟨b9, 0, none⟩) 1 1 [.int .i64 (1 + (r : Int)), .bool s1.1, .int .i64 s1.2, .bool s2.1, .int .i64 s2.2] := by rw [hV3, hb9]; exact source_new V2 [.int .i64 (1 + (r : Int)), .bool s1.1, .int .i64 s1.2, .bool s2.1, .int .i64 s2.2] 60
                    clear hV3 hb9
                    refine hK.out _ _ ?_ (fun hHeld => ?_)
                    · exact ⟨on_cell hb3 r1, on_cell hb3 c0, on_cell hb3 c1, on_cell hb3 c2, on_cell hb3 c3, on_cell hb3 c4⟩
                    clear hK K
                    (try simp only [Act.put, List.setIfInBounds_toArray, List.set_cons_zero, List.set_cons_succ])
                    refine wpAnyH_ready (rs := [30]) (by kernel_rfl) (by simp) ?_
                    refine AllReadyH.cons (o := _) rfl (fun K hK => ?_) ?_
                    · have hz3 := hb3.size
                      refine step_append_any elemTst _ rfl _ _ rfl w.heap.size (.slice tva ts.length tvc) ts.length (tstCells ts) rfl (owns_below hown hb3 (Nat.le_refl _)) (some ⟨b9, 0, none⟩) 1 1 [.int .i64 (1 + (r : Int)), .bool s1.1, .int .i64 s1.2, .bool s2.1, .int .i64 s2.2] rfl src3 rfl (by simp [Value.oneCell']) (by unfold maxLen; omega) (by omega) (by omega) ?_
                      intro v' V4 hown4 hgrow4 hblk4
                      obtain ⟨va4, vc4, rfl⟩ := owns_shape' hown4
                      obtain ⟨p1, p2, p3⟩ := HR0.out.pushTst (t := (1 + (r : Int), s1, s2)) hb3 hgrow4 hown4 hblk4
                      have P1 := Lib.hid p1
                      have hS4 : V4.cell? ⟨rb, 3, none⟩ = some (.slice (some ⟨bt, ot, none⟩) T tc) ∧ V4.cell? ⟨bt, ot + i * 5, none⟩ = some (.int .i64 op0) ∧ V4.cell? ⟨bt, ot + i * 5 + 1, none⟩ = some (.bool sb1) ∧ V4.cell? ⟨bt, ot + i * 5 + 2, none⟩ = some (.int .i64 sn1) ∧ V4.cell? ⟨bt, ot + i * 5 + 3, none⟩ = some (.bool sb2) ∧ V4.cell? ⟨bt, ot + i * 5 + 4, none⟩ = some (.int .i64 sn2) := ⟨hgrow4.cell (on_cell hb3 r1) (fun e => (Hvb.out _ e.symm).1 rfl), hgrow4.cell (on_cell hb3 c0) (fun e => (Hvb.out _ e.symm).2 rfl), hgrow4.cell (on_cell hb3 c1) (fun e => (Hvb.out _ e.symm).2 rfl), hgrow4.cell (on_cell hb3 c2) (fun e => (Hvb.out _ e.symm).2 rfl), hgrow4.cell (on_cell hb3 c3) (fun e => (Hvb.out _ e.symm).2 rfl), hgrow4.cell (on_cell hb3 c4) (fun e => (Hvb.out _ e.symm).2 rfl)⟩
                      clear p1 hown4 hgrow4 hblk4 src3
                      refine hK.out _ _ ?_ (fun hHeld => ?_)
                      · exact hS4
                      clear hK K
                      (try simp only [Act.put, List.setIfInBounds_toArray, List.set_cons_zero, List.set_cons_succ])
                      refine wpAnyH_take (i := 31) (oi := ⟨some 139, _, _, _, _, _⟩) (v := ?_) rfl (by kernel_rfl) (by kernel_rfl) (by kernel_rfl) (fun _ _ _ h => h) (Or.inl ⟨by rfl, ?_⟩) (by assumption) ?_
                      rotate_left 1
                      · intro w hSw
                        (try dsimp only at hSw)
                        go_simp
                        all_goals with_reducible rfl
                      (try simp only [Act.put, List.setIfInBounds_toArray, List.set_cons_zero, List.set_cons_succ])
                      refine wpAnyH_ready (rs := [32]) (by kernel_rfl) (by simp) ?_
                      refine AllReadyH.cons (o := _) rfl (fun K hK => ?_) ?_
                      · go_simp
                        refine hK.out _ _ ?_ (fun hHeld => ?_)
                        · exact ⟨(World.cell?_setCell_far _ _ _ _ hn1).trans hS4.1, (World.cell?_setCell_far _ _ _ _ hn2).trans hS4.2.1, (World.cell?_setCell_far _ _ _ _ hn2).trans hS4.2.2.1, (World.cell?_setCell_far _ _ _ _ hn2).trans hS4.2.2.2.1, (World.cell?_setCell_far _ _ _ _ hn2).trans hS4.2.2.2.2.1, (World.cell?_setCell_far _ _ _ _ hn2).trans hS4.2.2.2.2.2⟩
                        clear hK K
                        (try simp only [Act.put, List.setIfInBounds_toArray, List.set_cons_zero, List.set_cons_succ])
                        refine wpAnyH_done (by kernel_rfl) ?_ _
                        refine NoPanic.normal ?_
                        have HLX : Hid ((ts ++ [(1 + (r : Int), s1, s2)]).length = i + 1) := Lib.hid (by rw [List.length_append, HTL.out]; rfl)
                        have HTX : Hid (∀ t ∈ ts ++ [(1 + (r : Int), s1, s2)], TstOk nv d t) := Lib.hid (fun t ht => by
                  rcases List.mem_append.1 ht with ht | ht
                  · exact HTO.out t ht
                  · rw [List.mem_singleton] at ht; subst ht; exact ⟨by simp only; omega, by simp only; omega, hs1, hs2⟩)
                        clear hS4 hHeld
                        go_wp2
                        go_roundw
                        case rel => exact ⟨i + 1, _, _, by go_num, by omega, P1, HLX, HTX⟩
                        case measure => simp [intOf]; omega
                      exact AllReadyH.nil
                    exact AllReadyH.nil
                  exact AllReadyH.nil
                exact AllReadyH.nil
              exact AllReadyH.nil
            refine AllReadyH.cons (o := _) rfl (fun K hK => ?_) ?_
            · clear hwr
              go_simp
              with_reducible refine (cB1 _).out.mono ?_
              rintro e V1 ⟨s1, rfl, hs1, hb1⟩
              refine hK.out _ _ ?_ (fun hHeld => ?_)
              · exact ⟨on_cell hb1 r1, on_cell hb1 c0, on_cell hb1 c1, on_cell hb1 c2, on_cell hb1 c3, on_cell hb1 c4⟩
              clear hK K
              (try simp only [Act.put, List.setIfInBounds_toArray, List.set_cons_zero, List.set_cons_succ])
              refine wpAnyH_ready (rs := [1, 27]) (by kernel_rfl) (by simp) ?_
              refine AllReadyH.cons (o := _) rfl (fun K hK => ?_) ?_
              · have tt := on_cell hb1 t3
                go_simp
                clear tt
                refine hK.out _ _ ?_ (fun hHeld => ?_)
                · exact ⟨on_cell hb1 r1, on_cell hb1 c0, on_cell hb1 c1, on_cell hb1 c2, on_cell hb1 c3, on_cell hb1 c4⟩
                clear hK K
                (try simp only [Act.put, List.setIfInBounds_toArray, List.set_cons_zero, List.set_cons_succ])
                refine wpAnyH_ready (rs := [27]) (by kernel_rfl) (by simp) ?_
                refine AllReadyH.cons (o := _) rfl (fun K hK => ?_) ?_
                · go_simp
                  with_reducible refine (cB2 _).out.mono ?_
                  rintro e V2 ⟨s2, rfl, hs2, hb2'⟩
                  have hb2 : Below V0.heap.size V0 V2 := hb1.trans (hb2'.mono hb1.size)
                  refine hK.out _ _ ?_ (fun hHeld => ?_)
                  · exact ⟨on_cell hb2 r1, on_cell hb2 c0, on_cell hb2 c1, on_cell hb2 c2, on_cell hb2 c3, on_cell hb2 c4⟩
                  clear hK K
                  (try simp only [Act.put, List.setIfInBounds_toArray, List.set_cons_zero, List.set_cons_succ])
                  refine wpAnyH_take (i := 28) (oi := ⟨some 136, _, _, _, _, _⟩) (v := ?_) rfl (by kernel_rfl) (by kernel_rfl) (by kernel_rfl) (fun _ _ _ h => h) (Or.inl ⟨by rfl, ?_⟩) (by assumption) ?_
                  rotate_left 1
                  · intro w hSw
                    (try dsimp only at hSw)
                    go_simp
                    all_goals with_reducible rfl
                  (try simp only [Act.put, List.setIfInBounds_toArray, List.set_cons_zero, List.set_cons_succ])
                  refine wpAnyH_ready (rs := [29]) (by kernel_rfl) (by simp) ?_
                  refine AllReadyH.cons (o := _) rfl (fun K hK => ?_) ?_
                  · go_simp
                    obtain ⟨V3, hV3⟩ : ∃ W, W = V2.alloc (.cells #[.int .i64 (1 + (r : Int)), .bool s1.1, .int .i64 s1.2, .bool s2.1, .int .i64 s2.2] 60) := ⟨_, rfl⟩
                    obtain ⟨b9, hb9⟩ : ∃ b, b = V2.heap.size := ⟨_, rfl⟩
                    rw [← hV3, ← hb9]
                    have hb3 : Below V0.heap.size V0 V3 := by rw [hV3]; exact hb2.alloc hb2.size _
                    have src3 : Source V3 (some ⟨b9, 0, none⟩) 1 1 [.int .i64 (1 + (r : Int)), .bool s1.1, .int .i64 s1.2, .bool s2.1, .int .i64 s2.2] := by rw [hV3, hb9]; exact source_new V2 [.int .i64 (1 + (r : Int)), .bool s1.1, .int .i64 s1.2, .bool s2.1, .int .i64 s2.2] 60
                    clear hV3 hb9
                    refine hK.out _ _ ?_ (fun hHeld => ?_)
                    · exact ⟨on_cell hb3 r1, on_cell hb3 c0, on_cell hb3 c1, on_cell hb3 c2, on_cell hb3 c3, on_cell hb3 c4⟩
                    clear hK K
                    (try simp only [Act.put, List.setIfInBounds_toArray, List.set_cons_zero, List.set_cons_succ])
                    refine wpAnyH_ready (rs := [30]) (by kernel_rfl) (by simp) ?_
                    refine AllReadyH.cons (o := _) rfl (fun K hK => ?_) ?_
                    · have hz3 := hb3.size
                      refine step_append_any elemTst _ rfl _ _ rfl w.heap.size (.slice tva ts.length tvc) ts.length (tstCells ts) rfl (owns_below hown hb3 (Nat.le_refl _)) (some ⟨b9, 0, none⟩) 1 1 [.int .i64 (1 + (r : Int)), .bool s1.1, .int .i64 s1.2, .bool s2.1, .int .i64 s2.2] rfl src3 rfl (by simp [Value.oneCell']) (by unfold maxLen; omega) (by omega) (by omega) ?_
                      intro v' V4 hown4 hgrow4 hblk4
                      obtain ⟨va4, vc4, rfl⟩ := owns_shape' hown4
                      obtain ⟨p1, p2, p3⟩ := HR0.out.pushTst (t := (1 + (r : Int), s1, s2)) hb3 hgrow4 hown4 hblk4
                      have P1 := Lib.hid p1
                      have hS4 : V4.cell? ⟨rb, 3, none⟩ = some (.slice (some ⟨bt, ot, none⟩) T tc) ∧ V4.cell? ⟨bt, ot + i * 5, none⟩ = some (.int .i64 op0) ∧ V4.cell? ⟨bt, ot + i * 5 + 1, none⟩ = some (.bool sb1) ∧ V4.cell? ⟨bt, ot + i * 5 + 2, none⟩ = some (.int .i64 sn1) ∧ V4.cell? ⟨bt, ot + i * 5 + 3, none⟩ = some (.bool sb2) ∧ V4.cell? ⟨bt, ot + i * 5 + 4, none⟩ = some (.int .i64 sn2) := ⟨hgrow4.cell (on_cell hb3 r1) (fun e => (Hvb.out _ e.symm).1 rfl), hgrow4.cell (on_cell hb3 c0) (fun e => (Hvb.out _ e.symm).2 rfl), hgrow4.cell (on_cell hb3 c1) (fun e => (Hvb.out _ e.symm).2 rfl), hgrow4.cell (on_cell hb3 c2) (fun e => (Hvb.out _ e.symm).2 rfl), hgrow4.cell (on_cell hb3 c3) (fun e => (Hvb.out _ e.symm).2 rfl), hgrow4.cell (on_cell hb3 c4) (fun e => (Hvb.out _ e.symm).2 rfl)⟩
                      clear p1 hown4 hgrow4 hblk4 src3
                      refine hK.out _ _ ?_ (fun hHeld => ?_)
                      · exact hS4
                      clear hK K
                      (try simp only [Act.put, List.setIfInBounds_toArray, List.set_cons_zero, List.set_cons_succ])
                      refine wpAnyH_take (i := 31) (oi := ⟨some 139, _, _, _, _, _⟩) (v := ?_) rfl (by kernel_rfl) (by kernel_rfl) (by kernel_rfl) (fun _ _ _ h => h) (Or.inl ⟨by rfl, ?_⟩) (by assumption) ?_
                      rotate_left 1
                      · intro w hSw
                        (try dsimp only at hSw)
                        go_simp
                        all_goals with_reducible rfl
                      (try simp only [Act.put, List.setIfInBounds_toArray, List.set_cons_zero, List.set_cons_succ])
                      refine wpAnyH_ready (rs := [32]) (by kernel_rfl) (by simp) ?_
                      refine AllReadyH.cons (o := _) rfl (fun K hK => ?_) ?_
                      · go_simp
                        refine hK.out _ _ ?_ (fun hHeld => ?_)
                        · exact ⟨(World.cell?_setCell_far _ _ _ _ hn1).trans hS4.1, (World.cell?_setCell_far _ _ _ _ hn2).trans hS4.2.1, (World.cell?_setCell_far _ _ _ _ hn2).trans hS4.2.2.1, (World.cell?_setCell_far _ _ _ _ hn2).trans hS4.2.2.2.1, (World.cell?_setCell_far _ _ _ _ hn2).trans hS4.2.2.2.2.1, (World.cell?_setCell_far _ _ _ _ hn2).trans hS4.2.2.2.2.2⟩
                        clear hK K
                        (try simp only [Act.put, List.setIfInBounds_toArray, List.set_cons_zero, List.set_cons_succ])
                        refine wpAnyH_done (by kernel_rfl) ?_ _
                        refine NoPanic.normal ?_
                        have HLX : Hid ((ts ++ [(1 + (r : Int), s1, s2)]).length = i + 1) := Lib.hid (by rw [List.length_append, HTL.out]; rfl)
                        have HTX : Hid (∀ t ∈ ts ++ [(1 + (r : Int), s1, s2)], TstOk nv d t) := Lib.hid (fun t ht => by
                  rcases List.mem_append.1 ht with ht | ht
                  · exact HTO.out t ht
                  · rw [List.mem_singleton] at ht; subst ht; exact ⟨by simp only; omega, by simp only; omega, hs1, hs2⟩)
                        clear hS4 hHeld
                        go_wp2
                        go_roundw
                        case rel => exact ⟨i + 1, _, _, by go_num, by omega, P1, HLX, HTX⟩
                        case measure => simp [intOf]; omega
                      exact AllReadyH.nil
                    exact AllReadyH.nil
                  exact AllReadyH.nil
                exact AllReadyH.nil
              refine AllReadyH.cons (o := _) rfl (fun K hK => ?_) ?_
              · go_simp
                with_reducible refine (cB2 _).out.mono ?_
                rintro e V2 ⟨s2, rfl, hs2, hb2'⟩
                have hb2 : Below V0.heap.size V0 V2 := hb1.trans (hb2'.mono hb1.size)
                refine hK.out _ _ ?_ (fun hHeld => ?_)
                · exact ⟨on_cell hb2 r1, on_cell hb2 c0, on_cell hb2 c1, on_cell hb2 c2, on_cell hb2 c3, on_cell hb2 c4⟩
                clear hK K
                (try simp only [Act.put, List.setIfInBounds_toArray, List.set_cons_zero, List.set_cons_succ])
                refine wpAnyH_take (i := 28) (oi := ⟨some 136, _, _, _, _, _⟩) (v := ?_) rfl (by kernel_rfl) (by kernel_rfl) (by kernel_rfl) (fun _ _ _ h => h) (Or.inl ⟨by rfl, ?_⟩) (by assumption) ?_
                rotate_left 1
                · intro w hSw
                  (try dsimp only at hSw)
                  go_simp
                  all_goals with_reducible rfl
                (try simp only [Act.put, List.setIfInBounds_toArray, List.set_cons_zero, List.set_cons_succ])
                refine wpAnyH_ready (rs := [1, 29]) (by kernel_rfl) (by simp) ?_
                refine AllReadyH.cons (o := _) rfl (fun K hK => ?_) ?_
                · have tt := on_cell hb2 t3
                  go_simp
                  clear tt
                  refine hK.out _ _ ?_ (fun hHeld => ?_)
                  · exact ⟨on_cell hb2 r1, on_cell hb2 c0, on_cell hb2 c1, on_cell hb2 c2, on_cell hb2 c3, on_cell hb2 c4⟩
                  clear hK K
                  (try simp only [Act.put, List.setIfInBounds_toArray, List.set_cons_zero, List.set_cons_succ])
                  refine wpAnyH_ready (rs := [29]) (by kernel_rfl) (by simp) ?_
                  refine AllReadyH.cons (o := _) rfl (fun K hK => ?_) ?_
                  · go_simp
                    obtain ⟨V3, hV3⟩ : ∃ W, W = V2.alloc (.cells #[.int .i64 (1 + (r : Int)), .bool s1.1, .int .i64 s1.2, .bool s2.1, .int .i64 s2.2] 60) := ⟨_, rfl⟩
                    obtain ⟨b9, hb9⟩ : ∃ b, b = V2.heap.size := ⟨_, rfl⟩
                    rw [← hV3, ← hb9]
                    have hb3 : Below V0.heap.size V0 V3 := by rw [hV3]; exact hb2.alloc hb2.size _
                    have src3 : Source V3 (some ⟨b9, 0, none⟩) 1 1 [.int .i64 (1 + (r : Int)), .bool s1.1, .int .i64 s1.2, .bool s2.1, .int .i64 s2.2] := by rw [hV3, hb9]; exact source_new V2 [.int .i64 (1 + (r : Int)), .bool s1.1, .int .i64 s1.2, .bool s2.1, .int .i64 s2.2] 60
                    clear hV3 hb9
                    refine hK.out _ _ ?_ (fun hHeld => ?_)
                    · exact ⟨on_cell hb3 r1, on_cell hb3 c0, on_cell hb3 c1, on_cell hb3 c2, on_cell hb3 c3, on_cell hb3 c4⟩
                    clear hK K
                    (try simp only [Act.put, List.setIfInBounds_toArray, List.set_cons_zero, List.set_cons_succ])
                    refine wpAnyH_ready (rs := [30]) (by kernel_rfl) (by simp) ?_
                    refine AllReadyH.cons (o := _) rfl (fun K hK => ?_) ?_
                    · have hz3 := hb3.size
                      refine step_append_any elemTst _ rfl _ _ rfl w.heap.size (.slice tva ts.length tvc) ts.length (tstCells ts) rfl (owns_below hown hb3 (Nat.le_refl _)) (some ⟨b9, 0, none⟩) 1 1 [.int .i64 (1 + (r : Int)), .bool s1.1, .int .i64 s1.2, .bool s2.1, .int .i64 s2.2] rfl src3 rfl (by simp [Value.oneCell']) (by unfold maxLen; omega) (by omega) (by omega) ?_
                      intro v' V4 hown4 hgrow4 hblk4
                      obtain ⟨va4, vc4, rfl⟩ := owns_shape' hown4
                      obtain ⟨p1, p2, p3⟩ := HR0.out.pushTst (t := (1 + (r : Int), s1, s2)) hb3 hgrow4 hown4 hblk4
                      have P1 := Lib.hid p1
                      have hS4 : V4.cell? ⟨rb, 3, none⟩ = some (.slice (some ⟨bt, ot, none⟩) T tc) ∧ V4.cell? ⟨bt, ot + i * 5, none⟩ = some (.int .i64 op0) ∧ V4.cell? ⟨bt, ot + i * 5 + 1, none⟩ = some (.bool sb1) ∧ V4.cell? ⟨bt, ot + i * 5 + 2, none⟩ = some (.int .i64 sn1) ∧ V4.cell? ⟨bt, ot + i * 5 + 3, none⟩ = some (.bool sb2) ∧ V4.cell? ⟨bt, ot + i * 5 + 4, none⟩ = some (.int .i64 sn2) := ⟨hgrow4.cell (on_cell hb3 r1) (fun e => (Hvb.out _ e.symm).1 rfl), hgrow4.cell (on_cell hb3 c0) (fun e => (Hvb.out _ e.symm).2 rfl), hgrow4.cell (on_cell hb3 c1) (fun e => (Hvb.out _ e.symm).2 rfl), hgrow4.cell (on_cell hb3 c2) (fun e => (Hvb.out _ e.symm).2 rfl), hgrow4.cell (on_cell hb3 c3) (fun e => (Hvb.out _ e.symm).2 rfl), hgrow4.cell (on_cell hb3 c4) (fun e => (Hvb.out _ e.symm).2 rfl)⟩
                      clear p1 hown4 hgrow4 hblk4 src3
                      refine hK.out _ _ ?_ (fun hHeld => ?_)
                      · exact hS4
                      clear hK K
                      (try simp only [Act.put, List.setIfInBounds_toArray, List.set_cons_zero, List.set_cons_succ])
                      refine wpAnyH_take (i := 31) (oi := ⟨some 139, _, _, _, _, _⟩) (v := ?_) rfl (by kernel_rfl) (by kernel_rfl) (by kernel_rfl) (fun _ _ _ h => h) (Or.inl ⟨by rfl, ?_⟩) (by assumption) ?_
                      rotate_left 1
                      · intro w hSw
                        (try dsimp only at hSw)
                        go_simp
                        all_goals with_reducible rfl
                      (try simp only [Act.put, List.setIfInBounds_toArray, List.set_cons_zero, List.set_cons_succ])
                      refine wpAnyH_ready (rs := [32]) (by kernel_rfl) (by simp) ?_
                      refine AllReadyH.cons (o := _) rfl (fun K hK => ?_) ?_
                      · go_simp
                        refine hK.out _ _ ?_ (fun hHeld => ?_)
                        · exact ⟨(World.cell?_setCell_far _ _ _ _ hn1).trans hS4.1, (World.cell?_setCell_far _ _ _ _ hn2).trans hS4.2.1, (World.cell?_setCell_far _ _ _ _ hn2).trans hS4.2.2.1, (World.cell?_setCell_far _ _ _ _ hn2).trans hS4.2.2.2.1, (World.cell?_setCell_far _ _ _ _ hn2).trans hS4.2.2.2.2.1, (World.cell?_setCell_far _ _ _ _ hn2).trans hS4.2.2.2.2.2⟩
                        clear hK K
                        (try simp only [Act.put, List.setIfInBounds_toArray, List.set_cons_zero, List.set_cons_succ])
                        refine wpAnyH_done (by kernel_rfl) ?_ _
                        refine NoPanic.normal ?_
                        have HLX : Hid ((ts ++ [(1 + (r : Int), s1, s2)]).length = i + 1) := Lib.hid (by rw [List.length_append, HTL.out]; rfl)
                        have HTX : Hid (∀ t ∈ ts ++ [(1 + (r : Int), s1, s2)], TstOk nv d t) := Lib.hid (fun t ht => by
                  rcases List.mem_append.1 ht with ht | ht
                  · exact HTO.out t ht
                  · rw [List.mem_singleton] at ht; subst ht; exact ⟨by simp only; omega, by simp only; omega, hs1, hs2⟩)
                        clear hS4 hHeld
                        go_wp2
                        go_roundw
                        case rel => exact ⟨i + 1, _, _, by go_num, by omega, P1, HLX, HTX⟩
                        case measure => simp [intOf]; omega
                      exact AllReadyH.nil
                    exact AllReadyH.nil
                  exact AllReadyH.nil
                refine AllReadyH.cons (o := _) rfl (fun K hK => ?_) ?_
                · go_simp
                  obtain ⟨V3, hV3⟩ : ∃ W, W = V2.alloc (.cells #[.int .i64 (1 + (r : Int)), .bool s1.1, .int .i64 s1.2, .bool s2.1, .int .i64 s2.2] 60) := ⟨_, rfl⟩
                  obtain ⟨b9, hb9⟩ : ∃ b, b = V2.heap.size := ⟨_, rfl⟩
                  rw [← hV3, ← hb9]
                  have hb3 : Below V0.heap.size V0 V3 := by rw [hV3]; exact hb2.alloc hb2.size _
                  have src3 : Source V3 (some ⟨b9, 0, none⟩) 1 1 [.int .i64 (1 + (r : Int)), .bool s1.1, .int .i64 s1.2, .bool s2.1, .int .i64 s2.2] := by rw [hV3, hb9]; exact source_new V2 [.int .i64 (1 + (r : Int)), .bool s1.1, .int .i64 s1.2, .bool s2.1, .int .i64 s2.2] 60
                  clear hV3 hb9
                  refine hK.out _ _ ?_ (fun hHeld => ?_)
                  · exact ⟨on_cell hb3 r1, on_cell hb3 c0, on_cell hb3 c1, on_cell hb3 c2, on_cell hb3 c3, on_cell hb3 c4⟩
                  clear hK K
                  (try simp only [Act.put, List.setIfInBounds_toArray, List.set_cons_zero, List.set_cons_succ])
                  refine wpAnyH_ready (rs := [1]) (by kernel_rfl) (by simp) ?_
                  refine AllReadyH.cons (o := _) rfl (fun K hK => ?_) ?_
                  · have tt := on_cell hb3 t3
                    go_simp
                    clear tt
                    refine hK.out _ _ ?_ (fun hHeld => ?_)
                    · exact ⟨on_cell hb3 r1, on_cell hb3 c0, on_cell hb3 c1, on_cell hb3 c2, on_cell hb3 c3, on_cell hb3 c4⟩
                    clear hK K
                    (try simp only [Act.put, List.setIfInBounds_toArray, List.set_cons_zero, List.set_cons_succ])
                    refine wpAnyH_ready (rs := [30]) (by kernel_rfl) (by simp) ?_
                    refine AllReadyH.cons (o := _) rfl (fun K hK => ?_) ?_
                    · have hz3 := hb3.size
                      refine step_append_any elemTst _ rfl _ _ rfl w.heap.size (.slice tva ts.length tvc) ts.length (tstCells ts) rfl (owns_below hown hb3 (Nat.le_refl _)) (some ⟨b9, 0, none⟩) 1 1 [.int .i64 (1 + (r : Int)), .bool s1.1, .int .i64 s1.2, .bool s2.1, .int .i64 s2.2] rfl src3 rfl (by simp [Value.oneCell']) (by unfold maxLen; omega) (by omega) (by omega) ?_
                      intro v' V4 hown4 hgrow4 hblk4
                      obtain ⟨va4, vc4, rfl⟩ := owns_shape' hown4
                      obtain ⟨p1, p2, p3⟩ := HR0.out.pushTst (t := (1 + (r : Int), s1, s2)) hb3 hgrow4 hown4 hblk4
                      have P1 := Lib.hid p1
                      have hS4 : V4.cell? ⟨rb, 3, none⟩ = some (.slice (some ⟨bt, ot, none⟩) T tc) ∧ V4.cell? ⟨bt, ot + i * 5, none⟩ = some (.int .i64 op0) ∧ V4.cell? ⟨bt, ot + i * 5 + 1, none⟩ = some (.bool sb1) ∧ V4.cell? ⟨bt, ot + i * 5 + 2, none⟩ = some (.int .i64 sn1) ∧ V4.cell? ⟨bt, ot + i * 5 + 3, none⟩ = some (.bool sb2) ∧ V4.cell? ⟨bt, ot + i * 5 + 4, none⟩ = some (.int .i64 sn2) := ⟨hgrow4.cell (on_cell hb3 r1) (fun e => (Hvb.out _ e.symm).1 rfl), hgrow4.cell (on_cell hb3 c0) (fun e => (Hvb.out _ e.symm).2 rfl), hgrow4.cell (on_cell hb3 c1) (fun e => (Hvb.out _ e.symm).2 rfl), hgrow4.cell (on_cell hb3 c2) (fun e => (Hvb.out _ e.symm).2 rfl), hgrow4.cell (on_cell hb3 c3) (fun e => (Hvb.out _ e.symm).2 rfl), hgrow4.cell (on_cell hb3 c4) (fun e => (Hvb.out _ e.symm).2 rfl)⟩
                      clear p1 hown4 hgrow4 hblk4 src3
                      refine hK.out _ _ ?_ (fun hHeld => ?_)
                      · exact hS4
                      clear hK K
                      (try simp only [Act.put, List.setIfInBounds_toArray, List.set_cons_zero, List.set_cons_succ])
                      refine wpAnyH_take (i := 31) (oi := ⟨some 139, _, _, _, _, _⟩) (v := ?_) rfl (by kernel_rfl) (by kernel_rfl) (by kernel_rfl) (fun _ _ _ h => h) (Or.inl ⟨by rfl, ?_⟩) (by assumption) ?_
                      rotate_left 1
                      · intro w hSw
                        (try dsimp only at hSw)
                        go_simp
                        all_goals with_reducible rfl
                      (try simp only [Act.put, List.setIfInBounds_toArray, List.set_cons_zero, List.set_cons_succ])
                      refine wpAnyH_ready (rs := [32]) (by kernel_rfl) (by simp) ?_
                      refine AllReadyH.cons (o := _) rfl (fun K hK => ?_) ?_
                      · go_simp
                        refine hK.out _ _ ?_ (fun hHeld => ?_)
                        · exact ⟨(World.cell?_setCell_far _ _ _ _ hn1).trans hS4.1, (World.cell?_setCell_far _ _ _ _ hn2).trans hS4.2.1, (World.cell?_setCell_far _ _ _ _ hn2).trans hS4.2.2.1, (World.cell?_setCell_far _ _ _ _ hn2).trans hS4.2.2.2.1, (World.cell?_setCell_far _ _ _ _ hn2).trans hS4.2.2.2.2.1, (World.cell?_setCell_far _ _ _ _ hn2).trans hS4.2.2.2.2.2⟩
                        clear hK K
                        (try simp only [Act.put, List.setIfInBounds_toArray, List.set_cons_zero, List.set_cons_succ])
                        refine wpAnyH_done (by kernel_rfl) ?_ _
                        refine NoPanic.normal ?_
                        have HLX : Hid ((ts ++ [(1 + (r : Int), s1, s2)]).length = i + 1) := Lib.hid (by rw [List.length_append, HTL.out]; rfl)
                        have HTX : Hid (∀ t ∈ ts ++ [(1 + (r : Int), s1, s2)], TstOk nv d t) := Lib.hid (fun t ht => by
                  rcases List.mem_append.1 ht with ht | ht
                  · exact HTO.out t ht
                  · rw [List.mem_singleton] at ht; subst ht; exact ⟨by simp only; omega, by simp only; omega, hs1, hs2⟩)
                        clear hS4 hHeld
                        go_wp2
                        go_roundw
                        case rel => exact ⟨i + 1, _, _, by go_num, by omega, P1, HLX, HTX⟩
                        case measure => simp [intOf]; omega
                      exact AllReadyH.nil
                    exact AllReadyH.nil
                  exact AllReadyH.nil
                exact AllReadyH.nil
              exact AllReadyH.nil
            exact AllReadyH.nil
          exact AllReadyH.nil
        · have HLX : Hid (ts.length ≤ 3) := Lib.hid (by rw [HTL.out]; exact hi3)
          by_cases hiT : i < T
          · have hi3i : ¬ ((i : Int) < 3) := by omega
            go_wp2_with fail
            go_meet
            exact ⟨tv, ts, HR, HLX, HTO⟩
          · go_wp2_with fail
            go_meet
            exact ⟨tv, ts, HR, HLX, HTO⟩
    case rest =>
      clear HR
      obtain ⟨tv, ts, HR, HTL, HTO⟩ := hcut
      go_upto_block 6 with fail
      go_cut [] (fun wn => ∃ (H : Nat) (gv : Value) (ns : List Pat), Hid (RSt w H [(rb, rc), (b6, zeroR)] tb nb hp cl (.slice rha rhn rhc) nums pv tv gv (.slice va2 nv vc2) ps ts ns nv wn) ∧ Hid (ns.length ≤ 3) ∧ Hid (∀ p ∈ ns, PatOk nv d p ∧ PatT ar d p))
      case first =>
        go_wp2_with fail
        go_loopw [15] (fun t wr => ∃ (i H : Nat) (gv : Value) (ns : List Pat), t = .int .i64 i ∧ i ≤ 3 ∧ Hid (RSt w H [(rb, rc), (b6, zeroR)] tb nb hp cl (.slice rha rhn rhc) nums pv tv gv (.slice va2 nv vc2) ps ts ns nv wr) ∧ Hid (ns.length = i) ∧ Hid (∀ p ∈ ns, PatOk nv d p ∧ PatT ar d p)) (fun t _ => 4 - (intOf t).toNat)
        case atStart => exact ⟨0, _, _, [], rfl, by omega, HR, Lib.hid rfl, Lib.hid (fun t ht => by cases ht)⟩
        case round =>
          clear HR
          obtain ⟨i, H, gv, ns, rfl, hi3, HR, HNL, HNS⟩ := hrel
          have r1 := HR.out.rcell (List.mem_cons_self ..) (k := 4) (x := .slice na G nc) (by rw [Hrc.out]; rfl)
          by_cases hlt : i < G ∧ i < 3
          · obtain ⟨hiG, hi3'⟩ := hlt
            have hi3i : (i : Int) < 3 := by omega
            have hold := HR.out.old
            obtain ⟨bp, op, p0, hna, hp0, c0, sa, sc, c1, hSl⟩ := pats_at HN.out (k := i) (by rw [← HGl.out]; exact hiG)
            rw [hna] at r1
            obtain ⟨pr0, sl0⟩ := p0
            have c0 := below_cell hold (Nat.le_refl _) c0
            have c1 := below_cell hold (Nat.le_refl _) c1
            have cT1 := cT pr0 sa sc sl0 wr hold (hSl.below hold (Nat.le_refl _))
            simp only at c0 c1
            have Hna := Lib.hid hna
            clear hold hSl hp0 hna
            go_upto_region 27 with (first | (go_at_call 67; (with_reducible refine cT1.out.mono ?_); rintro e w1 ⟨p1, v1, rfl, hPT, hown, hb1⟩; obtain ⟨xa, xc, rfl⟩ := owns_shape' hown))
            obtain ⟨pr, l0⟩ := p1
            simp only at hown ⊢
            obtain ⟨n, hn⟩ : ∃ n, n = l0.length := ⟨_, rfl⟩
            rw [← hn] at hown ⊢
            have hn8 : n ≤ 8 := by
              obtain ⟨q, hq1, hq2, hq3, -⟩ := id hPT
              have := H3.out (ar.getD q 0) (by rw [List.getD_eq_getElem?_getD, List.getElem?_eq_getElem hq2]; exact List.getElem_mem _)
              simp only at hq3
              omega
            obtain ⟨W4, hW4⟩ : ∃ V, V = w1.alloc (.cells #[.int .i64 pr, .slice xa n xc] 27) := ⟨_, rfl⟩
            obtain ⟨pb, hpb⟩ : ∃ b, b = w1.heap.size := ⟨_, rfl⟩
            have hb4 : Below w1.heap.size w1 W4 := by rw [hW4]; exact (Below.refl _ _).alloc (Nat.le_refl _) _
            have PS : PSt w wr.heap.size [(rb, rc), (b6, zeroR)] tb nb hp cl (.slice rha rhn rhc) nums pv tv gv (.slice va2 nv vc2) ps ts ns nv pb pr (.slice xa n xc) l0 W4 :=
              ⟨(HR.out.raise.below hb1).below hb4, by rw [hW4, hpb]; exact (MapKept.heap_alloc w1 _).1, by rw [← hn]; exact owns_base (owns_below hown hb4 (Nat.le_refl _)) HR.out.old.size, fun g hg => (hown.lt g hg).1⟩
            obtain ⟨H1, hH1⟩ : ∃ x, x = wr.heap.size := ⟨_, rfl⟩
            rw [← hH1] at PS
            have HPS := Lib.hid PS
            have HPT := Lib.hid hPT
            have HN0 := Lib.hid hn
            rw [← hW4, ← hpb]
            clear hW4 hpb hb4 PS hPT hn hown hb1 HR r1 c0 c1 cT1 hH1
            have x1 : W4.cell? ⟨pb, 1, none⟩ = some (.slice xa n xc) := by have := HPS.out.box; simp [World.cell?, this]
            go_upto_block 8 with fail
            clear x1
            go_cut [] (fun wc => ∃ (l2 : List Sl), Hid (PSt w H1 [(rb, rc), (b6, zeroR)] tb nb hp cl (.slice rha rhn rhc) nums pv tv gv (.slice va2 nv vc2) ps ts ns nv pb pr (.slice xa n xc) l2 wc) ∧ Hid (l2.length = n) ∧ Hid (∀ s ∈ l2, SlotOk nv d s))
            case first =>
              have x1 : W4.cell? ⟨pb, 1, none⟩ = some (.slice xa n xc) := by have := HPS.out.box; simp [World.cell?, this]
              go_wp2_with fail
              go_loopw [162] (fun t wx => ∃ (j : Nat) (l2 : List Sl), t = .int .i64 j ∧ j ≤ n ∧ Hid (PSt w H1 [(rb, rc), (b6, zeroR)] tb nb hp cl (.slice rha rhn rhc) nums pv tv gv (.slice va2 nv vc2) ps ts ns nv pb pr (.slice xa n xc) l2 wx) ∧ Hid (l2.length = n) ∧ Hid (∀ s ∈ l2.take j, SlotOk nv d s)) (fun t _ => n - (intOf t).toNat)
              case atStart => exact ⟨0, l0, rfl, Nat.zero_le _, HPS, Lib.hid HN0.out.symm, Lib.hid (fun s hs => by simp at hs)⟩
              case round =>
                clear HPS x1
                obtain ⟨j, l2, rfl, hjn, HQ, HL2, HS2⟩ := hrel
                by_cases hj : j < n
                · obtain ⟨g, rfl⟩ : ∃ g, xa = some ⟨g, 0, none⟩ := by
                    have h := HQ.out.own
                    rw [HL2.out] at h
                    rcases owns_form h with ⟨-, h0, -⟩ | ⟨g, cap, h5, -⟩
                    · omega
                    · injection h5 with h5 _ _
                      exact ⟨g, h5⟩
                  have hjl : j < l2.length := by rw [HL2.out]; exact hj
                  obtain ⟨⟨sv, sn⟩, hs⟩ : ∃ s, l2[j]? = some s := ⟨_, List.getElem?_eq_getElem hjl⟩
                  have hown := HQ.out.own
                  rw [HL2.out] at hown
                  obtain ⟨-, ⟨cs, hcs⟩, s0, s1, s2⟩ := own_slot (x := 0) hown hs HL2.out
                  obtain ⟨-, s3⟩ := own_slot2 (false, 0) hown hs
                  simp only at s0 s1
                  have x1 : wr.cell? ⟨pb, 1, none⟩ = some (.slice (some ⟨g, 0, none⟩) n xc) := by have := HQ.out.box; simp [World.cell?, this]
                  have Hs := Lib.hid hs
                  have hgp : g ≠ pb := typ_ne hcs HQ.out.box (by decide)
                  have cB1 := fun W => cB sv sn nv W (by omega)
                  have zj : (0 : Int) ≤ (j : Int) := by omega
                  have zjn : (j : Int) < (n : Int) := by omega
                  clear hs hown hcs hjl
                  go_upto_region 30 with fail
                  obtain ⟨V0, hV0⟩ : ∃ V, V = wr.drew := ⟨_, rfl⟩
                  have hbd : Below wr.heap.size wr V0 := by rw [hV0]; exact (Below.refl _ _).drew
                  have HQ0 := Lib.hid (HQ.out.below hbd)
                  have x1 := on_cell hbd x1
                  have s0 := on_cell hbd s0
                  have s1 := on_cell hbd s1
                  clear hbd HQ
                  refine wp_region_noPanic ?_
                  refine wp_region_held_drew (S := (fun w' => w'.cell? ⟨pb, 1, none⟩ = some (.slice (some ⟨g, 0, none⟩) n xc))) (by kernel_rfl) ?_ (fun hHeld => ?_)
                  · rw [← hV0]; exact x1
                  rw [← hV0] at hHeld ⊢
                  clear hV0
                  refine wpAnyH_take (i := 0) (oi := ⟨some 165, _, _, _, _, _⟩) (v := ?_) rfl (by kernel_rfl) (by kernel_rfl) (by kernel_rfl) (fun _ _ _ h => h) (Or.inl ⟨by rfl, ?_⟩) (by assumption) ?_
                  rotate_left 1
                  · intro w hSw
                    (try dsimp only at hSw)
                    go_simp
                    all_goals with_reducible rfl
                  (try simp only [Act.put, List.setIfInBounds_toArray, List.set_cons_zero, List.set_cons_succ])
                  refine wpAnyH_take (i := 1) (oi := ⟨some 166, _, _, _, _, _⟩) (v := ?_) rfl (by kernel_rfl) (by kernel_rfl) (by kernel_rfl) (fun _ _ _ h => h) (Or.inl ⟨by rfl, ?_⟩) (by assumption) ?_
                  rotate_left 1
                  · intro w hSw
                    (try dsimp only at hSw)
                    go_simp
                    all_goals with_reducible rfl
                  (try simp only [Act.put, List.setIfInBounds_toArray, List.set_cons_zero, List.set_cons_succ])
                  refine wpAnyH_take (i := 2) (oi := ⟨some 167, _, _, _, _, _⟩) (v := ?_) rfl (by kernel_rfl) (by kernel_rfl) (by kernel_rfl) (fun _ _ _ h => h) (Or.inl ⟨by rfl, ?_⟩) (by assumption) ?_
                  rotate_left 1
                  · intro w hSw
                    (try dsimp only at hSw)
                    go_simp
                    all_goals with_reducible rfl
                  (try simp only [Act.put, List.setIfInBounds_toArray, List.set_cons_zero, List.set_cons_succ])
                  refine wpAnyH_take (i := 3) (oi := ⟨some 168, _, _, _, _, _⟩) (v := ?_) rfl (by kernel_rfl) (by kernel_rfl) (by kernel_rfl) (fun _ _ _ h => h) (Or.inl ⟨by rfl, ?_⟩) (by assumption) ?_
                  rotate_left 1
                  · intro w hSw
                    (try dsimp only at hSw)
                    go_simp
                    all_goals with_reducible rfl
                  (try simp only [Act.put, List.setIfInBounds_toArray, List.set_cons_zero, List.set_cons_succ])
                  refine wpAnyH_take (i := 4) (oi := ⟨some 169, _, _, _, _, _⟩) (v := ?_) rfl (by kernel_rfl) (by kernel_rfl) (by kernel_rfl) (fun _ _ _ h => h) (Or.inl ⟨by rfl, ?_⟩) (by assumption) ?_
                  rotate_left 1
                  · intro w hSw
                    (try dsimp only at hSw)
                    go_simp
                    all_goals with_reducible rfl
                  (try simp only [Act.put, List.setIfInBounds_toArray, List.set_cons_zero, List.set_cons_succ])
                  refine wpAnyH_take (i := 5) (oi := ⟨some 170, _, _, _, _, _⟩) (v := ?_) rfl (by kernel_rfl) (by kernel_rfl) (by kernel_rfl) (fun _ _ _ h => h) (Or.inl ⟨by rfl, ?_⟩) (by assumption) ?_
                  rotate_left 1
                  · intro w hSw
                    (try dsimp only at hSw)
                    go_simp
                    all_goals with_reducible rfl
                  (try simp only [Act.put, List.setIfInBounds_toArray, List.set_cons_zero, List.set_cons_succ])
                  refine wpAnyH_take (i := 6) (oi := ⟨some 171, _, _, _, _, _⟩) (v := ?_) rfl (by kernel_rfl) (by kernel_rfl) (by kernel_rfl) (fun _ _ _ h => h) (Or.inl ⟨by rfl, ?_⟩) (by assumption) ?_
                  rotate_left 1
                  · intro w hSw
                    (try dsimp only at hSw)
                    go_simp
                    all_goals with_reducible rfl
                  (try simp only [Act.put, List.setIfInBounds_toArray, List.set_cons_zero, List.set_cons_succ])
                  refine wpAnyH_take (i := 8) (oi := ⟨some 173, _, _, _, _, _⟩) (v := ?_) rfl (by kernel_rfl) (by kernel_rfl) (by kernel_rfl) (fun _ _ _ h => h) (Or.inl ⟨by rfl, ?_⟩) (by assumption) ?_
                  rotate_left 1
                  · intro w hSw
                    (try dsimp only at hSw)
                    go_simp
                    all_goals with_reducible rfl
                  (try simp only [Act.put, List.setIfInBounds_toArray, List.set_cons_zero, List.set_cons_succ])
                  refine wpAnyH_take (i := 9) (oi := ⟨some 174, _, _, _, _, _⟩) (v := ?_) rfl (by kernel_rfl) (by kernel_rfl) (by kernel_rfl) (fun _ _ _ h => h) (Or.inl ⟨by rfl, ?_⟩) (by assumption) ?_
                  rotate_left 1
                  · intro w hSw
                    (try dsimp only at hSw)
                    go_simp
                    all_goals with_reducible rfl
                  (try simp only [Act.put, List.setIfInBounds_toArray, List.set_cons_zero, List.set_cons_succ])
                  refine wpAnyH_ready (rs := [7]) (by kernel_rfl) (by simp) ?_
                  refine AllReadyH.cons (o := _) rfl (fun K hK => ?_) ?_
                  · go_simp
                    refine hK.out _ _ ?_ (fun hHeld => ?_)
                    · exact x1
                    clear hK K
                    (try simp only [Act.put, List.setIfInBounds_toArray, List.set_cons_zero, List.set_cons_succ])
                    refine wpAnyH_ready (rs := [10]) (by kernel_rfl) (by simp) ?_
                    refine AllReadyH.cons (o := _) rfl (fun K hK => ?_) ?_
                    · go_simp
                      with_reducible refine (cB1 _).out.mono ?_
                      rintro e V1 ⟨s', rfl, hs', hb1⟩
                      have x1 := on_cell hb1 x1
                      have k0 := on_cell hb1 s0
                      have k1 := on_cell hb1 s1
                      have HQ1 := Lib.hid (HQ0.out.below hb1)
                      obtain ⟨-, -, -, -, k2⟩ := own_slot (x := 0) (by have := HQ1.out.own; rw [HL2.out] at this; exact this) Hs.out HL2.out
                      obtain ⟨-, k3⟩ := own_slot2 (false, 0) (by have := HQ1.out.own; rw [HL2.out] at this; exact this) Hs.out
                      refine hK.out _ _ ?_ (fun hHeld => ?_)
                      · exact x1
                      clear hK K
                      (try simp only [Act.put, List.setIfInBounds_toArray, List.set_cons_zero, List.set_cons_succ])
                      refine wpAnyH_take (i := 11) (oi := ⟨some 176, _, _, _, _, _⟩) (v := ?_) rfl (by kernel_rfl) (by kernel_rfl) (by kernel_rfl) (fun _ _ _ h => h) (Or.inl ⟨by rfl, ?_⟩) (by assumption) ?_
                      rotate_left 1
                      · intro w hSw
                        (try dsimp only at hSw)
                        go_simp
                        all_goals with_reducible rfl
                      (try simp only [Act.put, List.setIfInBounds_toArray, List.set_cons_zero, List.set_cons_succ])
                      refine wpAnyH_ready (rs := [12]) (by kernel_rfl) (by simp) ?_
                      refine AllReadyH.cons (o := _) rfl (fun K hK => ?_) ?_
                      · go_simp
                        refine hK.out _ _ ?_ (fun hHeld => ?_)
                        · exact (World.cell?_setCell_far _ _ _ _ hgp).trans ((World.cell?_setCell_far _ _ _ _ hgp).trans x1)
                        clear hK K
                        (try simp only [Act.put, List.setIfInBounds_toArray, List.set_cons_zero, List.set_cons_succ])
                        refine wpAnyH_done (by kernel_rfl) ?_ _
                        refine NoPanic.normal ?_
                        have P3 := Lib.hid (HQ1.out.set2 HL2.out Hs.out s')
                        have HSX : Hid (∀ s ∈ (l2.set j s').take (j + 1), SlotOk nv d s) := Lib.hid (fun s hs => by
                        rw [take_set_at (by rw [HL2.out]; exact hj)] at hs
                        rcases List.mem_append.1 hs with hs | hs
                        · exact HS2.out s hs
                        · rw [List.mem_singleton] at hs; subst hs; exact hs')
                        clear hHeld k0 k1 k2 k3
                        go_wp2
                        go_roundw
                        case rel => exact ⟨j + 1, l2.set j s', by go_num, by omega, P3, Lib.hid (by rw [List.length_set]; exact HL2.out), HSX⟩
                        case measure => simp [intOf]; omega
                      exact AllReadyH.nil
                    exact AllReadyH.nil
                  exact AllReadyH.nil
                · have hje : j = n := by omega
                  subst hje
                  have HSX : Hid (∀ s ∈ l2, SlotOk nv d s) := Lib.hid (by have := HS2.out; rwa [List.take_of_length_le (by rw [HL2.out]; exact Nat.le_refl _)] at this)
                  go_wp2_with fail
                  go_meet
                  exact ⟨l2, HQ, HL2, HSX⟩
            case rest =>
              clear HPS
              obtain ⟨l2, HQ, HL2, HSX⟩ := hcut
              obtain ⟨gcells, hgo, -⟩ := id HQ.out.st.neg
              obtain ⟨ga1, gc1, rfl⟩ := owns_shape' hgo
              have x0 : wc.cell? ⟨pb, 0, none⟩ = some (.int .i64 pr) := by have := HQ.out.box; simp [World.cell?, this]
              have x1 : wc.cell? ⟨pb, 1, none⟩ = some (.slice xa n xc) := by have := HQ.out.box; simp [World.cell?, this]
              have y2 := HQ.out.st.vcell.2.2.1
              have hpl : ns.length ≤ 3 := by rw [HNL.out]; exact hi3
              have hlow := HQ.out.st.old.size
              have HNX : Hid (∀ p ∈ ns ++ [(pr, l2)], PatOk nv d p ∧ PatT ar d p) := Lib.hid (fun p hp => by
                rcases List.mem_append.1 hp with hp | hp
                · exact HNS.out p hp
                · rw [List.mem_singleton] at hp
                  subst hp
                  exact patT_slots HPT.out (by rw [HL2.out]; exact HN0.out) (by rw [HL2.out]; exact hn8) HSX.out)
              have HLX : Hid ((ns ++ [(pr, l2)]).length = i + 1) := Lib.hid (by rw [List.length_append, HNL.out]; rfl)
              go_wp2_with (first | (at_builtin; refine wpList_append_any elemPat _ rfl _ _ rfl w.heap.size _ ns.length gcells rfl (hgo.alloc _) (some ⟨wc.heap.size, 0, none⟩) 1 1 [.int .i64 pr, .slice xa n xc] rfl (source_new _ _ _) rfl (by simp [Value.oneCell']) (by unfold maxLen; omega) (by omega) (by simp; omega) ?_; intro v' w2 hown2 hgrow2 hblk2; obtain ⟨va3, vc3, rfl⟩ := owns_shape' hown2; obtain ⟨p1, p2, p3⟩ := HQ.out.st.pushNeg (p := (pr, l2)) (u := .slice xa n xc) ((Below.refl _ _).alloc (Nat.le_refl _) _) hgrow2 (fun cells hcc => by rw [owns_same hcc hgo]; exact hown2) hblk2 HQ.out.own; have P1 := Lib.hid p1; clear p1 hown2 hgrow2 hblk2))
              go_roundw
              case rel => exact ⟨i + 1, _, _, ns ++ [(pr, l2)], by go_num, by omega, P1, HLX, HNX⟩
              case measure => simp [intOf]; omega
          · have HLX : Hid (ns.length ≤ 3) := Lib.hid (by rw [HNL.out]; exact hi3)
            by_cases hiG : i < G
            · have hi3i : ¬ ((i : Int) < 3) := by omega
              go_wp2_with fail
              go_meet
              exact ⟨H, gv, ns, HR, HLX, HNS⟩
            · go_wp2_with fail
              go_meet
              exact ⟨H, gv, ns, HR, HLX, HNS⟩
      case rest =>
        clear HR
        obtain ⟨H, gv, ns, HR, HNL, HNS⟩ := hcut
        obtain ⟨pcells, hpo, -⟩ := id HR.out.pos
        obtain ⟨pa1, pc1, rfl⟩ := owns_shape' hpo
        obtain ⟨ga1, gc1, rfl⟩ : ∃ a c, gv = .slice a ns.length c := by obtain ⟨gcells, hgo, -⟩ := id HR.out.neg; exact owns_shape' hgo
        obtain ⟨ta1, tc1, rfl⟩ := owns_shape' HR.out.tst
        clear hpo
        have hz := HR.out.r _ (List.mem_cons_of_mem _ (List.mem_cons_self ..))
        simp only at hz
        have ht := HR.out.t
        have q0 : wc.cell? ⟨tb, 0, none⟩ = some (.int .i64 hp) := by simp [World.cell?, ht]
        have q1 : wc.cell? ⟨tb, 1, none⟩ = some (.slice rha rhn rhc) := by simp [World.cell?, ht]
        have q2 : wc.cell? ⟨tb, 2, none⟩ = some (.slice pa1 ps.length pc1) := by simp [World.cell?, ht]
        have q3 : wc.cell? ⟨tb, 3, none⟩ = some (.slice ta1 ts.length tc1) := by simp [World.cell?, ht]
        have q4 : wc.cell? ⟨tb, 4, none⟩ = some (.slice ga1 ns.length gc1) := by simp [World.cell?, ht]
        have q5 : wc.cell? ⟨tb, 5, none⟩ = some (.slice va2 nv vc2) := by simp [World.cell?, ht]
        have q6 : wc.cell? ⟨tb, 6, none⟩ = some (.int .i64 cl) := by simp [World.cell?, ht]
        have z0 : wc.cell? ⟨b6, 0, none⟩ = some (.int .i64 0) := by simp [World.cell?, hz, zeroR]
        have z1 : wc.cell? ⟨b6, 1, none⟩ = some (.slice none 0 0) := by simp [World.cell?, hz, zeroR]
        have z2 : wc.cell? ⟨b6, 2, none⟩ = some (.slice none 0 0) := by simp [World.cell?, hz, zeroR]
        have z3 : wc.cell? ⟨b6, 3, none⟩ = some (.slice none 0 0) := by simp [World.cell?, hz, zeroR]
        have z4 : wc.cell? ⟨b6, 4, none⟩ = some (.slice none 0 0) := by simp [World.cell?, hz, zeroR]
        have z5 : wc.cell? ⟨b6, 5, none⟩ = some (.slice none 0 0) := by simp [World.cell?, hz, zeroR]
        have z6 : wc.cell? ⟨b6, 6, none⟩ = some (.int .i64 0) := by simp [World.cell?, hz, zeroR]
        have f0 : wc.frozen? ⟨b6, 0, none⟩ = false := by simp [World.frozen?, hz]
        have f1 : wc.frozen? ⟨b6, 1, none⟩ = false := by simp [World.frozen?, hz]
        have f2 : wc.frozen? ⟨b6, 2, none⟩ = false := by simp [World.frozen?, hz]
        have f3 : wc.frozen? ⟨b6, 3, none⟩ = false := by simp [World.frozen?, hz]
        have f4 : wc.frozen? ⟨b6, 4, none⟩ = false := by simp [World.frozen?, hz]
        have f5 : wc.frozen? ⟨b6, 5, none⟩ = false := by simp [World.frozen?, hz]
        have f6 : wc.frozen? ⟨b6, 6, none⟩ = false := by simp [World.frozen?, hz]
        have HF : Hid (∀ V, V = ((((((wc.setCell ⟨b6, 0, none⟩ (.int .i64 hp)).setCell ⟨b6, 1, none⟩ (.slice rha rhn rhc)).setCell ⟨b6, 2, none⟩ (.slice pa1 ps.length pc1)).setCell ⟨b6, 3, none⟩ (.slice ta1 ts.length tc1)).setCell ⟨b6, 4, none⟩ (.slice ga1 ns.length gc1)).setCell ⟨b6, 5, none⟩ (.slice va2 nv vc2)).setCell ⟨b6, 6, none⟩ (.int .i64 cl) →
            V.heap[b6]? = some (.cells #[.int .i64 hp, .slice rha rhn rhc, .slice pa1 ps.length pc1, .slice ta1 ts.length tc1, .slice ga1 ns.length gc1, .slice va2 nv vc2, .int .i64 cl] 32 (0, 0)) ∧ TRuleEnd ar d ⟨hp, rha, rhn, rhc, pa, pc, pos, ta, tc, tests, na, nc, neg, va, nv0, vc, cl⟩ w (.returned (.agg #[.int .i64 hp, .slice rha rhn rhc, .slice pa1 ps.length pc1, .slice ta1 ts.length tc1, .slice ga1 ns.length gc1, .slice va2 nv vc2, .int .i64 cl])) V) := Lib.hid (fun V hV => by
          obtain ⟨k1, k2⟩ := rule_stores hz _ _ _ _ _ _ _ hV
          exact ⟨k1, trule_fin HR.out (List.mem_cons_of_mem _ (List.mem_cons_self ..)) (by have := Hbs.out; omega) k2 HO.out HD.out HPL4.out HTL.out HTO.out HNL.out HNS.out rfl rfl rfl rfl rfl⟩)
        clear hz ht
        go_wp2_with fail
        generalize hV : World.setCell _ _ _ = V
        obtain ⟨hh, hF⟩ := HF.out V hV.symm
        clear hV HF
        refine bodyPost_ret (v := .agg #[.int .i64 hp, .slice rha rhn rhc, .slice pa1 ps.length pc1, .slice ta1 ts.length tc1, .slice ga1 ns.length gc1, .slice va2 nv vc2, .int .i64 cl]) ?_ rfl hF
        simp [results, Try.results41, go_sem, World.cell?, hh]
end Mt
end Go.Proofs.Ytkejjiohkhlnnaa

namespace Go.Proofs.Ytkejjiohkhlnnaa
open Go.RowKit
namespace Mt
open Sq (Oth)

structure WorldV where
  aa : Option Addr
  ac : Nat
  ar : List Int
  ra : Option Addr
  rc : Nat
  rows : List Row
  ca : Option Addr
  cc : Nat
  cs : List C3
  R : RuleV
  K : Int
def WorldV.cells (T : WorldV) : Array Value := #[.slice T.aa T.ar.length T.ac, .slice T.ra T.rows.length T.rc, .slice T.ca T.cs.length T.cc, .int .i64 T.R.hp, .slice T.R.ha T.R.hn T.R.hc, .slice T.R.pa T.R.pos.length T.R.pc, .slice T.R.ta T.R.tests.length T.R.tc, .slice T.R.na T.R.neg.length T.R.nc, .slice T.R.va T.R.nv T.R.vc, .int .i64 T.R.cl, .int .i64 T.K]
theorem elemC3 : Elem Try.prog 24 65 (.agg #[.int .i64 0, .int .i64 0, .string ByteArray.empty]) 3 32 := ⟨Try.underlying24, by kernel_rfl, rfl, by decide⟩
def c3Cells (cs : List C3) : List Value := cs.flatMap fun c => [.int .i64 c.1, .int .i64 c.2.1, .string c.2.2]
theorem c3Cells_snoc (l : List C3) (c : C3) : c3Cells (l ++ [c]) = c3Cells l ++ [.int .i64 c.1, .int .i64 c.2.1, .string c.2.2] := by simp [c3Cells]
theorem c3Cells_at (l : List C3) (i : Nat) (h : i < l.length) : (c3Cells l)[i * 3]? = some (.int .i64 l[i].1) ∧ (c3Cells l)[i * 3 + 1]? = some (.int .i64 l[i].2.1) ∧ (c3Cells l)[i * 3 + 2]? = some (.string l[i].2.2) := by
  induction l generalizing i with
  | nil => simp at h
  | cons c l ih =>
    cases i with
    | zero => simp [c3Cells]
    | succ i =>
      have := ih i (by simpa using h)
      have e : (i + 1) * 3 = i * 3 + 1 + 1 + 1 := by omega
      rw [e]
      simpa [c3Cells] using this
/-- constants in a row of the call's own -/
theorem consts_row {w : World} {B : Nat} {v : Value} {cs : List C3} (h : w.ownsRow B 65 3 v cs.length (c3Cells cs)) : ∃ a c, v = .slice a cs.length c ∧ Consts w a cs := by
  rcases owns_form h with ⟨rfl, h0, _⟩ | ⟨g, cap, rfl, hb, _, _, _, _, hc, _⟩
  · have : cs = [] := List.eq_nil_of_length_eq_zero h0
    subst this
    exact ⟨none, 0, rfl, .inl rfl⟩
  · refine ⟨_, _, rfl, .inr ⟨g, 0, rfl, fun i hi => ?_⟩⟩
    obtain ⟨k1, k2, k3⟩ := c3Cells_at cs i hi
    rw [Nat.zero_add]
    exact ⟨hc _ _ k1, hc _ _ k2, hc _ _ k3⟩
/-- rows, each with a list in a block of the call's own -/
def RowL (B : Nat) (w : World) (v : Value) (l : List Row) : Prop := ∃ cells, w.ownsRow B 50 2 v l.length cells ∧
  ∀ (i : Nat) r, l[i]? = some r → ∃ u, cells[i * 2]? = some (.int .i64 r.1) ∧ cells[i * 2 + 1]? = some u ∧ w.ownsRow B 3 1 u r.2.length (r.2.map (Value.int .i64))
theorem RowL.nil (B : Nat) (w : World) : RowL B w (.slice none 0 0) [] := ⟨[], World.ownsRow_nil _ _ _ _, fun i p h => by simp at h⟩
section
variable {B B' tb : Nat} {vb : Option Nat} {w V : World} {v : Value} {l : List Row}
theorem RowL.chg (h : RowL B w v l) (k : Chg tb vb w V) (h1 : ∀ g cur, w.heap[g]? = some (.cells cur 50 (0, 0)) → g ≠ tb ∧ vb ≠ some g) (h2 : ∀ g cur, w.heap[g]? = some (.cells cur 3 (0, 0)) → g ≠ tb ∧ vb ≠ some g) : RowL B V v l := by
  obtain ⟨cells, q1, q2⟩ := h
  refine ⟨cells, k.owns q1 (fun g cur _ hc => h1 g cur hc), fun i p hp => ?_⟩
  obtain ⟨u, k1, k2, k3⟩ := q2 i p hp
  exact ⟨u, k1, k2, k.owns k3 (fun g cur _ hc => h2 g cur hc)⟩
theorem RowL.below (h : RowL B w v l) (hb : Below w.heap.size w V) : RowL B V v l := by
  obtain ⟨cells, q1, q2⟩ := h
  refine ⟨cells, owns_below q1 hb (Nat.le_refl _), fun i p hp => ?_⟩
  obtain ⟨u, k1, k2, k3⟩ := q2 i p hp
  exact ⟨u, k1, k2, owns_below k3 hb (Nat.le_refl _)⟩
theorem RowL.low (h : RowL B w v l) (hB : B' ≤ B) : RowL B' w v l := by
  obtain ⟨cells, q1, q2⟩ := h
  refine ⟨cells, owns_base q1 hB, fun i p hp => ?_⟩
  obtain ⟨u, k1, k2, k3⟩ := q2 i p hp
  exact ⟨u, k1, k2, owns_base k3 hB⟩
/-- of the blocks below a start none but tb has turned -/
theorem RowL.oth (h : RowL B w v l) (hO : Oth tb w V) (htb : ∃ cs, w.heap[tb]? = some (.cells cs 34 (0, 0))) : RowL B V v l := by
  obtain ⟨cs, ht⟩ := htb
  exact h.chg (tb := tb) (vb := none) ⟨hO.os, hO.tape, hO.output, hO.size, fun j hj hn _ => hO.keep j hj hn⟩ (fun g cur hc => ⟨typ_ne hc ht (by decide), by simp⟩) (fun g cur hc => ⟨typ_ne hc ht (by decide), by simp⟩)
theorem RowL.push {V0 V1 : World} {v' u : Value} {o : Nat} {r : Row} (h : RowL B w v l) (hb : Below w.heap.size w V0) (hg : V0.grownBy V1 v.ownBlock) (htb : ∃ cs, w.heap[tb]? = some (.cells cs 34 (0, 0)))
    (hv' : ∀ cells, w.ownsRow B 50 2 v l.length cells → V1.ownsRow B 50 2 v' (l.length + 1) (cells ++ [.int .i64 r.1, u])) (ho : v'.ownBlock = v.ownBlock ∨ v'.ownBlock = some V0.heap.size)
    (hu : w.ownsRow B 3 1 u r.2.length (r.2.map (Value.int .i64))) : RowL B (V1.setCell ⟨tb, o, none⟩ v') v' (l ++ [r]) := by
  obtain ⟨cells, q1, q2⟩ := h
  obtain ⟨cs, htb⟩ := htb
  have htl := (Array.getElem?_eq_some_iff.1 htb).1
  have hz := hb.size
  have k : Chg tb v.ownBlock w (V1.setCell ⟨tb, o, none⟩ v') := chg_push hb hg
  have hsl : ∀ g cur, w.heap[g]? = some (.cells cur 3 (0, 0)) → g ≠ tb ∧ v.ownBlock ≠ some g := fun g cur hc => ⟨typ_ne hc htb (by decide), fun e => by
    obtain ⟨cur2, hc2⟩ := own_typ q1 e
    exact typ_ne hc hc2 (by decide) rfl⟩
  have hvb : ∀ g, v'.ownBlock = some g → g ≠ tb := fun g e e' => by
    subst e'
    rcases ho with ho | ho
    · rw [ho] at e
      obtain ⟨cur2, hc2⟩ := own_typ q1 e
      exact typ_ne htb hc2 (by decide) rfl
    · rw [ho] at e; cases e; omega
  have hl : cells.length = l.length * 2 := q1.1
  refine ⟨cells ++ [.int .i64 r.1, u], ?_, fun i p' hp' => ?_⟩
  · rw [List.length_append]
    exact owns_block (hv' cells q1) (fun g hg => Below.heap_setCell _ _ _ _ (fun e => hvb g hg e))
  · by_cases hi : i < l.length
    · rw [List.getElem?_append_left hi] at hp'
      obtain ⟨u', k1, k2, k3⟩ := q2 i p' hp'
      exact ⟨u', by rw [List.getElem?_append_left (by omega)]; exact k1, by rw [List.getElem?_append_left (by omega)]; exact k2, k.owns k3 (fun g cur _ hc => hsl g cur hc)⟩
    · have hie : i = l.length := by
        have := (List.getElem?_eq_some_iff.1 hp').1
        simp at this
        omega
      subst hie
      rw [List.getElem?_append_right (Nat.le_refl _)] at hp'
      simp at hp'
      subst hp'
      exact ⟨u, by rw [List.getElem?_append_right (by omega)]; simp [hl], by rw [List.getElem?_append_right (by omega)]; simp [hl], k.owns hu (fun g cur _ hc => hsl g cur hc)⟩
theorem RowL.shape (h : RowL B w v l) : ∃ a c, v = .slice a l.length c := by
  obtain ⟨cells, q1, -⟩ := h
  exact owns_shape' q1
/-- the rows as the store reads them -/
theorem RowL.rows {a : Option Addr} {n c : Nat} (h : RowL B w (.slice a n c) l) : RowsZ (fun j => B ≤ j) w a c l := by
  obtain ⟨cells, q1, q2⟩ := h
  rcases owns_form q1 with ⟨h0, h1, _⟩ | ⟨g, cap, h5, hb, _, _, _, _, hc, _⟩
  · have : l = [] := List.eq_nil_of_length_eq_zero h1
    subst this
    cases h0
    exact ⟨.inl rfl, fun _ => ⟨rfl, rfl⟩⟩
  · cases h5
    refine ⟨.inr ⟨g, 0, rfl, hb, fun i hi => ?_⟩, fun e => by cases e⟩
    obtain ⟨u, k1, k2, k3⟩ := q2 i _ (List.getElem?_eq_getElem hi)
    rw [Nat.zero_add]
    refine ⟨hc _ _ k1, ?_⟩
    rcases owns_form k3 with ⟨rfl, h0, _⟩ | ⟨g', cap', rfl, hb', _, _, _, _, hc', _⟩
    · exact ⟨none, 0, by rw [h0]; exact hc _ _ (by rw [k2]), .inl (List.eq_nil_of_length_eq_zero h0), fun _ => ⟨List.eq_nil_of_length_eq_zero h0, rfl⟩⟩
    · refine ⟨some ⟨g', 0, none⟩, cap', hc _ _ k2, .inr ⟨g', 0, rfl, hb', fun k hk => ?_⟩, fun e => by cases e⟩
      rw [Nat.zero_add]
      exact hc' _ _ (by simp [hk])
end
/-- a tame world -/
structure TameW (B : Nat) (w : World) (T : WorldV) : Prop where
  ars : w.ownsRow B 3 1 (.slice T.aa T.ar.length T.ac) T.ar.length (T.ar.map (Value.int .i64))
  arOk : 1 ≤ T.ar.length ∧ T.ar.length ≤ 5 ∧ ∀ x ∈ T.ar, 0 ≤ x ∧ x ≤ 3
  rows : RowL B w (.slice T.ra T.rows.length T.rc) T.rows
  rowsOk : T.rows.length ≤ 24 ∧ (∀ r ∈ T.rows, FitsRow T.ar r) ∧ ∀ r ∈ T.rows, ∀ x ∈ r.2, x < T.cs.length
  con : Consts w T.ca T.cs
  conOk : ConstsOk T.cs ∧ 1 ≤ T.cs.length ∧ T.cs.length ≤ 5
  rule : RuleIn w T.R
  ruleOk : RuleOk T.R T.cs.length
  lens : T.R.pos.length ≤ 4 ∧ T.R.tests.length ≤ 3 ∧ T.R.neg.length ≤ 3
  pos : ∀ p ∈ T.R.pos, PatT T.ar T.cs.length p
  neg : ∀ p ∈ T.R.neg, PatT T.ar T.cs.length p
  vars : w.ownsRow B 9 1 (.slice T.R.va T.R.nv T.R.vc) T.R.nv (List.replicate T.R.nv vV)
  K : 0 ≤ T.K ∧ T.K ≤ T.R.pos.length + T.R.tests.length + T.R.neg.length
end Mt
end Go.Proofs.Ytkejjiohkhlnnaa
