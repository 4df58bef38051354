/-
  Match: several of its texts in one.
-/
import Derived.Test.YtkejjiohkhlnnaaZ2
import Derived.Test.YtkejjiohkhlnnaaSParts
import Derived.Sort.Walk13a
import Derived.Sort.AssemblyPlain
import Derived.Deep.CutBlock
namespace Go.Proofs.Ytkejjiohkhlnnaa
open Go.RowKit Go.Lib
namespace Mt
namespace Sq
open Go.Sort (swp)
open Srt (infoE siE sizeE aggE)

/-- all blocks but the row's stay -/
structure Oth (blk : Nat) (w w' : World) : Prop where
  os : w'.os = w.os
  tape : w'.tape = w.tape
  output : w'.output = w.output
  size : w.heap.size ≤ w'.heap.size
  keep : ∀ j, j < w.heap.size → j ≠ blk → w'.heap[j]? = w.heap[j]?
theorem Oth.refl (blk : Nat) (w : World) : Oth blk w w := ⟨rfl, rfl, rfl, Nat.le_refl _, fun _ _ _ => rfl⟩
theorem Oth.trans {blk : Nat} {w w1 w2 : World} (h : Oth blk w w1) (k : Oth blk w1 w2) : Oth blk w w2 :=
  ⟨k.os.trans h.os, k.tape.trans h.tape, k.output.trans h.output, Nat.le_trans h.size k.size, fun j hj hn => (k.keep j (Nat.lt_of_lt_of_le hj h.size) hn).trans (h.keep j hj hn)⟩
theorem Oth.below {blk : Nat} {w w' : World} (h : Below w.heap.size w w') : Oth blk w w' := ⟨h.os, h.tape, h.output, h.size, fun j hj _ => h.block j hj⟩
theorem Oth.cell {blk : Nat} {w w' : World} (h : Oth blk w w') {b o : Nat} {v : Value} (hc : w.cell? ⟨b, o, none⟩ = some v) (hn : b ≠ blk) : w'.cell? ⟨b, o, none⟩ = some v :=
  (World.cell?_of_block (w := w) (h.keep b (World.block_lt_of_cell? _ _ hc) hn)).trans hc
theorem Oth.store {blk : Nat} (w : World) (o : Nat) (v : Value) : Oth blk w (w.setCell ⟨blk, o, none⟩ v) :=
  ⟨rfl, rfl, rfl, by simp, fun j _ hn => Below.heap_setCell _ _ _ _ (fun e => hn e)⟩
/-- a sort: the row, what its elements are, the order, the world in which it began -/
structure SortD (α : Type) where
  blk : Nat
  n : Nat
  m : Nat
  c : Nat
  enc : α → Value
  lt : α → α → Bool
  l0 : Value
  l1 : Value
  th : Value
  w0 : World
variable {α : Type} [Inhabited α]
/-- the row holds d -/
def RowAt (S : SortD α) (d : Array α) (w : World) : Prop :=
  d.size = S.n ∧ ∃ cur : Array Value, w.heap[S.blk]? = some (.cells cur 22 (0, 0)) ∧ cur.size = S.m ∧ ∀ i, i < S.n → cur[i]? = some (S.enc d[i]!)
structure At (S : SortD α) (d : Array α) (w : World) : Prop where
  oth : Oth S.blk S.w0 w
  row : RowAt S d w
/-- what is asked of a sort -/
structure SortIn (S : SortD α) : Prop where
  less : ∀ (d : Array α) (W : World), At S d W → ∀ i j : Nat, i < S.n → j < S.n → Calls Try.prog 75 #[.int .i64 i, .int .i64 j, S.l0, S.l1] W fun e w' => e = .returned (.bool (S.lt d[i]! d[j]!)) ∧ Below W.heap.size W w'
  one : ∀ x, (S.enc x).oneCell' = true
  blk : S.blk < S.w0.heap.size
  small : S.n ≤ 1000000
  th : S.th = typeHandle Try.prog 22
/-- what a part of the sort leaves -/
structure Aft (S : SortD α) (d : Array α) (w w' : World) : Prop where
  oth : Oth S.blk w w'
  row : RowAt S d w'
def lessV (S : SortD α) : Value := .func (.func 75) #[] #[S.l0, S.l1]
def swapV (S : SortD α) : Value := .func (.func 100) #[] #[.slice (some ⟨S.blk, 0, none⟩) S.n S.c, S.th]
section
variable {S : SortD α} {d : Array α} {w W W' : World}
theorem RowAt.below (h : RowAt S d W) (hb : Below W.heap.size W W') : RowAt S d W' := by
  obtain ⟨h1, cur, h2, h3⟩ := h
  exact ⟨h1, cur, (hb.block _ (Array.getElem?_eq_some_iff.1 h2).1).trans h2, h3⟩
theorem At.below (h : At S d W) (hb : Below W.heap.size W W') : At S d W' := ⟨h.oth.trans (.below hb), h.row.below hb⟩
theorem At.aft {d' : Array α} (h : At S d W) (k : Aft S d' W W') : At S d' W' := ⟨h.oth.trans k.oth, k.row⟩
theorem Aft.refl (h : At S d W) : Aft S d W W := ⟨.refl _ _, h.row⟩
theorem Aft.trans {d' : Array α} {V : World} (h : Oth S.blk w V) (k : Aft S d' V W) : Aft S d' w W := ⟨h.trans k.oth, k.row⟩
theorem RowAt.get (h : RowAt S d W) {i : Nat} (hi : i < S.n) : W.cell? ⟨S.blk, i, none⟩ = some (S.enc d[i]!) ∧ W.frozen? ⟨S.blk, i, none⟩ = false := by
  obtain ⟨h1, cur, h2, h3, h4⟩ := h
  have := h4 i hi
  simp [World.cell?, World.frozen?, h2, this]
theorem RowAt.swap (h : RowAt S d W) {i j : Nat} (hi : i < S.n) (hj : j < S.n) : RowAt S (swp d i j) ((W.setCell ⟨S.blk, i, none⟩ (S.enc d[j]!)).setCell ⟨S.blk, j, none⟩ (S.enc d[i]!)) := by
  obtain ⟨h1, cur, h2, h3, h4⟩ := h
  have c1 : (W.setCell ⟨S.blk, i, none⟩ (S.enc d[j]!)).heap[S.blk]? = some (.cells (cur.setIfInBounds i (S.enc d[j]!)) 22 (0, 0)) := heap_setCell h2 _
  refine ⟨by simp [swp, h1], _, heap_setCell c1 _, by simpa using h3, fun k hk => ?_⟩
  have hk4 := h4 k hk
  have hkc : k < cur.size := (Array.getElem?_eq_some_iff.1 hk4).1
  have hic : i < cur.size := (Array.getElem?_eq_some_iff.1 (h4 i hi)).1
  have hjc : j < cur.size := (Array.getElem?_eq_some_iff.1 (h4 j hj)).1
  have hs : (swp d i j)[k]! = if k = j then d[i]! else if k = i then d[j]! else d[k]! := by
    rw [Go.Sort.swp_get d (by omega) (by omega)]
  rw [hs]
  simp only [Array.getElem?_setIfInBounds]
  by_cases e1 : j = k
  · subst e1; simp [hjc]
  · by_cases e2 : i = k
    · subst e2; simp [e1, hic, Ne.symm e1]
    · simp [e1, e2, Ne.symm e1, Ne.symm e2, hk4]
theorem At.swap (h : At S d W) {i j : Nat} (hi : i < S.n) (hj : j < S.n) : At S (swp d i j) ((W.setCell ⟨S.blk, i, none⟩ (S.enc d[j]!)).setCell ⟨S.blk, j, none⟩ (S.enc d[i]!)) :=
  ⟨h.oth.trans ((Oth.store _ _ _).trans (Oth.store _ _ _)), h.row.swap hi hj⟩
theorem At.size (h : At S d W) : d.size = S.n := h.row.1
/-- the exchange of two elements, by the library's own function -/
theorem At.run (C : SortIn S) (h : At S d W) {i j : Nat} (hi : i < S.n) (hj : j < S.n) :
    (callFunc 100 #[.int .i64 i, .int .i64 j, .slice (some ⟨S.blk, 0, none⟩) S.n S.c, S.th]).run Try.prog W = .ok (.value (.tuple #[])) ((W.setCell ⟨S.blk, i, none⟩ (S.enc d[j]!)).setCell ⟨S.blk, j, none⟩ (S.enc d[i]!)) := by
  obtain ⟨x1, y1⟩ := h.row.get hi
  obtain ⟨x2, y2⟩ := h.row.get hj
  have h := run_swap_one (P := Try.prog) false 22 siE infoE sizeE aggE S.blk 0 S.n S.c i j hi hj _ _ (C.one _) (C.one _) W (by rw [Nat.zero_add]; exact x1) (by rw [Nat.zero_add]; exact x2) (by rw [Nat.zero_add]; exact y1) (by rw [Nat.zero_add]; exact y2)
  rw [run_callFunc_extern Try.func100 (by kernel_rfl) (by kernel_rfl) (by kernel_rfl) (e := Extern.ReflectliteSwapper.swap false) (by kernel_rfl)]
  rw [Nat.zero_add, Nat.zero_add, ← C.th] at h
  rw [show Sem.run Try.prog (Extern.ReflectliteSwapper.swap false #[.int .i64 i, .int .i64 j, .slice (some ⟨S.blk, 0, none⟩) S.n S.c, S.th]) W = _ from h]
  rfl
/-- a frame of the sort: its own copy of the two functions lies at rb -/
structure Fr (S : SortD α) (rb : Nat) (ws : World) (d : Array α) (w : World) : Prop where
  at' : At S d w
  oth : Oth S.blk ws w
  x0 : w.cell? ⟨rb, 0, none⟩ = some (lessV S)
  x1 : w.cell? ⟨rb, 1, none⟩ = some (swapV S)
  rb : S.w0.heap.size ≤ rb
theorem Fr.start (h : At S d w) : Fr S w.heap.size w d (w.alloc (.cells #[lessV S, swapV S] 155)) :=
  ⟨h.below ((Below.refl _ _).alloc (Nat.le_refl _) _), .below ((Below.refl _ _).alloc (Nat.le_refl _) _), by simp, by simp, h.oth.size⟩
variable {rb : Nat} {ws : World}
theorem Fr.ne (C : SortIn S) (h : Fr S rb ws d W) : rb ≠ S.blk := by have := C.blk; have := h.rb; omega
theorem Fr.below (h : Fr S rb ws d W) (hb : Below W.heap.size W W') : Fr S rb ws d W' := ⟨h.at'.below hb, h.oth.trans (.below hb), on_cell hb h.x0, on_cell hb h.x1, h.rb⟩
theorem Fr.drew (h : Fr S rb ws d W) : Fr S rb ws d W.drew := h.below (Below.refl _ _).drew
theorem Fr.swap (C : SortIn S) (h : Fr S rb ws d W) {i j : Nat} (hi : i < S.n) (hj : j < S.n) : Fr S rb ws (swp d i j) ((W.setCell ⟨S.blk, i, none⟩ (S.enc d[j]!)).setCell ⟨S.blk, j, none⟩ (S.enc d[i]!)) := by
  have hn := h.ne C
  exact ⟨h.at'.swap hi hj, h.oth.trans ((Oth.store _ _ _).trans (Oth.store _ _ _)), (World.cell?_setCell_far _ _ _ _ (Ne.symm hn)).trans ((World.cell?_setCell_far _ _ _ _ (Ne.symm hn)).trans h.x0),
    (World.cell?_setCell_far _ _ _ _ (Ne.symm hn)).trans ((World.cell?_setCell_far _ _ _ _ (Ne.symm hn)).trans h.x1), h.rb⟩
theorem Fr.aft (C : SortIn S) {d' : Array α} (h : Fr S rb ws d W) (k : Aft S d' W W') : Fr S rb ws d' W' := ⟨h.at'.aft k, h.oth.trans k.oth, k.oth.cell h.x0 (h.ne C), k.oth.cell h.x1 (h.ne C), h.rb⟩
theorem Fr.end (h : Fr S rb ws d W) : Aft S d ws W := ⟨h.oth, h.at'.row⟩
theorem Fr.less (C : SortIn S) (h : Fr S rb ws d W) (i j : Nat) (hi : i < S.n) (hj : j < S.n) : Calls Try.prog 75 #[.int .i64 i, .int .i64 j, S.l0, S.l1] W fun e w' => e = .returned (.bool (S.lt d[i]! d[j]!)) ∧ Fr S rb ws d w' :=
  (C.less d W h.at' i j hi hj).mono fun _ _ k => ⟨k.1, h.below k.2⟩
end
end Sq
end Mt
end Go.Proofs.Ytkejjiohkhlnnaa

namespace Go.Proofs.Ytkejjiohkhlnnaa
open Go.RowKit Go.Lib
namespace Mt
namespace Sq
open Go.Sort (swp insInner insOuter)
variable {α : Type} [Inhabited α]

theorem insInner_at {lt : α → α → Bool} {a j : Nat} {d : Array α} (h : a < j) : insInner lt a j d = if lt d[j]! d[j - 1]! = true then insInner lt a (j - 1) (swp d j (j - 1)) else d := by
  obtain ⟨k, rfl⟩ : ∃ k, j = k + 1 := ⟨j - 1, by omega⟩
  rw [insInner]
  simp only [Nat.add_sub_cancel, show (k + 1 > a) = True from by simp; omega, decide_true, Bool.true_and]
theorem insInner_end {lt : α → α → Bool} {a j : Nat} {d : Array α} (h : j ≤ a) : insInner lt a j d = d := by
  cases j with
  | zero => rfl
  | succ k => rw [insInner, if_neg]; simp; omega
theorem insOuter_at {lt : α → α → Bool} {a b i : Nat} {d : Array α} (h : i < b) : insOuter lt a b i d = insOuter lt a b (i + 1) (insInner lt a i d) := by
  rw [insOuter, if_pos h]
theorem insOuter_end {lt : α → α → Bool} {a b i : Nat} {d : Array α} (h : ¬ i < b) : insOuter lt a b i d = d := by
  rw [insOuter, if_neg h]
set_option maxHeartbeats 4000000 in
set_option maxRecDepth 100000 in
theorem ins_any {S : SortD α} (C : SortIn S) (a b : Nat) (d : Array α) (w : World) (h : At S d w) (_hab : a ≤ b) (hb : b ≤ S.n) :
    Calls Try.prog 103 #[.agg #[lessV S, swapV S], .int .i64 a, .int .i64 b] w fun e w' => e = .returned (.tuple #[]) ∧ Aft S (Go.Sort.insertionSort S.lt d a b) w w' := by
  obtain ⟨rb, hrb⟩ : ∃ r, r = w.heap.size := ⟨_, rfl⟩
  have F0 := Fr.start h
  rw [← hrb] at F0
  have HC := Lib.hid C
  have hn := C.small
  unfold lessV swapV at *
  obtain ⟨W0, hW0⟩ : ∃ V, V = w.alloc (.cells #[.func (.func 75) #[] #[S.l0, S.l1], .func (.func 100) #[] #[.slice (some ⟨S.blk, 0, none⟩) S.n S.c, S.th]] 155) := ⟨_, rfl⟩
  rw [← hW0] at F0
  have HF0 := Lib.hid F0
  have HW0 := Lib.hid hW0
  have Hrb := Lib.hid hrb
  obtain ⟨R, hR⟩ : ∃ R, R = Go.Sort.insertionSort S.lt d a b := ⟨_, rfl⟩
  rw [← hR]
  have HR : Hid (insOuter S.lt a b (a + 1) d = R) := Lib.hid (by rw [hR]; rfl)
  clear hW0 hrb F0 h hR C
  go_enter Try.func103, Try.ntmps103
  go_upto_region 1 with fail
  rw [← HW0.out, ← Hrb.out]
  go_wp2_with fail
  go_loopw [6] (fun t wr => ∃ (i : Nat) (dk : Array α), t = .int .i64 i ∧ a < i ∧ i ≤ b + 1 ∧ Hid (Fr S rb w dk wr) ∧ Hid (insOuter S.lt a b i dk = R)) (fun t _ => b + 1 - (intOf t).toNat)
  case atStart => exact ⟨a + 1, d, by go_num, by omega, by omega, HF0, HR⟩
  case round =>
    clear HF0 HR
    obtain ⟨i, dk, rfl, hai, hib, HF, HO⟩ := hrel
    by_cases hlt : i < b
    · go_wp2_with fail
      go_loopw [7] (fun t wr2 => ∃ (j : Nat) (dj : Array α), t = .int .i64 j ∧ a ≤ j ∧ j ≤ i ∧ Hid (Fr S rb w dj wr2) ∧ Hid (insInner S.lt a j dj = insInner S.lt a i dk)) (fun t _ => (intOf t).toNat)
      case atStart => exact ⟨i, dk, rfl, by omega, Nat.le_refl _, HF, Lib.hid rfl⟩
      case round =>
        obtain ⟨j, dj, rfl, haj, hji, HF2, HO2⟩ := hrel
        have x0 := HF2.out.x0
        have x1 := HF2.out.x1
        unfold lessV at x0
        unfold swapV at x1
        by_cases hja : a < j
        · obtain ⟨bv, hbv⟩ : ∃ bv, bv = S.lt dj[j]! dj[j - 1]! := ⟨_, rfl⟩
          have cL := Lib.hid (HF2.out.less HC.out j (j - 1) (by omega) (by omega))
          rw [← hbv, show ((j - 1 : Nat) : Int) = (j : Int) - 1 by omega] at cL
          have HO3 : Hid (insInner S.lt a i dk = if bv = true then insInner S.lt a (j - 1) (swp dj j (j - 1)) else dj) := Lib.hid (by rw [← HO2.out, insInner_at hja, hbv])
          clear hbv HO2
          cases bv with
          | true =>
            have HO4 : Hid (insInner S.lt a (j - 1) (swp dj j (j - 1)) = insInner S.lt a i dk) := Lib.hid (by rw [HO3.out]; rfl)
            clear HO3
            go_wp2_with (first | (go_at_call 75; (with_reducible refine cL.out.mono ?_); rintro e w1 ⟨rfl, hF1⟩; have y1 := hF1.x1; unfold swapV at y1; have hsw := At.run HC.out hF1.at' (i := j) (j := j - 1) (by omega) (by omega); rw [show ((j - 1 : Nat) : Int) = (j : Int) - 1 by omega] at hsw; have HF3 := Lib.hid (hF1.swap HC.out (i := j) (j := j - 1) (by omega) (by omega)); clear hF1 x0 x1 cL HF2))
            go_roundw
            case rel => exact ⟨j - 1, _, by go_num, by omega, by omega, HF3, HO4⟩
            case measure => simp [intOf]; omega
          | false =>
            have HO4 : Hid (dj = insInner S.lt a i dk) := Lib.hid (by rw [HO3.out]; rfl)
            clear HO3
            go_wp2_with (first | (go_at_call 75; (with_reducible refine cL.out.mono ?_); rintro e w1 ⟨rfl, hF1⟩; have HF3 := Lib.hid hF1; clear hF1 x0 x1 cL HF2))
            exact ⟨⟨i + 1, dj, by go_num, by omega, by omega, HF3, Lib.hid (by rw [← HO.out, insOuter_at hlt, HO4.out])⟩, by simp [intOf]; omega⟩
        · have HO4 : Hid (dj = insInner S.lt a i dk) := Lib.hid (by rw [← HO2.out, insInner_end (by omega)])
          clear HO2 x0 x1
          go_wp2_with fail
          exact ⟨⟨i + 1, dj, by go_num, by omega, by omega, HF2, Lib.hid (by rw [← HO.out, insOuter_at hlt, HO4.out])⟩, by simp [intOf]; omega⟩
    · have hE : Hid (Aft S R w wr) := Lib.hid (by rw [← HO.out, insOuter_end hlt]; exact HF.out.end)
      go_wp2_with fail
      go_end0
      exact ⟨rfl, hE.out⟩
end Sq
end Mt
end Go.Proofs.Ytkejjiohkhlnnaa

namespace Go.Proofs.Ytkejjiohkhlnnaa
open Go.RowKit Go.Lib
namespace Mt
namespace Sq
open Go.Sort (swp siftDown)
variable {α : Type} [Inhabited α]

/-- the greater child -/
def kid (lt : α → α → Bool) (hi first root : Nat) (d : Array α) : Nat :=
  if 2 * root + 1 + 1 < hi ∧ lt d[first + (2 * root + 1)]! d[first + (2 * root + 1) + 1]! = true then 2 * root + 2 else 2 * root + 1
theorem siftDown_end {lt : α → α → Bool} {hi first root : Nat} {d : Array α} (h : hi ≤ 2 * root + 1) : siftDown lt hi first root d = d := by
  rw [siftDown, dif_pos h]
theorem siftDown_at {lt : α → α → Bool} {hi first root : Nat} {d : Array α} (h : 2 * root + 1 < hi) : siftDown lt hi first root d =
    if lt d[first + root]! d[first + kid lt hi first root d]! = true then siftDown lt hi first (kid lt hi first root d) (swp d (first + root) (first + kid lt hi first root d)) else d := by
  rw [siftDown, dif_neg (by omega)]
  unfold kid
  by_cases h1 : 2 * root + 1 + 1 < hi ∧ lt d[first + (2 * root + 1)]! d[first + (2 * root + 1) + 1]! = true
  · rw [if_pos (by simp [h1.1, h1.2]), if_pos h1]
    by_cases h2 : lt d[first + root]! d[first + (2 * root + 2)]! = true
    · rw [if_neg (by simp [h2]), dif_pos (by omega), if_pos h2]
    · rw [if_pos (by simpa using h2), if_neg h2]
  · rw [if_neg (by simpa using h1), if_neg h1]
    by_cases h2 : lt d[first + root]! d[first + (2 * root + 1)]! = true
    · rw [if_neg (by simp [h2]), if_pos h2]
    · rw [if_pos (by simpa using h2), if_neg h2]
set_option maxHeartbeats 4000000 in
set_option maxRecDepth 100000 in
theorem sift_any {S : SortD α} (C : SortIn S) (lo hi first : Nat) (d : Array α) (w : World) (h : At S d w) (hb : first + hi ≤ S.n) (hlo : lo ≤ S.n) :
    Calls Try.prog 111 #[.agg #[lessV S, swapV S], .int .i64 lo, .int .i64 hi, .int .i64 first] w fun e w' => e = .returned (.tuple #[]) ∧ Aft S (siftDown S.lt hi first lo d) w w' := by
  obtain ⟨rb, hrb⟩ : ∃ r, r = w.heap.size := ⟨_, rfl⟩
  have F0 := Fr.start h
  rw [← hrb] at F0
  have HC := Lib.hid C
  have hn := C.small
  unfold lessV swapV at *
  obtain ⟨W0, hW0⟩ : ∃ V, V = w.alloc (.cells #[.func (.func 75) #[] #[S.l0, S.l1], .func (.func 100) #[] #[.slice (some ⟨S.blk, 0, none⟩) S.n S.c, S.th]] 155) := ⟨_, rfl⟩
  rw [← hW0] at F0
  have HF0 := Lib.hid F0
  have HW0 := Lib.hid hW0
  have Hrb := Lib.hid hrb
  obtain ⟨R, hR⟩ : ∃ R, R = siftDown S.lt hi first lo d := ⟨_, rfl⟩
  rw [← hR]
  have HR : Hid (siftDown S.lt hi first lo d = R) := Lib.hid hR.symm
  clear hR
  clear hW0 hrb F0 h C
  go_enter Try.func111, Try.ntmps111
  go_upto_region 1 with fail
  rw [← HW0.out, ← Hrb.out]
  go_wp2_with fail
  go_loopw [8] (fun t wr => ∃ (root : Nat) (dk : Array α), t = .int .i64 root ∧ root ≤ S.n ∧ Hid (Fr S rb w dk wr) ∧ Hid (siftDown S.lt hi first root dk = R)) (fun t _ => S.n + 1 - (intOf t).toNat)
  case atStart => exact ⟨lo, d, rfl, hlo, HF0, HR⟩
  case round =>
    clear HF0 HR
    obtain ⟨root, dk, rfl, hroot, HF, HO⟩ := hrel
    have x0 := HF.out.x0
    have x1 := HF.out.x1
    unfold lessV at x0
    unfold swapV at x1
    by_cases hlt : 2 * root + 1 < hi
    · by_cases h2 : 2 * root + 1 + 1 < hi
      · obtain ⟨b1, hb1⟩ : ∃ x, x = S.lt dk[first + (2 * root + 1)]! dk[first + (2 * root + 1) + 1]! := ⟨_, rfl⟩
        have cL := Lib.hid (HF.out.less HC.out (first + (2 * root + 1)) (first + (2 * root + 1) + 1) (by omega) (by omega))
        rw [← hb1, show ((first + (2 * root + 1) : Nat) : Int) = (first : Int) + (2 * (root : Int) + 1) by omega, show ((first + (2 * root + 1) + 1 : Nat) : Int) = (first : Int) + (2 * (root : Int) + 1) + 1 by omega] at cL
        cases b1 with
        | true =>
          have HK : Hid (kid S.lt hi first root dk = 2 * root + 1 + 1) := Lib.hid (by unfold kid; rw [if_pos ⟨h2, hb1.symm⟩])
          clear hb1
          go_upto_region 6 with (first | (go_at_call 75; (with_reducible refine cL.out.mono ?_); rintro e w1 ⟨rfl, hF1⟩; have x0 := hF1.x0; unfold lessV at x0; have HF1 := Lib.hid hF1; clear hF1 cL HF x1))
          have HS : Hid (R = if S.lt dk[first + root]! dk[first + (2 * root + 1 + 1)]! = true then siftDown S.lt hi first (2 * root + 1 + 1) (swp dk (first + root) (first + (2 * root + 1 + 1))) else dk) := Lib.hid (by rw [← HO.out, siftDown_at hlt, HK.out])
          obtain ⟨b2, hb2⟩ : ∃ x, x = S.lt dk[first + root]! dk[first + (2 * root + 1 + 1)]! := ⟨_, rfl⟩
          have cL2 := Lib.hid (HF1.out.less HC.out (first + root) (first + (2 * root + 1 + 1)) (by omega) (by omega))
          rw [← hb2, show ((first + root : Nat) : Int) = (first : Int) + (root : Int) by omega, show ((first + (2 * root + 1 + 1) : Nat) : Int) = (first : Int) + (2 * (root : Int) + 1 + 1) by omega] at cL2
          rw [← hb2] at HS
          clear hb2 HO HK
          cases b2 with
          | true =>
            have HS2 : Hid (siftDown S.lt hi first (2 * root + 1 + 1) (swp dk (first + root) (first + (2 * root + 1 + 1))) = R) := Lib.hid (by rw [HS.out]; rfl)
            clear HS
            go_wp2_with (first | (go_at_call 75; (with_reducible refine cL2.out.mono ?_); rintro e w2 ⟨rfl, hF2⟩; have y1 := hF2.x1; unfold swapV at y1; have hsw := At.run HC.out hF2.at' (i := first + root) (j := first + (2 * root + 1 + 1)) (by omega) (by omega); rw [show ((first + root : Nat) : Int) = (first : Int) + (root : Int) by omega, show ((first + (2 * root + 1 + 1) : Nat) : Int) = (first : Int) + (2 * (root : Int) + 1 + 1) by omega] at hsw; have HF3 := Lib.hid (hF2.swap HC.out (i := first + root) (j := first + (2 * root + 1 + 1)) (by omega) (by omega)); clear hF2 cL2))
            go_roundw
            case rel => exact ⟨2 * root + 1 + 1, _, by go_num, by omega, HF3, HS2⟩
            case measure => simp [intOf]; omega
          | false =>
            have HE : Hid (R = dk) := Lib.hid (by rw [HS.out]; rfl)
            clear HS
            go_wp2_with (first | (go_at_call 75; (with_reducible refine cL2.out.mono ?_); rintro e w2 ⟨rfl, hF2⟩; have HF3 := Lib.hid hF2; clear hF2 cL2))
            (try simp only [Exit.inBlock, Exit.then])
            refine bodyPost_ret (results_none rfl _ _ _) rfl ?_
            exact ⟨rfl, by rw [HE.out]; exact HF3.out.end⟩
        | false =>
          have HK : Hid (kid S.lt hi first root dk = 2 * root + 1) := Lib.hid (by unfold kid; rw [if_neg (fun h => by rw [h.2] at hb1; cases hb1)])
          clear hb1
          go_upto_region 6 with (first | (go_at_call 75; (with_reducible refine cL.out.mono ?_); rintro e w1 ⟨rfl, hF1⟩; have x0 := hF1.x0; unfold lessV at x0; have HF1 := Lib.hid hF1; clear hF1 cL HF x1))
          have HS : Hid (R = if S.lt dk[first + root]! dk[first + (2 * root + 1)]! = true then siftDown S.lt hi first (2 * root + 1) (swp dk (first + root) (first + (2 * root + 1))) else dk) := Lib.hid (by rw [← HO.out, siftDown_at hlt, HK.out])
          obtain ⟨b2, hb2⟩ : ∃ x, x = S.lt dk[first + root]! dk[first + (2 * root + 1)]! := ⟨_, rfl⟩
          have cL2 := Lib.hid (HF1.out.less HC.out (first + root) (first + (2 * root + 1)) (by omega) (by omega))
          rw [← hb2, show ((first + root : Nat) : Int) = (first : Int) + (root : Int) by omega, show ((first + (2 * root + 1) : Nat) : Int) = (first : Int) + (2 * (root : Int) + 1) by omega] at cL2
          rw [← hb2] at HS
          clear hb2 HO HK
          cases b2 with
          | true =>
            have HS2 : Hid (siftDown S.lt hi first (2 * root + 1) (swp dk (first + root) (first + (2 * root + 1))) = R) := Lib.hid (by rw [HS.out]; rfl)
            clear HS
            go_wp2_with (first | (go_at_call 75; (with_reducible refine cL2.out.mono ?_); rintro e w2 ⟨rfl, hF2⟩; have y1 := hF2.x1; unfold swapV at y1; have hsw := At.run HC.out hF2.at' (i := first + root) (j := first + (2 * root + 1)) (by omega) (by omega); rw [show ((first + root : Nat) : Int) = (first : Int) + (root : Int) by omega, show ((first + (2 * root + 1) : Nat) : Int) = (first : Int) + (2 * (root : Int) + 1) by omega] at hsw; have HF3 := Lib.hid (hF2.swap HC.out (i := first + root) (j := first + (2 * root + 1)) (by omega) (by omega)); clear hF2 cL2))
            go_roundw
            case rel => exact ⟨2 * root + 1, _, by go_num, by omega, HF3, HS2⟩
            case measure => simp [intOf]; omega
          | false =>
            have HE : Hid (R = dk) := Lib.hid (by rw [HS.out]; rfl)
            clear HS
            go_wp2_with (first | (go_at_call 75; (with_reducible refine cL2.out.mono ?_); rintro e w2 ⟨rfl, hF2⟩; have HF3 := Lib.hid hF2; clear hF2 cL2))
            (try simp only [Exit.inBlock, Exit.then])
            refine bodyPost_ret (results_none rfl _ _ _) rfl ?_
            exact ⟨rfl, by rw [HE.out]; exact HF3.out.end⟩
      · have HK : Hid (kid S.lt hi first root dk = 2 * root + 1) := Lib.hid (by unfold kid; rw [if_neg (fun h => h2 h.1)])
        go_upto_region 6 with fail
        have HS : Hid (R = if S.lt dk[first + root]! dk[first + (2 * root + 1)]! = true then siftDown S.lt hi first (2 * root + 1) (swp dk (first + root) (first + (2 * root + 1))) else dk) := Lib.hid (by rw [← HO.out, siftDown_at hlt, HK.out])
        obtain ⟨b2, hb2⟩ : ∃ x, x = S.lt dk[first + root]! dk[first + (2 * root + 1)]! := ⟨_, rfl⟩
        have cL2 := Lib.hid (HF.out.less HC.out (first + root) (first + (2 * root + 1)) (by omega) (by omega))
        rw [← hb2, show ((first + root : Nat) : Int) = (first : Int) + (root : Int) by omega, show ((first + (2 * root + 1) : Nat) : Int) = (first : Int) + (2 * (root : Int) + 1) by omega] at cL2
        rw [← hb2] at HS
        clear hb2 HO HK
        cases b2 with
        | true =>
          have HS2 : Hid (siftDown S.lt hi first (2 * root + 1) (swp dk (first + root) (first + (2 * root + 1))) = R) := Lib.hid (by rw [HS.out]; rfl)
          clear HS
          go_wp2_with (first | (go_at_call 75; (with_reducible refine cL2.out.mono ?_); rintro e w2 ⟨rfl, hF2⟩; have y1 := hF2.x1; unfold swapV at y1; have hsw := At.run HC.out hF2.at' (i := first + root) (j := first + (2 * root + 1)) (by omega) (by omega); rw [show ((first + root : Nat) : Int) = (first : Int) + (root : Int) by omega, show ((first + (2 * root + 1) : Nat) : Int) = (first : Int) + (2 * (root : Int) + 1) by omega] at hsw; have HF3 := Lib.hid (hF2.swap HC.out (i := first + root) (j := first + (2 * root + 1)) (by omega) (by omega)); clear hF2 cL2))
          go_roundw
          case rel => exact ⟨2 * root + 1, _, by go_num, by omega, HF3, HS2⟩
          case measure => simp [intOf]; omega
        | false =>
          have HE : Hid (R = dk) := Lib.hid (by rw [HS.out]; rfl)
          clear HS
          go_wp2_with (first | (go_at_call 75; (with_reducible refine cL2.out.mono ?_); rintro e w2 ⟨rfl, hF2⟩; have HF3 := Lib.hid hF2; clear hF2 cL2))
          (try simp only [Exit.inBlock, Exit.then])
          refine bodyPost_ret (results_none rfl _ _ _) rfl ?_
          exact ⟨rfl, by rw [HE.out]; exact HF3.out.end⟩
    · have HE : Hid (Aft S R w wr) := Lib.hid (by rw [← HO.out, siftDown_end (by omega)]; exact HF.out.end)
      go_wp2_with fail
      go_end0
      exact ⟨rfl, HE.out⟩
end Sq
end Mt
end Go.Proofs.Ytkejjiohkhlnnaa

namespace Go.Proofs.Ytkejjiohkhlnnaa
open Go.RowKit Go.Lib
namespace Mt
namespace Sq
open Go.Sort (swp siftDown heapBuild heapPop heapSort)
variable {α : Type} [Inhabited α]

theorem siftDown_size (lt : α → α → Bool) (hi first : Nat) : ∀ (k root : Nat) (d : Array α), hi - root ≤ k → (siftDown lt hi first root d).size = d.size := by
  intro k
  induction k with
  | zero => intro root d h; rw [siftDown_end (by omega)]
  | succ k ih =>
    intro root d h
    by_cases h1 : 2 * root + 1 < hi
    · rw [siftDown_at h1]
      have hk : root < kid lt hi first root d := by unfold kid; split <;> omega
      split
      · rw [ih _ _ (by omega)]; simp [swp]
      · rfl
    · rw [siftDown_end (by omega)]
theorem heapBuild_at {lt : α → α → Bool} {hi first k : Nat} {d : Array α} : heapBuild lt hi first (k + 1) d = heapBuild lt hi first k (siftDown lt hi first k d) := rfl
theorem heapPop_at {lt : α → α → Bool} {first k : Nat} {d : Array α} : heapPop lt first (k + 1) d = heapPop lt first k (siftDown lt k first 0 (swp d first (first + k))) := rfl
set_option maxHeartbeats 4000000 in
set_option maxRecDepth 100000 in
theorem heap_any {S : SortD α} (C : SortIn S) (a b : Nat) (d : Array α) (w : World) (h : At S d w) (hab : a < b) (hb : b ≤ S.n) :
    Calls Try.prog 104 #[.agg #[lessV S, swapV S], .int .i64 a, .int .i64 b] w fun e w' => e = .returned (.tuple #[]) ∧ Aft S (heapSort S.lt d a b) w w' := by
  obtain ⟨rb, hrb⟩ : ∃ r, r = w.heap.size := ⟨_, rfl⟩
  have F0 := Fr.start h
  rw [← hrb] at F0
  have HC := Lib.hid C
  have hn := C.small
  unfold lessV swapV at *
  obtain ⟨W0, hW0⟩ : ∃ V, V = w.alloc (.cells #[.func (.func 75) #[] #[S.l0, S.l1], .func (.func 100) #[] #[.slice (some ⟨S.blk, 0, none⟩) S.n S.c, S.th]] 155) := ⟨_, rfl⟩
  rw [← hW0] at F0
  have HF0 := Lib.hid F0
  have HW0 := Lib.hid hW0
  have Hrb := Lib.hid hrb
  obtain ⟨R, hR⟩ : ∃ R, R = heapSort S.lt d a b := ⟨_, rfl⟩
  rw [← hR]
  have HR : Hid (heapPop S.lt a (b - a) (heapBuild S.lt (b - a) a ((b - a - 1) / 2 + 1) d) = R) := Lib.hid hR.symm
  clear hR
  have cS := fun (lo hi : Nat) (dk : Array α) (W : World) (hA : At S dk W) (h1 : a + hi ≤ S.n) (h2 : lo ≤ S.n) => Lib.hid (sift_any HC.out lo hi a dk W hA h1 h2)
  unfold lessV swapV at cS
  obtain ⟨L, hL⟩ : ∃ L, L = b - a := ⟨_, rfl⟩
  rw [← hL] at HR
  have hLi : (b : Int) - (a : Int) = (L : Int) := by omega
  have hL1 : 0 < L := by omega
  have hLn : a + L ≤ S.n := by omega
  clear hL
  clear hW0 hrb F0 h C
  go_enter Try.func104, Try.ntmps104
  go_upto_region 1 with fail
  rw [← HW0.out, ← Hrb.out]
  go_wp2_with fail
  go_loopw [9] (fun t wr => ∃ (k : Nat) (dk : Array α), t = .int .i64 ((k : Int) - 1) ∧ k ≤ (L - 1) / 2 + 1 ∧ Hid (Fr S rb w dk wr) ∧ Hid (heapPop S.lt a L (heapBuild S.lt L a k dk) = R)) (fun t _ => (intOf t + 1).toNat)
  case atStart => exact ⟨(L - 1) / 2 + 1, d, by first | go_num | (congr 1; omega), Nat.le_refl _, HF0, HR⟩
  case round =>
    clear HF0 HR
    obtain ⟨k, dk, rfl, hk, HF, HO⟩ := hrel
    have x0 := HF.out.x0
    have x1 := HF.out.x1
    unfold lessV at x0
    unfold swapV at x1
    cases k with
    | succ k =>
      have hki : ((k + 1 : Nat) : Int) - 1 = (k : Int) := by omega
      rw [hki]
      have cS1 := cS k L dk wr HF.out.at' hLn (by omega)
      go_wp2_with (first | (go_at_call 111; (with_reducible refine cS1.out.mono ?_); rintro e w1 ⟨rfl, hA1⟩; have HF1 := Lib.hid (HF.out.aft HC.out hA1); clear hA1 HF))
      go_roundw
      case rel => exact ⟨k, _, by go_num, by omega, HF1, HO⟩
      case measure => simp [intOf]
    | zero =>
      rw [show ((0 : Nat) : Int) - 1 = -1 from rfl]
      clear x0 x1
      have HO2 : Hid (heapPop S.lt a L dk = R) := HO
      clear HO hk
      go_wp2_with fail
      go_loopw [10] (fun t wr => ∃ (k : Nat) (dk : Array α), t = .int .i64 ((k : Int) - 1) ∧ k ≤ L ∧ Hid (Fr S rb w dk wr) ∧ Hid (heapPop S.lt a k dk = R)) (fun t _ => (intOf t + 1).toNat)
      case atStart => exact ⟨L, dk, by first | go_num | (congr 1; omega), Nat.le_refl _, HF, HO2⟩
      case round =>
        clear HF HO2
        obtain ⟨k, dk, rfl, hk, HF, HO⟩ := hrel
        have x0 := HF.out.x0
        have x1 := HF.out.x1
        unfold lessV at x0
        unfold swapV at x1
        cases k with
        | succ k =>
          have hki : ((k + 1 : Nat) : Int) - 1 = (k : Int) := by omega
          rw [hki]
          have hsw := At.run HC.out HF.out.at' (i := a) (j := a + k) (by omega) (by omega)
          rw [show ((a + k : Nat) : Int) = (a : Int) + (k : Int) by omega] at hsw
          have HF1 := Lib.hid (HF.out.swap HC.out (i := a) (j := a + k) (by omega) (by omega))
          have z0 := HF1.out.x0
          have z1 := HF1.out.x1
          unfold lessV at z0
          unfold swapV at z1
          have cS1 := cS 0 k _ _ HF1.out.at' (by omega) (by omega)
          rw [show ((0 : Nat) : Int) = 0 from rfl] at cS1
          go_wp2_with (first | (go_at_call 111; (with_reducible refine cS1.out.mono ?_); rintro e w1 ⟨rfl, hA1⟩; have HF2 := Lib.hid (HF1.out.aft HC.out hA1); clear hA1 HF HF1 z0 z1 x0 x1 hsw cS1))
          go_roundw
          case rel => exact ⟨k, _, by go_num, by omega, HF2, HO⟩
          case measure => simp [intOf]
        | zero =>
          rw [show ((0 : Nat) : Int) - 1 = -1 from rfl]
          clear x0 x1
          have HE : Hid (Aft S R w wr) := Lib.hid (by rw [← HO.out]; exact HF.out.end)
          go_wp2_with fail
          go_end0
          exact ⟨rfl, HE.out⟩
end Sq
end Mt
end Go.Proofs.Ytkejjiohkhlnnaa

namespace Go.Proofs.Ytkejjiohkhlnnaa
open Go.RowKit Go.Lib
namespace Mt
namespace Sq
open Go.Sort (swp scanUp scanDown partLoop partEqLoop)
variable {α : Type} [Inhabited α]

theorem scanUp_at {p : α → Bool} {d : Array α} {j i : Nat} (h : i ≤ j) : scanUp p d j i = if p d[i]! = true then scanUp p d j (i + 1) else i := by
  rw [scanUp]
  simp only [h, decide_true, Bool.true_and]
theorem scanUp_end {p : α → Bool} {d : Array α} {j i : Nat} (h : ¬ i ≤ j) : scanUp p d j i = i := by
  rw [scanUp, if_neg (by simp [h])]
theorem scanDown_at {p : α → Bool} {d : Array α} {i j : Nat} (h : i ≤ j) (h1 : 1 ≤ i) : scanDown p d i j = if p d[j]! = true then scanDown p d i (j - 1) else j := by
  obtain ⟨k, rfl⟩ : ∃ k, j = k + 1 := ⟨j - 1, by omega⟩
  rw [scanDown]
  simp only [h, decide_true, Bool.true_and, Nat.add_sub_cancel]
theorem scanDown_end {p : α → Bool} {d : Array α} {i j : Nat} (h : ¬ i ≤ j) : scanDown p d i j = j := by
  cases j with
  | zero => rfl
  | succ k => rw [scanDown, if_neg (by simp; omega)]
theorem partLoop_end {lt : α → α → Bool} {a i j i2 j2 : Nat} {d : Array α} (h1 : i2 = scanUp (fun x => lt x d[a]!) d j i) (h2 : j2 = scanDown (fun x => !lt x d[a]!) d i2 j) (h : i2 > j2) : partLoop lt a i j d = (j2, d) := by
  subst h1
  subst h2
  rw [partLoop]
  exact if_pos h
theorem partLoop_at {lt : α → α → Bool} {a i j i2 j2 : Nat} {d : Array α} (h1 : i2 = scanUp (fun x => lt x d[a]!) d j i) (h2 : j2 = scanDown (fun x => !lt x d[a]!) d i2 j) (h : ¬ i2 > j2) (hi : i ≤ i2) (hj : j2 ≤ j) :
    partLoop lt a i j d = partLoop lt a (i2 + 1) (j2 - 1) (swp d i2 j2) := by
  subst h1
  subst h2
  conv => lhs; rw [partLoop]
  rw [if_neg h, dif_pos (by omega)]
theorem partEqLoop_end {lt : α → α → Bool} {a i j i2 j2 : Nat} {d : Array α} (h1 : i2 = scanUp (fun x => !lt d[a]! x) d j i) (h2 : j2 = scanDown (fun x => lt d[a]! x) d i2 j) (h : i2 > j2) : partEqLoop lt a i j d = (i2, d) := by
  subst h1
  subst h2
  rw [partEqLoop]
  exact if_pos h
theorem partEqLoop_at {lt : α → α → Bool} {a i j i2 j2 : Nat} {d : Array α} (h1 : i2 = scanUp (fun x => !lt d[a]! x) d j i) (h2 : j2 = scanDown (fun x => lt d[a]! x) d i2 j) (h : ¬ i2 > j2) (hi : i ≤ i2) (hj : j2 ≤ j) :
    partEqLoop lt a i j d = partEqLoop lt a (i2 + 1) (j2 - 1) (swp d i2 j2) := by
  subst h1
  subst h2
  conv => lhs; rw [partEqLoop]
  rw [if_neg h, dif_pos (by omega)]
end Sq
end Mt
end Go.Proofs.Ytkejjiohkhlnnaa

namespace Go.Proofs.Ytkejjiohkhlnnaa
open Go.RowKit Go.Lib
namespace Mt
namespace Sq
open Go.Sort (swp scanUp scanDown partLoop partition)
variable {α : Type} [Inhabited α]

theorem partition_one {lt : α → α → Bool} {d d1 : Array α} {a b pivot i j : Nat} (hd : d1 = swp d a pivot) (hi : i = scanUp (fun x => lt x d1[a]!) d1 (b - 1) (a + 1)) (hj : j = scanDown (fun x => !lt x d1[a]!) d1 i (b - 1)) :
    partition lt d a b pivot = if i > j then (j, true, swp d1 j a) else ((partLoop lt a (i + 1) (j - 1) (swp d1 i j)).1, false, swp (partLoop lt a (i + 1) (j - 1) (swp d1 i j)).2 (partLoop lt a (i + 1) (j - 1) (swp d1 i j)).1 a) := by
  subst hd
  subst hi
  subst hj
  rfl
/-- what partition_func leaves -/
def PartEnd (S : SortD α) (r : Nat × Bool × Array α) (w : World) (e : Ending) (w' : World) : Prop := e = .returned (.tuple #[.int .i64 r.1, .bool r.2.1]) ∧ Aft S r.2.2 w w'
set_option maxHeartbeats 8000000 in
set_option maxRecDepth 100000 in
theorem part_any {S : SortD α} (C : SortIn S) (a b pivot : Nat) (d : Array α) (w : World) (h : At S d w) (hab : a < b) (hp : pivot < b) (hb : b ≤ S.n) :
    Calls Try.prog 110 #[.agg #[lessV S, swapV S], .int .i64 a, .int .i64 b, .int .i64 pivot] w (PartEnd S (partition S.lt d a b pivot) w) := by
  obtain ⟨rb, hrb⟩ : ∃ r, r = w.heap.size := ⟨_, rfl⟩
  have F0 := Fr.start h
  rw [← hrb] at F0
  have HC := Lib.hid C
  have hn := C.small
  unfold lessV swapV at *
  obtain ⟨W0, hW0⟩ : ∃ V, V = w.alloc (.cells #[.func (.func 75) #[] #[S.l0, S.l1], .func (.func 100) #[] #[.slice (some ⟨S.blk, 0, none⟩) S.n S.c, S.th]] 155) := ⟨_, rfl⟩
  rw [← hW0] at F0
  have HF0 := Lib.hid F0
  have HW0 := Lib.hid hW0
  have Hrb := Lib.hid hrb
  obtain ⟨R, hR⟩ : ∃ R, R = partition S.lt d a b pivot := ⟨_, rfl⟩
  rw [← hR]
  obtain ⟨d1, hd1⟩ : ∃ x, x = swp d a pivot := ⟨_, rfl⟩
  have HR : Hid (∀ i j, i = scanUp (fun x => S.lt x d1[a]!) d1 (b - 1) (a + 1) → j = scanDown (fun x => !S.lt x d1[a]!) d1 i (b - 1) → R = if i > j then (j, true, swp d1 j a) else ((partLoop S.lt a (i + 1) (j - 1) (swp d1 i j)).1, false, swp (partLoop S.lt a (i + 1) (j - 1) (swp d1 i j)).2 (partLoop S.lt a (i + 1) (j - 1) (swp d1 i j)).1 a)) := Lib.hid (fun i j hi hj => by rw [hR]; exact partition_one hd1 hi hj)
  obtain ⟨jb, hjb⟩ : ∃ x, x = b - 1 := ⟨_, rfl⟩
  rw [← hjb] at HR
  have hjbi : (b : Int) - 1 = (jb : Int) := by omega
  have hjn : jb < S.n := by omega
  have hja : a ≤ jb := by omega
  clear hR hjb
  clear hW0 hrb F0 h C
  go_enter Try.func110, Try.ntmps110
  go_upto_region 1 with fail
  rw [← HW0.out, ← Hrb.out]
  have x1 := HF0.out.x1
  unfold swapV at x1
  have hsw := At.run HC.out HF0.out.at' (i := a) (j := pivot) (by omega) (by omega)
  have HF1 := Lib.hid (HF0.out.swap HC.out (i := a) (j := pivot) (by omega) (by omega))
  rw [← hd1] at HF1
  clear HF0 hd1
  go_upto_region 2 with fail
  clear x1 hsw
  generalize hw1 : ((W0.setCell _ _).setCell _ _) = w1 at *
  clear hw1
  go_upto_block 0 with fail
  go_cut [10] (fun t wc => ∃ k : Nat, t = .int .i64 k ∧ k = scanUp (fun x => S.lt x d1[a]!) d1 jb (a + 1) ∧ (a + 1) ≤ k ∧ (k = (a + 1) ∨ k ≤ jb + 1) ∧ Hid (Fr S rb w d1 wc))
  case first =>
    obtain ⟨R1, hR1⟩ : ∃ r, r = scanUp (fun x => S.lt x d1[a]!) d1 jb (a + 1) := ⟨_, rfl⟩
    have HR1 := Lib.hid hR1
    clear hR1
    go_wp2_with fail
    go_loopw [10] (fun t wr => ∃ k : Nat, t = .int .i64 k ∧ (a + 1) ≤ k ∧ (k = (a + 1) ∨ k ≤ jb + 1) ∧ Hid (Fr S rb w d1 wr) ∧ Hid (scanUp (fun x => S.lt x d1[a]!) d1 jb k = R1)) (fun t _ => jb + 2 - (intOf t).toNat)
    case atStart => exact ⟨(a + 1), by go_num, Nat.le_refl _, .inl rfl, HF1, Lib.hid HR1.out.symm⟩
    case round =>
      clear HF1
      obtain ⟨k, rfl, hk1, hk2, HFk, HOk⟩ := hrel
      have x0 := HFk.out.x0
      unfold lessV at x0
      by_cases hkc : k ≤ jb
      · obtain ⟨b1, hb1⟩ : ∃ x, x = S.lt d1[k]! d1[a]! := ⟨_, rfl⟩
        have cL := Lib.hid (HFk.out.less HC.out k a (by omega) (by omega))
        rw [← hb1] at cL
        have HS : Hid (R1 = if (b1) = true then scanUp (fun x => S.lt x d1[a]!) d1 jb (k + 1) else k) := Lib.hid (by rw [← HOk.out, scanUp_at hkc, hb1])
        clear hb1 HOk
        cases b1 with
        | true =>
          have HS2 : Hid (scanUp (fun x => S.lt x d1[a]!) d1 jb (k + 1) = R1) := Lib.hid (by rw [HS.out]; rfl)
          clear HS
          go_wp2_with (first | (go_at_call 75; (with_reducible refine cL.out.mono ?_); rintro e w1 ⟨rfl, hF1⟩; have HF1 := Lib.hid hF1; clear hF1 cL HFk x0))
          go_roundw
          case rel => exact ⟨k + 1, by go_num, by omega, by omega, HF1, HS2⟩
          case measure => simp [intOf]; omega
        | false =>
          have HS2 : Hid (k = R1) := Lib.hid (by rw [HS.out]; rfl)
          clear HS
          go_wp2_with (first | (go_at_call 75; (with_reducible refine cL.out.mono ?_); rintro e w1 ⟨rfl, hF1⟩; have HF1 := Lib.hid hF1; clear hF1 cL HFk x0))
          go_meet
          case rel => exact ⟨k, rfl, by rw [HS2.out, HR1.out], by omega, by omega, HF1⟩
      · have HS2 : Hid (k = R1) := Lib.hid (by rw [← HOk.out, scanUp_end hkc])
        clear HOk x0
        go_wp2_with fail
        go_meet
        case rel => exact ⟨k, rfl, by rw [HS2.out, HR1.out], by omega, by omega, HFk⟩
  case rest =>
    obtain ⟨i1, rfl, hi1, hi2, hi3, HF2⟩ := hcut
    have Hi1 := Lib.hid hi1
    clear hi1 HF1
    go_upto_block 2 with fail
    go_cut [11] (fun t wc => ∃ k : Nat, t = .int .i64 k ∧ k = scanDown (fun x => !S.lt x d1[a]!) d1 i1 jb ∧ k ≤ jb ∧ a ≤ k ∧ Hid (Fr S rb w d1 wc))
    case first =>
      obtain ⟨R4, hR4⟩ : ∃ r, r = scanDown (fun x => !S.lt x d1[a]!) d1 i1 jb := ⟨_, rfl⟩
      have HR4 := Lib.hid hR4
      clear hR4
      go_wp2_with fail
      go_loopw [11] (fun t wr => ∃ k : Nat, t = .int .i64 k ∧ k ≤ jb ∧ a ≤ k ∧ Hid (Fr S rb w d1 wr) ∧ Hid (scanDown (fun x => !S.lt x d1[a]!) d1 i1 k = R4)) (fun t _ => (intOf t).toNat)
      case atStart => exact ⟨jb, by go_num, Nat.le_refl _, by omega, HF2, Lib.hid HR4.out.symm⟩
      case round =>
        clear HF2
        obtain ⟨k, rfl, hk1, hk2, HFk, HOk⟩ := hrel
        have x0 := HFk.out.x0
        unfold lessV at x0
        by_cases hkc : i1 ≤ k
        · obtain ⟨b1, hb1⟩ : ∃ x, x = S.lt d1[k]! d1[a]! := ⟨_, rfl⟩
          have cL := Lib.hid (HFk.out.less HC.out k a (by omega) (by omega))
          rw [← hb1] at cL
          have HS : Hid (R4 = if (!b1) = true then scanDown (fun x => !S.lt x d1[a]!) d1 i1 (k - 1) else k) := Lib.hid (by rw [← HOk.out, scanDown_at hkc (by omega), hb1])
          clear hb1 HOk
          cases b1 with
          | false =>
            have HS2 : Hid (scanDown (fun x => !S.lt x d1[a]!) d1 i1 (k - 1) = R4) := Lib.hid (by rw [HS.out]; rfl)
            clear HS
            go_wp2_with (first | (go_at_call 75; (with_reducible refine cL.out.mono ?_); rintro e w1 ⟨rfl, hF1⟩; have HF1 := Lib.hid hF1; clear hF1 cL HFk x0))
            go_roundw
            case rel => exact ⟨k - 1, by go_num, by omega, by omega, HF1, HS2⟩
            case measure => simp [intOf]; omega
          | true =>
            have HS2 : Hid (k = R4) := Lib.hid (by rw [HS.out]; rfl)
            clear HS
            go_wp2_with (first | (go_at_call 75; (with_reducible refine cL.out.mono ?_); rintro e w1 ⟨rfl, hF1⟩; have HF1 := Lib.hid hF1; clear hF1 cL HFk x0))
            go_meet
            case rel => exact ⟨k, rfl, by rw [HS2.out, HR4.out], by omega, by omega, HF1⟩
        · have HS2 : Hid (k = R4) := Lib.hid (by rw [← HOk.out, scanDown_end hkc])
          clear HOk x0
          go_wp2_with fail
          go_meet
          case rel => exact ⟨k, rfl, by rw [HS2.out, HR4.out], by omega, by omega, HFk⟩
    case rest =>
      obtain ⟨j1, rfl, hj1, hj2, hj3, HF3⟩ := hcut
      have HRx := Lib.hid (HR.out i1 j1 Hi1.out hj1)
      clear HF2 HR Hi1 hj1
      by_cases hij : i1 > j1
      · have HE : Hid (R = (j1, true, swp d1 j1 a)) := Lib.hid (by rw [HRx.out, if_pos hij])
        clear HRx
        have x1 := HF3.out.x1
        unfold swapV at x1
        have hsw := At.run HC.out HF3.out.at' (i := j1) (j := a) (by omega) (by omega)
        have HF4 := Lib.hid (HF3.out.swap HC.out (i := j1) (j := a) (by omega) (by omega))
        clear HF3
        go_wp2_with fail
        go_ret2
        exact ⟨by rw [HE.out]; rfl, by rw [HE.out]; exact HF4.out.end⟩
      · obtain ⟨RP, hRP⟩ : ∃ r, r = partLoop S.lt a (i1 + 1) (j1 - 1) (swp d1 i1 j1) := ⟨_, rfl⟩
        have HRPe := Lib.hid hRP
        have HRP : Hid (R = (RP.1, false, swp RP.2 RP.1 a)) := Lib.hid (by rw [HRx.out, if_neg hij, hRP])
        clear HRx hRP
        have x1 := HF3.out.x1
        unfold swapV at x1
        have hsw := At.run HC.out HF3.out.at' (i := i1) (j := j1) (by omega) (by omega)
        have HF4 := Lib.hid (HF3.out.swap HC.out (i := i1) (j := j1) (by omega) (by omega))
        clear HF3
        go_wp2_with fail
        clear x1 hsw
        go_loopw [10, 11] (fun t u wr => ∃ (i j : Nat) (dk : Array α), t = .int .i64 i ∧ u = .int .i64 j ∧ a + 1 ≤ i ∧ i ≤ jb + 2 ∧ a ≤ j ∧ j ≤ jb ∧ Hid (Fr S rb w dk wr) ∧ Hid (partLoop S.lt a i j dk = RP)) (fun _ u _ => (intOf u).toNat)
        case atStart => exact ⟨i1 + 1, j1 - 1, _, by go_num, by go_num, by omega, by omega, by omega, by omega, HF4, Lib.hid HRPe.out.symm⟩
        case round =>
          clear HF4
          obtain ⟨i, j, dk, rfl, rfl, hia, hib, hja2, hjb2, HFL, HOL⟩ := hrel
          go_upto_block 6 with fail
          go_cut [10] (fun t wc => ∃ k : Nat, t = .int .i64 k ∧ k = scanUp (fun x => S.lt x dk[a]!) dk j i ∧ i ≤ k ∧ (k = i ∨ k ≤ j + 1) ∧ Hid (Fr S rb w dk wc))
          case first =>
            obtain ⟨R2, hR2⟩ : ∃ r, r = scanUp (fun x => S.lt x dk[a]!) dk j i := ⟨_, rfl⟩
            have HR2 := Lib.hid hR2
            clear hR2
            go_wp2_with fail
            go_loopw [10] (fun t wr => ∃ k : Nat, t = .int .i64 k ∧ i ≤ k ∧ (k = i ∨ k ≤ j + 1) ∧ Hid (Fr S rb w dk wr) ∧ Hid (scanUp (fun x => S.lt x dk[a]!) dk j k = R2)) (fun t _ => j + 2 - (intOf t).toNat)
            case atStart => exact ⟨i, by go_num, Nat.le_refl _, .inl rfl, HFL, Lib.hid HR2.out.symm⟩
            case round =>
              clear HFL
              obtain ⟨k, rfl, hk1, hk2, HFk, HOk⟩ := hrel
              have x0 := HFk.out.x0
              unfold lessV at x0
              by_cases hkc : k ≤ j
              · obtain ⟨b1, hb1⟩ : ∃ x, x = S.lt dk[k]! dk[a]! := ⟨_, rfl⟩
                have cL := Lib.hid (HFk.out.less HC.out k a (by omega) (by omega))
                rw [← hb1] at cL
                have HS : Hid (R2 = if (b1) = true then scanUp (fun x => S.lt x dk[a]!) dk j (k + 1) else k) := Lib.hid (by rw [← HOk.out, scanUp_at hkc, hb1])
                clear hb1 HOk
                cases b1 with
                | true =>
                  have HS2 : Hid (scanUp (fun x => S.lt x dk[a]!) dk j (k + 1) = R2) := Lib.hid (by rw [HS.out]; rfl)
                  clear HS
                  go_wp2_with (first | (go_at_call 75; (with_reducible refine cL.out.mono ?_); rintro e w1 ⟨rfl, hF1⟩; have HF1 := Lib.hid hF1; clear hF1 cL HFk x0))
                  go_roundw
                  case rel => exact ⟨k + 1, by go_num, by omega, by omega, HF1, HS2⟩
                  case measure => simp [intOf]; omega
                | false =>
                  have HS2 : Hid (k = R2) := Lib.hid (by rw [HS.out]; rfl)
                  clear HS
                  go_wp2_with (first | (go_at_call 75; (with_reducible refine cL.out.mono ?_); rintro e w1 ⟨rfl, hF1⟩; have HF1 := Lib.hid hF1; clear hF1 cL HFk x0))
                  go_meet
                  case rel => exact ⟨k, rfl, by rw [HS2.out, HR2.out], by omega, by omega, HF1⟩
              · have HS2 : Hid (k = R2) := Lib.hid (by rw [← HOk.out, scanUp_end hkc])
                clear HOk x0
                go_wp2_with fail
                go_meet
                case rel => exact ⟨k, rfl, by rw [HS2.out, HR2.out], by omega, by omega, HFk⟩
          case rest =>
            obtain ⟨i2, rfl, hi1, hi2, hi3, HF5⟩ := hcut
            have Hi2 := Lib.hid hi1
            clear hi1 HFL
            go_upto_block 8 with fail
            go_cut [11] (fun t wc => ∃ k : Nat, t = .int .i64 k ∧ k = scanDown (fun x => !S.lt x dk[a]!) dk i2 j ∧ k ≤ j ∧ a ≤ k ∧ Hid (Fr S rb w dk wc))
            case first =>
              obtain ⟨R3, hR3⟩ : ∃ r, r = scanDown (fun x => !S.lt x dk[a]!) dk i2 j := ⟨_, rfl⟩
              have HR3 := Lib.hid hR3
              clear hR3
              go_wp2_with fail
              go_loopw [11] (fun t wr => ∃ k : Nat, t = .int .i64 k ∧ k ≤ j ∧ a ≤ k ∧ Hid (Fr S rb w dk wr) ∧ Hid (scanDown (fun x => !S.lt x dk[a]!) dk i2 k = R3)) (fun t _ => (intOf t).toNat)
              case atStart => exact ⟨j, by go_num, Nat.le_refl _, by omega, HF5, Lib.hid HR3.out.symm⟩
              case round =>
                clear HF5
                obtain ⟨k, rfl, hk1, hk2, HFk, HOk⟩ := hrel
                have x0 := HFk.out.x0
                unfold lessV at x0
                by_cases hkc : i2 ≤ k
                · obtain ⟨b1, hb1⟩ : ∃ x, x = S.lt dk[k]! dk[a]! := ⟨_, rfl⟩
                  have cL := Lib.hid (HFk.out.less HC.out k a (by omega) (by omega))
                  rw [← hb1] at cL
                  have HS : Hid (R3 = if (!b1) = true then scanDown (fun x => !S.lt x dk[a]!) dk i2 (k - 1) else k) := Lib.hid (by rw [← HOk.out, scanDown_at hkc (by omega), hb1])
                  clear hb1 HOk
                  cases b1 with
                  | false =>
                    have HS2 : Hid (scanDown (fun x => !S.lt x dk[a]!) dk i2 (k - 1) = R3) := Lib.hid (by rw [HS.out]; rfl)
                    clear HS
                    go_wp2_with (first | (go_at_call 75; (with_reducible refine cL.out.mono ?_); rintro e w1 ⟨rfl, hF1⟩; have HF1 := Lib.hid hF1; clear hF1 cL HFk x0))
                    go_roundw
                    case rel => exact ⟨k - 1, by go_num, by omega, by omega, HF1, HS2⟩
                    case measure => simp [intOf]; omega
                  | true =>
                    have HS2 : Hid (k = R3) := Lib.hid (by rw [HS.out]; rfl)
                    clear HS
                    go_wp2_with (first | (go_at_call 75; (with_reducible refine cL.out.mono ?_); rintro e w1 ⟨rfl, hF1⟩; have HF1 := Lib.hid hF1; clear hF1 cL HFk x0))
                    go_meet
                    case rel => exact ⟨k, rfl, by rw [HS2.out, HR3.out], by omega, by omega, HF1⟩
                · have HS2 : Hid (k = R3) := Lib.hid (by rw [← HOk.out, scanDown_end hkc])
                  clear HOk x0
                  go_wp2_with fail
                  go_meet
                  case rel => exact ⟨k, rfl, by rw [HS2.out, HR3.out], by omega, by omega, HFk⟩
            case rest =>
              obtain ⟨j2, rfl, hj1, hj2, hj3, HF6⟩ := hcut
              clear HF5
              by_cases hij : i2 > j2
              · have HE : Hid (R = (j2, false, swp dk j2 a)) := Lib.hid (by rw [HRP.out, ← HOL.out, partLoop_end Hi2.out hj1 hij])
                clear hj1 HOL HRP Hi2
                have x1 := HF6.out.x1
                unfold swapV at x1
                have hsw := At.run HC.out HF6.out.at' (i := j2) (j := a) (by omega) (by omega)
                have HF7 := Lib.hid (HF6.out.swap HC.out (i := j2) (j := a) (by omega) (by omega))
                clear HF6
                go_wp2_with fail
                go_ret2
                exact ⟨by rw [HE.out]; rfl, by rw [HE.out]; exact HF7.out.end⟩
              · have HE : Hid (partLoop S.lt a (i2 + 1) (j2 - 1) (swp dk i2 j2) = RP) := Lib.hid (by rw [← HOL.out, partLoop_at Hi2.out hj1 hij (by omega) hj2])
                clear hj1 HOL Hi2
                have x1 := HF6.out.x1
                unfold swapV at x1
                have hsw := At.run HC.out HF6.out.at' (i := i2) (j := j2) (by omega) (by omega)
                have HF7 := Lib.hid (HF6.out.swap HC.out (i := i2) (j := j2) (by omega) (by omega))
                clear HF6
                go_wp2_with fail
                go_roundw
                case rel => exact ⟨i2 + 1, j2 - 1, _, by go_num, by go_num, by omega, by omega, by omega, by omega, HF7, HE⟩
                case measure => simp [intOf]; omega
end Sq
end Mt
end Go.Proofs.Ytkejjiohkhlnnaa

namespace Go.Proofs.Ytkejjiohkhlnnaa
open Go.RowKit Go.Lib
namespace Mt
namespace Sq
open Go.Sort (swp scanUp scanDown partEqLoop partitionEqual)
variable {α : Type} [Inhabited α]

/-- what partitionEqual_func leaves -/
def PartEqEnd (S : SortD α) (r : Nat × Array α) (w : World) (e : Ending) (w' : World) : Prop := e = .returned (.int .i64 r.1) ∧ Aft S r.2 w w'
set_option maxHeartbeats 8000000 in
set_option maxRecDepth 100000 in
theorem partEq_any {S : SortD α} (C : SortIn S) (a b pivot : Nat) (d : Array α) (w : World) (h : At S d w) (hab : a < b) (hp : pivot < b) (hb : b ≤ S.n) :
    Calls Try.prog 109 #[.agg #[lessV S, swapV S], .int .i64 a, .int .i64 b, .int .i64 pivot] w (PartEqEnd S (partitionEqual S.lt d a b pivot) w) := by
  obtain ⟨rb, hrb⟩ : ∃ r, r = w.heap.size := ⟨_, rfl⟩
  have F0 := Fr.start h
  rw [← hrb] at F0
  have HC := Lib.hid C
  have hn := C.small
  unfold lessV swapV at *
  obtain ⟨W0, hW0⟩ : ∃ V, V = w.alloc (.cells #[.func (.func 75) #[] #[S.l0, S.l1], .func (.func 100) #[] #[.slice (some ⟨S.blk, 0, none⟩) S.n S.c, S.th]] 155) := ⟨_, rfl⟩
  rw [← hW0] at F0
  have HF0 := Lib.hid F0
  have HW0 := Lib.hid hW0
  have Hrb := Lib.hid hrb
  obtain ⟨R, hR⟩ : ∃ R, R = partitionEqual S.lt d a b pivot := ⟨_, rfl⟩
  rw [← hR]
  obtain ⟨d1, hd1⟩ : ∃ x, x = swp d a pivot := ⟨_, rfl⟩
  obtain ⟨jb, hjb⟩ : ∃ x, x = b - 1 := ⟨_, rfl⟩
  have HR : Hid (partEqLoop S.lt a (a + 1) jb d1 = R) := Lib.hid (by rw [hR, hd1, hjb]; rfl)
  have hjbi : (b : Int) - 1 = (jb : Int) := by omega
  have hjn : jb < S.n := by omega
  have hja : a ≤ jb := by omega
  clear hR hjb
  clear hW0 hrb F0 h C
  go_enter Try.func109, Try.ntmps109
  go_upto_region 1 with fail
  rw [← HW0.out, ← Hrb.out]
  have x1 := HF0.out.x1
  unfold swapV at x1
  have hsw := At.run HC.out HF0.out.at' (i := a) (j := pivot) (by omega) (by omega)
  have HF1 := Lib.hid (HF0.out.swap HC.out (i := a) (j := pivot) (by omega) (by omega))
  rw [← hd1] at HF1
  clear HF0 hd1
  go_upto_region 2 with fail
  clear x1 hsw
  generalize hw1 : ((W0.setCell _ _).setCell _ _) = w1 at *
  clear hw1
  go_wp2_with fail
  go_loopw [9, 10] (fun t u wr => ∃ (i j : Nat) (dk : Array α), t = .int .i64 i ∧ u = .int .i64 j ∧ a + 1 ≤ i ∧ i ≤ jb + 2 ∧ a ≤ j ∧ j ≤ jb ∧ Hid (Fr S rb w dk wr) ∧ Hid (partEqLoop S.lt a i j dk = R)) (fun _ u _ => (intOf u).toNat)
  case atStart => exact ⟨a + 1, jb, _, by go_num, by go_num, by omega, by omega, by omega, by omega, HF1, HR⟩
  case round =>
    clear HF1 HR
    obtain ⟨i, j, dk, rfl, rfl, hia, hib, hja2, hjb2, HFL, HOL⟩ := hrel
    go_upto_block 2 with fail
    go_cut [9] (fun t wc => ∃ k : Nat, t = .int .i64 k ∧ k = scanUp (fun x => !S.lt dk[a]! x) dk j i ∧ i ≤ k ∧ (k = i ∨ k ≤ j + 1) ∧ Hid (Fr S rb w dk wc))
    case first =>
      obtain ⟨R2, hR2⟩ : ∃ r, r = scanUp (fun x => !S.lt dk[a]! x) dk j i := ⟨_, rfl⟩
      have HR2 := Lib.hid hR2
      clear hR2
      go_wp2_with fail
      go_loopw [9] (fun t wr => ∃ k : Nat, t = .int .i64 k ∧ i ≤ k ∧ (k = i ∨ k ≤ j + 1) ∧ Hid (Fr S rb w dk wr) ∧ Hid (scanUp (fun x => !S.lt dk[a]! x) dk j k = R2)) (fun t _ => j + 2 - (intOf t).toNat)
      case atStart => exact ⟨i, by go_num, Nat.le_refl _, .inl rfl, HFL, Lib.hid HR2.out.symm⟩
      case round =>
        clear HFL
        obtain ⟨k, rfl, hk1, hk2, HFk, HOk⟩ := hrel
        have x0 := HFk.out.x0
        unfold lessV at x0
        by_cases hkc : k ≤ j
        · obtain ⟨b1, hb1⟩ : ∃ x, x = S.lt dk[a]! dk[k]! := ⟨_, rfl⟩
          have cL := Lib.hid (HFk.out.less HC.out a k (by omega) (by omega))
          rw [← hb1] at cL
          have HS : Hid (R2 = if (!b1) = true then scanUp (fun x => !S.lt dk[a]! x) dk j (k + 1) else k) := Lib.hid (by rw [← HOk.out, scanUp_at hkc, hb1])
          clear hb1 HOk
          cases b1 with
          | false =>
            have HS2 : Hid (scanUp (fun x => !S.lt dk[a]! x) dk j (k + 1) = R2) := Lib.hid (by rw [HS.out]; rfl)
            clear HS
            go_wp2_with (first | (go_at_call 75; (with_reducible refine cL.out.mono ?_); rintro e w1 ⟨rfl, hF1⟩; have HF1 := Lib.hid hF1; clear hF1 cL HFk x0))
            go_roundw
            case rel => exact ⟨k + 1, by go_num, by omega, by omega, HF1, HS2⟩
            case measure => simp [intOf]; omega
          | true =>
            have HS2 : Hid (k = R2) := Lib.hid (by rw [HS.out]; rfl)
            clear HS
            go_wp2_with (first | (go_at_call 75; (with_reducible refine cL.out.mono ?_); rintro e w1 ⟨rfl, hF1⟩; have HF1 := Lib.hid hF1; clear hF1 cL HFk x0))
            go_meet
            case rel => exact ⟨k, rfl, by rw [HS2.out, HR2.out], by omega, by omega, HF1⟩
        · have HS2 : Hid (k = R2) := Lib.hid (by rw [← HOk.out, scanUp_end hkc])
          clear HOk x0
          go_wp2_with fail
          go_meet
          case rel => exact ⟨k, rfl, by rw [HS2.out, HR2.out], by omega, by omega, HFk⟩
    case rest =>
      obtain ⟨i2, rfl, hi1, hi2, hi3, HF5⟩ := hcut
      have Hi2 := Lib.hid hi1
      clear hi1 HFL
      go_upto_block 4 with fail
      go_cut [10] (fun t wc => ∃ k : Nat, t = .int .i64 k ∧ k = scanDown (fun x => S.lt dk[a]! x) dk i2 j ∧ k ≤ j ∧ a ≤ k ∧ Hid (Fr S rb w dk wc))
      case first =>
        obtain ⟨R3, hR3⟩ : ∃ r, r = scanDown (fun x => S.lt dk[a]! x) dk i2 j := ⟨_, rfl⟩
        have HR3 := Lib.hid hR3
        clear hR3
        go_wp2_with fail
        go_loopw [10] (fun t wr => ∃ k : Nat, t = .int .i64 k ∧ k ≤ j ∧ a ≤ k ∧ Hid (Fr S rb w dk wr) ∧ Hid (scanDown (fun x => S.lt dk[a]! x) dk i2 k = R3)) (fun t _ => (intOf t).toNat)
        case atStart => exact ⟨j, by go_num, Nat.le_refl _, by omega, HF5, Lib.hid HR3.out.symm⟩
        case round =>
          clear HF5
          obtain ⟨k, rfl, hk1, hk2, HFk, HOk⟩ := hrel
          have x0 := HFk.out.x0
          unfold lessV at x0
          by_cases hkc : i2 ≤ k
          · obtain ⟨b1, hb1⟩ : ∃ x, x = S.lt dk[a]! dk[k]! := ⟨_, rfl⟩
            have cL := Lib.hid (HFk.out.less HC.out a k (by omega) (by omega))
            rw [← hb1] at cL
            have HS : Hid (R3 = if (b1) = true then scanDown (fun x => S.lt dk[a]! x) dk i2 (k - 1) else k) := Lib.hid (by rw [← HOk.out, scanDown_at hkc (by omega), hb1])
            clear hb1 HOk
            cases b1 with
            | true =>
              have HS2 : Hid (scanDown (fun x => S.lt dk[a]! x) dk i2 (k - 1) = R3) := Lib.hid (by rw [HS.out]; rfl)
              clear HS
              go_wp2_with (first | (go_at_call 75; (with_reducible refine cL.out.mono ?_); rintro e w1 ⟨rfl, hF1⟩; have HF1 := Lib.hid hF1; clear hF1 cL HFk x0))
              go_roundw
              case rel => exact ⟨k - 1, by go_num, by omega, by omega, HF1, HS2⟩
              case measure => simp [intOf]; omega
            | false =>
              have HS2 : Hid (k = R3) := Lib.hid (by rw [HS.out]; rfl)
              clear HS
              go_wp2_with (first | (go_at_call 75; (with_reducible refine cL.out.mono ?_); rintro e w1 ⟨rfl, hF1⟩; have HF1 := Lib.hid hF1; clear hF1 cL HFk x0))
              go_meet
              case rel => exact ⟨k, rfl, by rw [HS2.out, HR3.out], by omega, by omega, HF1⟩
          · have HS2 : Hid (k = R3) := Lib.hid (by rw [← HOk.out, scanDown_end hkc])
            clear HOk x0
            go_wp2_with fail
            go_meet
            case rel => exact ⟨k, rfl, by rw [HS2.out, HR3.out], by omega, by omega, HFk⟩
      case rest =>
        obtain ⟨j2, rfl, hj1, hj2, hj3, HF6⟩ := hcut
        clear HF5
        by_cases hij : i2 > j2
        · have HE : Hid (R = (i2, dk)) := Lib.hid (by rw [← HOL.out, partEqLoop_end Hi2.out hj1 hij])
          clear hj1 HOL Hi2
          go_wp2_with fail
          go_ret
          exact ⟨by rw [HE.out]; rfl, by rw [HE.out]; exact HF6.out.end⟩
        · have HE : Hid (partEqLoop S.lt a (i2 + 1) (j2 - 1) (swp dk i2 j2) = R) := Lib.hid (by rw [← HOL.out, partEqLoop_at Hi2.out hj1 hij (by omega) hj2])
          clear hj1 HOL Hi2
          have x1 := HF6.out.x1
          unfold swapV at x1
          have hsw := At.run HC.out HF6.out.at' (i := i2) (j := j2) (by omega) (by omega)
          have HF7 := Lib.hid (HF6.out.swap HC.out (i := i2) (j := j2) (by omega) (by omega))
          clear HF6
          go_wp2_with fail
          go_roundw
          case rel => exact ⟨i2 + 1, j2 - 1, _, by go_num, by go_num, by omega, by omega, by omega, by omega, HF7, HE⟩
          case measure => simp [intOf]; omega
end Sq
end Mt
end Go.Proofs.Ytkejjiohkhlnnaa

namespace Go.Proofs.Ytkejjiohkhlnnaa
open Go.RowKit Go.Lib
namespace Mt
namespace Sq
open Go.Sort (swp scanSorted shiftDown shiftUp partialIns partialInsertionSort fixDown fixUp)
variable {α : Type} [Inhabited α]

theorem scanSorted_at {lt : α → α → Bool} {d : Array α} {b i : Nat} (h : i < b) : scanSorted lt d b i = if lt d[i]! d[i - 1]! = true then i else scanSorted lt d b (i + 1) := by
  rw [scanSorted]
  cases lt d[i]! d[i - 1]! <;> simp [h]
theorem scanSorted_end {lt : α → α → Bool} {d : Array α} {b i : Nat} (h : ¬ i < b) : scanSorted lt d b i = i := by
  rw [scanSorted, if_neg (by simp [h])]
theorem shiftDown_at {lt : α → α → Bool} {j : Nat} {d : Array α} (h : 1 ≤ j) : shiftDown lt j d = if lt d[j]! d[j - 1]! = true then shiftDown lt (j - 1) (swp d j (j - 1)) else d := by
  obtain ⟨k, rfl⟩ : ∃ k, j = k + 1 := ⟨j - 1, by omega⟩
  rw [shiftDown]
  simp only [Nat.add_sub_cancel]
  cases lt d[k + 1]! d[k]! <;> simp
theorem shiftUp_at {lt : α → α → Bool} {b j : Nat} {d : Array α} (h : j < b) : shiftUp lt b j d = if lt d[j]! d[j - 1]! = true then shiftUp lt b (j + 1) (swp d j (j - 1)) else d := by
  rw [shiftUp, if_pos h]
  cases lt d[j]! d[j - 1]! <;> simp
theorem shiftUp_end {lt : α → α → Bool} {b j : Nat} {d : Array α} (h : ¬ j < b) : shiftUp lt b j d = d := by
  rw [shiftUp, if_neg h]
theorem partialIns_at {lt : α → α → Bool} {a b s i i2 : Nat} {d : Array α} (h : i2 = scanSorted lt d b i) : partialIns lt a b (s + 1) i d =
    if i2 = b then (d, true) else if b - a < 50 then (d, false) else partialIns lt a b s i2 (fixUp lt b i2 (fixDown lt a i2 (swp d i2 (i2 - 1)))) := by
  subst h
  rfl
/-- what partialInsertionSort_func leaves -/
def PInsEnd (S : SortD α) (r : Array α × Bool) (w : World) (e : Ending) (w' : World) : Prop := e = .returned (.bool r.2) ∧ Aft S r.1 w w'
set_option maxHeartbeats 8000000 in
set_option maxRecDepth 100000 in
theorem pins_any {S : SortD α} (C : SortIn S) (a b : Nat) (d : Array α) (w : World) (h : At S d w) (hab : a < b) (hb : b ≤ S.n) :
    Calls Try.prog 108 #[.agg #[lessV S, swapV S], .int .i64 a, .int .i64 b] w (PInsEnd S (partialInsertionSort S.lt d a b) w) := by
  obtain ⟨rb, hrb⟩ : ∃ r, r = w.heap.size := ⟨_, rfl⟩
  have F0 := Fr.start h
  rw [← hrb] at F0
  have HC := Lib.hid C
  have hn := C.small
  unfold lessV swapV at *
  obtain ⟨W0, hW0⟩ : ∃ V, V = w.alloc (.cells #[.func (.func 75) #[] #[S.l0, S.l1], .func (.func 100) #[] #[.slice (some ⟨S.blk, 0, none⟩) S.n S.c, S.th]] 155) := ⟨_, rfl⟩
  rw [← hW0] at F0
  have HF0 := Lib.hid F0
  have HW0 := Lib.hid hW0
  have Hrb := Lib.hid hrb
  obtain ⟨R, hR⟩ : ∃ R, R = partialInsertionSort S.lt d a b := ⟨_, rfl⟩
  rw [← hR]
  have HR : Hid (partialIns S.lt a b 5 (a + 1) d = R) := Lib.hid (by rw [hR]; rfl)
  obtain ⟨L, hL⟩ : ∃ L, L = b - a := ⟨_, rfl⟩
  have hLi : (b : Int) - (a : Int) = (L : Int) := by omega
  clear hR
  clear hW0 hrb F0 h C
  go_enter Try.func108, Try.ntmps108
  go_upto_region 1 with fail
  rw [← HW0.out, ← Hrb.out]
  go_wp2_with fail
  go_loopw [7, 8] (fun t u wr => ∃ (i j : Nat) (dk : Array α), t = .int .i64 i ∧ u = .int .i64 j ∧ j ≤ 5 ∧ a + 1 ≤ i ∧ i ≤ b ∧ Hid (Fr S rb w dk wr) ∧ Hid (partialIns S.lt a b (5 - j) i dk = R)) (fun _ u _ => 6 - (intOf u).toNat)
  case atStart => exact ⟨a + 1, 0, d, by go_num, by go_num, by omega, by omega, by omega, HF0, HR⟩
  case round =>
    clear HF0 HR
    obtain ⟨i, j, dk, rfl, rfl, hj5, hia, hib, HF, HO⟩ := hrel
    by_cases hjc : j < 5
    · have hjz : (j : Int) < 5 := by omega
      go_upto_block 2 with fail
      go_cut [7] (fun t wc => ∃ k : Nat, t = .int .i64 k ∧ k = scanSorted S.lt dk b i ∧ a + 1 ≤ k ∧ k ≤ b ∧ Hid (Fr S rb w dk wc))
      case first =>
        obtain ⟨R1, hR1⟩ : ∃ r, r = scanSorted S.lt dk b i := ⟨_, rfl⟩
        have HR1 := Lib.hid hR1
        clear hR1
        go_wp2_with fail
        go_loopw [7] (fun t wr => ∃ k : Nat, t = .int .i64 k ∧ a + 1 ≤ k ∧ k ≤ b ∧ Hid (Fr S rb w dk wr) ∧ Hid (scanSorted S.lt dk b k = R1)) (fun t _ => b + 1 - (intOf t).toNat)
        case atStart => exact ⟨i, rfl, hia, hib, HF, Lib.hid HR1.out.symm⟩
        case round =>
          clear HF
          obtain ⟨k, rfl, hk1, hk2, HFk, HOk⟩ := hrel
          have x0 := HFk.out.x0
          unfold lessV at x0
          by_cases hkc : k < b
          · obtain ⟨b1, hb1⟩ : ∃ x, x = S.lt dk[k]! dk[k - 1]! := ⟨_, rfl⟩
            have cL := Lib.hid (HFk.out.less HC.out k (k - 1) (by omega) (by omega))
            rw [← hb1, show ((k - 1 : Nat) : Int) = (k : Int) - 1 by omega] at cL
            have HS : Hid (R1 = if b1 = true then k else scanSorted S.lt dk b (k + 1)) := Lib.hid (by rw [← HOk.out, scanSorted_at hkc, hb1])
            clear hb1 HOk
            cases b1 with
            | false =>
              have HS2 : Hid (scanSorted S.lt dk b (k + 1) = R1) := Lib.hid (by rw [HS.out]; rfl)
              clear HS
              go_wp2_with (first | (go_at_call 75; (with_reducible refine cL.out.mono ?_); rintro e w1 ⟨rfl, hF1⟩; have HF1 := Lib.hid hF1; clear hF1 cL HFk x0))
              go_roundw
              case rel => exact ⟨k + 1, by go_num, by omega, by omega, HF1, HS2⟩
              case measure => simp [intOf]; omega
            | true =>
              have HS2 : Hid (k = R1) := Lib.hid (by rw [HS.out]; rfl)
              clear HS
              go_wp2_with (first | (go_at_call 75; (with_reducible refine cL.out.mono ?_); rintro e w1 ⟨rfl, hF1⟩; have HF1 := Lib.hid hF1; clear hF1 cL HFk x0))
              go_meet
              case rel => exact ⟨k, rfl, by rw [HS2.out, HR1.out], by omega, by omega, HF1⟩
          · have HS2 : Hid (k = R1) := Lib.hid (by rw [← HOk.out, scanSorted_end hkc])
            clear HOk x0
            go_wp2_with fail
            go_meet
            case rel => exact ⟨k, rfl, by rw [HS2.out, HR1.out], by omega, by omega, HFk⟩
      case rest =>
        obtain ⟨i2, rfl, hi1, hi2, hi3, HF2⟩ := hcut
        have HO2 : Hid (R = if i2 = b then (dk, true) else if b - a < 50 then (dk, false) else partialIns S.lt a b (5 - (j + 1)) i2 (fixUp S.lt b i2 (fixDown S.lt a i2 (swp dk i2 (i2 - 1))))) := Lib.hid (by rw [← HO.out, show 5 - j = (5 - (j + 1)) + 1 by omega, partialIns_at hi1])
        clear hi1 HF HO
        by_cases hib2 : i2 = b
        · have HE : Hid (R = (dk, true)) := Lib.hid (by rw [HO2.out, if_pos hib2])
          clear HO2
          subst hib2
          go_wp2_with fail
          go_ret
          exact ⟨by rw [HE.out]; rfl, by rw [HE.out]; exact HF2.out.end⟩
        · have hne : (i2 : Int) ≠ (b : Int) := by omega
          by_cases h50 : b - a < 50
          · have HE : Hid (R = (dk, false)) := Lib.hid (by rw [HO2.out, if_neg hib2, if_pos h50])
            clear HO2
            have h50i : (L : Int) < 50 := by omega
            go_wp2_with fail
            go_ret
            exact ⟨by rw [HE.out]; rfl, by rw [HE.out]; exact HF2.out.end⟩
          · have h50i : ¬ (L : Int) < 50 := by omega
            have HO6 : Hid (R = partialIns S.lt a b (5 - (j + 1)) i2 (fixUp S.lt b i2 (fixDown S.lt a i2 (swp dk i2 (i2 - 1))))) := Lib.hid (by rw [HO2.out, if_neg hib2, if_neg h50])
            clear HO2
            have x1 := HF2.out.x1
            unfold swapV at x1
            have hsw := At.run HC.out HF2.out.at' (i := i2) (j := i2 - 1) (by omega) (by omega)
            rw [show ((i2 - 1 : Nat) : Int) = (i2 : Int) - 1 by omega] at hsw
            have HF3 := Lib.hid (HF2.out.swap HC.out (i := i2) (j := i2 - 1) (by omega) (by omega))
            obtain ⟨d3, hd3⟩ : ∃ x, x = swp dk i2 (i2 - 1) := ⟨_, rfl⟩
            rw [← hd3] at HF3 HO6
            clear hd3 HF2
            go_upto_region 12 with fail
            clear x1 hsw
            generalize ((wc.setCell _ _).setCell _ _) = wc3 at *
            go_upto_if 47 with fail
            go_cut [] (fun wc => Hid (Fr S rb w (fixDown S.lt a i2 d3) wc))
            case first =>
              by_cases hi2a : 2 ≤ i2 - a
              · have hge : (2 : Int) ≤ (i2 : Int) - (a : Int) := by omega
                obtain ⟨R3, hR3⟩ : ∃ r, r = fixDown S.lt a i2 d3 := ⟨_, rfl⟩
                have HR3e : Hid (fixDown S.lt a i2 d3 = R3) := Lib.hid hR3.symm
                have HR3 : Hid (shiftDown S.lt (i2 - 1) d3 = R3) := Lib.hid (by rw [hR3]; unfold fixDown; rw [if_pos hi2a])
                clear hR3
                go_wp2_with fail
                go_loopw [9] (fun t wr => ∃ (k : Nat) (dj : Array α), t = .int .i64 k ∧ k < i2 ∧ Hid (Fr S rb w dj wr) ∧ Hid (shiftDown S.lt k dj = R3)) (fun t _ => (intOf t).toNat)
                case atStart => exact ⟨i2 - 1, d3, by go_num, by omega, HF3, HR3⟩
                case round =>
                  clear HF3 HR3
                  obtain ⟨k, dj, rfl, hk1, HFk, HOk⟩ := hrel
                  have x0 := HFk.out.x0
                  unfold lessV at x0
                  by_cases hkc : 1 ≤ k
                  · have hkz : (1 : Int) ≤ (k : Int) := by omega
                    obtain ⟨b1, hb1⟩ : ∃ x, x = S.lt dj[k]! dj[k - 1]! := ⟨_, rfl⟩
                    have cL := Lib.hid (HFk.out.less HC.out k (k - 1) (by omega) (by omega))
                    rw [← hb1, show ((k - 1 : Nat) : Int) = (k : Int) - 1 by omega] at cL
                    have HS : Hid (R3 = if b1 = true then shiftDown S.lt (k - 1) (swp dj k (k - 1)) else dj) := Lib.hid (by rw [← HOk.out, shiftDown_at hkc, hb1])
                    clear hb1 HOk
                    cases b1 with
                    | true =>
                      have HS2 : Hid (shiftDown S.lt (k - 1) (swp dj k (k - 1)) = R3) := Lib.hid (by rw [HS.out]; rfl)
                      clear HS
                      go_wp2_with (first | (go_at_call 75; (with_reducible refine cL.out.mono ?_); rintro e w1 ⟨rfl, hF1⟩; have y1 := hF1.x1; unfold swapV at y1; have hsw := At.run HC.out hF1.at' (i := k) (j := k - 1) (by omega) (by omega); rw [show ((k - 1 : Nat) : Int) = (k : Int) - 1 by omega] at hsw; have HF5 := Lib.hid (hF1.swap HC.out (i := k) (j := k - 1) (by omega) (by omega)); clear hF1 cL HFk x0))
                      go_roundw
                      case rel => exact ⟨k - 1, _, by go_num, by omega, HF5, HS2⟩
                      case measure => simp [intOf]; omega
                    | false =>
                      have HS2 : Hid (dj = R3) := Lib.hid (by rw [HS.out]; rfl)
                      clear HS
                      go_wp2_with (first | (go_at_call 75; (with_reducible refine cL.out.mono ?_); rintro e w1 ⟨rfl, hF1⟩; have HF1 := Lib.hid hF1; clear hF1 cL HFk x0))
                      go_meet
                      case rel => exact Lib.hid (by rw [HR3e.out, ← HS2.out]; exact HF1.out)
                  · have hk0 : k = 0 := by omega
                    subst hk0
                    have HS2 : Hid (dj = R3) := HOk
                    rw [show ((0 : Nat) : Int) = 0 from rfl]
                    clear HOk x0
                    go_wp2_with fail
                    go_meet
                    case rel => exact Lib.hid (by rw [HR3e.out, ← HS2.out]; exact HFk.out)
              · have hge : ¬ (2 : Int) ≤ (i2 : Int) - (a : Int) := by omega
                have HF5 : Hid (Fr S rb w (fixDown S.lt a i2 d3) wc3) := Lib.hid (by unfold fixDown; rw [if_neg hi2a]; exact HF3.out)
                go_wp2_with fail
                go_meet
                case rel => exact HF5
            case rest =>
              have HF6 := hcut
              clear hcut HF3
              obtain ⟨d6, hd6⟩ : ∃ x, x = fixDown S.lt a i2 d3 := ⟨_, rfl⟩
              rw [← hd6] at HF6 HO6
              obtain ⟨R6, hR6⟩ : ∃ x, x = fixUp S.lt b i2 d6 := ⟨_, rfl⟩
              have HOX : Hid (partialIns S.lt a b (5 - (j + 1)) i2 R6 = R) := Lib.hid (by rw [HO6.out, hR6])
              have HR6 := Lib.hid hR6
              clear hR6 hd6 HO6
              by_cases hi2b : 2 ≤ b - i2
              · have hge : (2 : Int) ≤ (b : Int) - (i2 : Int) := by omega
                have HR6 : Hid (shiftUp S.lt b (i2 + 1) d6 = R6) := Lib.hid (by rw [HR6.out]; unfold fixUp; rw [if_pos hi2b])
                go_wp2_with fail
                go_loopw [10] (fun t wr => ∃ (k : Nat) (dj : Array α), t = .int .i64 k ∧ i2 < k ∧ k ≤ b ∧ Hid (Fr S rb w dj wr) ∧ Hid (shiftUp S.lt b k dj = R6)) (fun t _ => b + 1 - (intOf t).toNat)
                case atStart => exact ⟨i2 + 1, d6, by go_num, by omega, by omega, HF6, HR6⟩
                case round =>
                  clear HF6 HR6
                  obtain ⟨k, dj, rfl, hk1, hk2, HFk, HOk⟩ := hrel
                  have x0 := HFk.out.x0
                  unfold lessV at x0
                  by_cases hkc : k < b
                  · obtain ⟨b1, hb1⟩ : ∃ x, x = S.lt dj[k]! dj[k - 1]! := ⟨_, rfl⟩
                    have cL := Lib.hid (HFk.out.less HC.out k (k - 1) (by omega) (by omega))
                    rw [← hb1, show ((k - 1 : Nat) : Int) = (k : Int) - 1 by omega] at cL
                    have HS : Hid (R6 = if b1 = true then shiftUp S.lt b (k + 1) (swp dj k (k - 1)) else dj) := Lib.hid (by rw [← HOk.out, shiftUp_at hkc, hb1])
                    clear hb1 HOk
                    cases b1 with
                    | true =>
                      have HS2 : Hid (shiftUp S.lt b (k + 1) (swp dj k (k - 1)) = R6) := Lib.hid (by rw [HS.out]; rfl)
                      clear HS
                      go_wp2_with (first | (go_at_call 75; (with_reducible refine cL.out.mono ?_); rintro e w1 ⟨rfl, hF1⟩; have y1 := hF1.x1; unfold swapV at y1; have hsw := At.run HC.out hF1.at' (i := k) (j := k - 1) (by omega) (by omega); rw [show ((k - 1 : Nat) : Int) = (k : Int) - 1 by omega] at hsw; have HF7 := Lib.hid (hF1.swap HC.out (i := k) (j := k - 1) (by omega) (by omega)); clear hF1 cL HFk x0))
                      go_roundw
                      case rel => exact ⟨k + 1, _, by go_num, by omega, by omega, HF7, HS2⟩
                      case measure => simp [intOf]; omega
                    | false =>
                      have HS2 : Hid (dj = R6) := Lib.hid (by rw [HS.out]; rfl)
                      clear HS
                      go_wp2_with (first | (go_at_call 75; (with_reducible refine cL.out.mono ?_); rintro e w1 ⟨rfl, hF1⟩; have HF1 := Lib.hid hF1; clear hF1 cL HFk x0))
                      have HF8 : Hid (Fr S rb w R6 w1) := Lib.hid (by rw [← HS2.out]; exact HF1.out)
                      exact ⟨⟨i2, j + 1, _, rfl, by go_num, by omega, by omega, by omega, HF8, HOX⟩, by simp [intOf]; omega⟩
                  · have HF8 : Hid (Fr S rb w R6 wr) := Lib.hid (by have := HOk.out; rw [shiftUp_end hkc] at this; rw [← this]; exact HFk.out)
                    clear HOk x0
                    go_wp2_with fail
                    exact ⟨⟨i2, j + 1, _, rfl, by go_num, by omega, by omega, by omega, HF8, HOX⟩, by simp [intOf]; omega⟩
              · have hge : ¬ (2 : Int) ≤ (b : Int) - (i2 : Int) := by omega
                have HF8 : Hid (Fr S rb w R6 wc) := Lib.hid (by rw [HR6.out]; unfold fixUp; rw [if_neg hi2b]; exact HF6.out)
                go_wp2_with fail
                go_roundw
                case rel => exact ⟨i2, j + 1, _, rfl, by go_num, by omega, by omega, by omega, HF8, HOX⟩
                case measure => simp [intOf]; omega
    · have hj : j = 5 := by omega
      subst hj
      have HE : Hid (R = (dk, false)) := Lib.hid (by rw [← HO.out]; rfl)
      clear HO
      rw [show ((5 : Nat) : Int) = 5 from rfl]
      go_wp2_with fail
      go_ret
      exact ⟨by rw [HE.out]; rfl, by rw [HE.out]; exact HF.out.end⟩
end Sq
end Mt
end Go.Proofs.Ytkejjiohkhlnnaa

namespace Go.Proofs.Ytkejjiohkhlnnaa
open Go.RowKit Go.Lib
namespace Mt
namespace Sq
open Go.Sort (swp)
variable {α : Type} [Inhabited α]

/-- a counter -/
def CntAt (sc : Nat) (w : World) : Prop := ∃ v : Int, w.heap[sc]? = some (.cells #[.int .i64 v] 3 (0, 0))
theorem CntAt.below {sc : Nat} {w w' : World} (h : CntAt sc w) (hb : Below w.heap.size w w') : CntAt sc w' := by
  obtain ⟨v, hv⟩ := h
  exact ⟨v, (hb.block _ (Array.getElem?_eq_some_iff.1 hv).1).trans hv⟩
theorem CntAt.lt {sc : Nat} {w : World} (h : CntAt sc w) : sc < w.heap.size := by
  obtain ⟨v, hv⟩ := h
  exact (Array.getElem?_eq_some_iff.1 hv).1
theorem At.oth2 {S : SortD α} {d : Array α} {w w' : World} {sc : Nat} (C : SortIn S) (h : At S d w) (k : Oth sc w w') (hs : S.w0.heap.size ≤ sc) : At S d w' := by
  have hb := C.blk
  refine ⟨⟨k.os.trans h.oth.os, k.tape.trans h.oth.tape, k.output.trans h.oth.output, Nat.le_trans h.oth.size k.size, fun j hj hn => (k.keep j (Nat.lt_of_lt_of_le hj h.oth.size) (by omega)).trans (h.oth.keep j hj hn)⟩, ?_⟩
  obtain ⟨h1, cur, h2, h3⟩ := h.row
  exact ⟨h1, cur, (k.keep _ (Array.getElem?_eq_some_iff.1 h2).1 (by omega)).trans h2, h3⟩
/-- a frame with a counter -/
structure Frc (S : SortD α) (rb sc : Nat) (ws : World) (d : Array α) (w : World) : Prop where
  at' : At S d w
  oth : Oth sc ws w
  x0 : w.cell? ⟨rb, 0, none⟩ = some (lessV S)
  x1 : w.cell? ⟨rb, 1, none⟩ = some (swapV S)
  cnt : CntAt sc w
  ne : rb ≠ sc
  sc : S.w0.heap.size ≤ sc
section
variable {S : SortD α} {d : Array α} {w W W' ws : World} {rb sc : Nat}
theorem Frc.start (h : At S d w) (hc : CntAt sc w) (hs : S.w0.heap.size ≤ sc) : Frc S w.heap.size sc w d (w.alloc (.cells #[lessV S, swapV S] 155)) :=
  ⟨h.below ((Below.refl _ _).alloc (Nat.le_refl _) _), .below ((Below.refl _ _).alloc (Nat.le_refl _) _), by simp, by simp, hc.below ((Below.refl _ _).alloc (Nat.le_refl _) _), by have := hc.lt; omega, hs⟩
theorem Frc.below (h : Frc S rb sc ws d W) (hb : Below W.heap.size W W') : Frc S rb sc ws d W' := ⟨h.at'.below hb, h.oth.trans (.below hb), on_cell hb h.x0, on_cell hb h.x1, h.cnt.below hb, h.ne, h.sc⟩
theorem Frc.call (C : SortIn S) (h : Frc S rb sc ws d W) (k : Oth sc W W') (hc : CntAt sc W') : Frc S rb sc ws d W' := ⟨h.at'.oth2 C k h.sc, h.oth.trans k, k.cell h.x0 h.ne, k.cell h.x1 h.ne, hc, h.ne, h.sc⟩
theorem Frc.less (C : SortIn S) (h : Frc S rb sc ws d W) (i j : Nat) (hi : i < S.n) (hj : j < S.n) : Calls Try.prog 75 #[.int .i64 i, .int .i64 j, S.l0, S.l1] W fun e w' => e = .returned (.bool (S.lt d[i]! d[j]!)) ∧ Frc S rb sc ws d w' :=
  (C.less d W h.at' i j hi hj).mono fun _ _ k => ⟨k.1, h.below k.2⟩
theorem cnt_store (h : CntAt sc W) (v : Int) : CntAt sc (W.setCell ⟨sc, 0, none⟩ (.int .i64 v)) := by
  obtain ⟨x, hx⟩ := h
  exact ⟨v, heap_setCell (j := 0) hx _⟩
end
/-- what order2_func leaves -/
def Ord2End (a b sc : Nat) (w : World) (e : Ending) (w' : World) : Prop := ∃ x y : Nat, e = .returned (.tuple #[.int .i64 x, .int .i64 y]) ∧ ((x = a ∧ y = b) ∨ (x = b ∧ y = a)) ∧ Oth sc w w' ∧ CntAt sc w'
set_option maxHeartbeats 4000000 in
set_option maxRecDepth 100000 in
theorem ord2_any {S : SortD α} (C : SortIn S) (a b sc : Nat) (d : Array α) (w : World) (h : At S d w) (hc : CntAt sc w) (hs : S.w0.heap.size ≤ sc) (ha : a < S.n) (hb : b < S.n) :
    Calls Try.prog 116 #[.agg #[lessV S, swapV S], .int .i64 a, .int .i64 b, .pointer (some ⟨sc, 0, none⟩)] w (Ord2End a b sc w) := by
  obtain ⟨rb, hrb⟩ : ∃ r, r = w.heap.size := ⟨_, rfl⟩
  have F0 := Frc.start h hc hs
  rw [← hrb] at F0
  have HC := Lib.hid C
  have hn := C.small
  unfold lessV swapV at *
  obtain ⟨W0, hW0⟩ : ∃ V, V = w.alloc (.cells #[.func (.func 75) #[] #[S.l0, S.l1], .func (.func 100) #[] #[.slice (some ⟨S.blk, 0, none⟩) S.n S.c, S.th]] 155) := ⟨_, rfl⟩
  rw [← hW0] at F0
  have HF0 := Lib.hid F0
  have HW0 := Lib.hid hW0
  have Hrb := Lib.hid hrb
  clear hW0 hrb F0 h C hc hs
  go_enter Try.func116, Try.ntmps116
  go_upto_region 1 with fail
  rw [← HW0.out, ← Hrb.out]
  have x0 := HF0.out.x0
  unfold lessV at x0
  obtain ⟨b1, hb1⟩ : ∃ x, x = S.lt d[b]! d[a]! := ⟨_, rfl⟩
  have cL := Lib.hid (HF0.out.less HC.out b a hb ha)
  rw [← hb1] at cL
  clear hb1
  cases b1 with
  | true =>
    go_wp2_with (first | (go_at_call 75; (with_reducible refine cL.out.mono ?_); rintro e w1 ⟨rfl, hF1⟩; obtain ⟨v, hv⟩ := hF1.cnt; have k0 : w1.cell? ⟨sc, 0, none⟩ = some (.int .i64 v) := (by simp [World.cell?, hv]); have k1 : w1.frozen? ⟨sc, 0, none⟩ = false := (by simp [World.frozen?, hv]); have HE : Hid (∀ z, Oth sc w (w1.setCell ⟨sc, 0, none⟩ (.int .i64 z)) ∧ CntAt sc (w1.setCell ⟨sc, 0, none⟩ (.int .i64 z))) := Lib.hid (fun z => ⟨hF1.oth.trans (Oth.store _ _ _), cnt_store hF1.cnt z⟩); clear hF1 x0 cL hv))
    go_ret2
    exact ⟨b, a, rfl, .inr ⟨rfl, rfl⟩, HE.out _⟩
  | false =>
    go_wp2_with (first | (go_at_call 75; (with_reducible refine cL.out.mono ?_); rintro e w1 ⟨rfl, hF1⟩; have HE : Hid (Oth sc w w1 ∧ CntAt sc w1) := Lib.hid ⟨hF1.oth, hF1.cnt⟩; clear hF1 x0 cL))
    go_ret2
    exact ⟨a, b, rfl, .inl ⟨rfl, rfl⟩, HE.out⟩
/-- what median_func leaves -/
def MedEnd (a b c sc : Nat) (w : World) (e : Ending) (w' : World) : Prop := ∃ x : Nat, e = .returned (.int .i64 x) ∧ (x = a ∨ x = b ∨ x = c) ∧ Oth sc w w' ∧ CntAt sc w'
set_option maxHeartbeats 4000000 in
set_option maxRecDepth 100000 in
theorem med_any {S : SortD α} (C : SortIn S) (a b c sc : Nat) (d : Array α) (w : World) (h : At S d w) (hc : CntAt sc w) (hs : S.w0.heap.size ≤ sc) (ha : a < S.n) (hb : b < S.n) (hcn : c < S.n) :
    Calls Try.prog 115 #[.agg #[lessV S, swapV S], .int .i64 a, .int .i64 b, .int .i64 c, .pointer (some ⟨sc, 0, none⟩)] w (MedEnd a b c sc w) := by
  obtain ⟨rb, hrb⟩ : ∃ r, r = w.heap.size := ⟨_, rfl⟩
  have F0 := Frc.start h hc hs
  rw [← hrb] at F0
  have HC := Lib.hid C
  have hn := C.small
  have cO0 := fun (i j : Nat) (ws W : World) (hF : Frc S rb sc ws d W) (hi : i < S.n) (hj : j < S.n) => Lib.hid (ord2_any HC.out i j sc d W hF.at' hF.cnt hF.sc hi hj)
  unfold lessV swapV at *
  obtain ⟨W0, hW0⟩ : ∃ V, V = w.alloc (.cells #[.func (.func 75) #[] #[S.l0, S.l1], .func (.func 100) #[] #[.slice (some ⟨S.blk, 0, none⟩) S.n S.c, S.th]] 155) := ⟨_, rfl⟩
  rw [← hW0] at F0
  have HF0 := Lib.hid F0
  have HW0 := Lib.hid hW0
  have Hrb := Lib.hid hrb
  clear hW0 hrb F0 h C hc hs
  go_enter Try.func115, Try.ntmps115
  go_upto_region 1 with fail
  rw [← HW0.out, ← Hrb.out]
  have x0 := HF0.out.x0
  unfold lessV at x0
  have x1 := HF0.out.x1
  unfold swapV at x1
  go_upto_region 2 with (first | (go_at_call 116; (with_reducible refine (cO0 _ _ _ _ HF0.out (by omega) (by omega)).out.mono ?_); rintro e w1 ⟨p1, q1, rfl, hm1, hO1, hK1⟩; have HF1 := Lib.hid (HF0.out.call HC.out hO1 hK1); clear hO1 hK1))
  have y0 := HF1.out.x0
  unfold lessV at y0
  have y1 := HF1.out.x1
  unfold swapV at y1
  clear x0 x1 HF0
  have hp1 : p1 < S.n ∧ q1 < S.n := by omega
  obtain ⟨hp1, hq1⟩ := hp1
  go_upto_region 3 with (first | (go_at_call 116; (with_reducible refine (cO0 _ _ _ _ HF1.out (by omega) (by omega)).out.mono ?_); rintro e w2 ⟨p2, q2, rfl, hm2, hO2, hK2⟩; have HF2 := Lib.hid (HF1.out.call HC.out hO2 hK2); clear hO2 hK2))
  have x0 := HF2.out.x0
  unfold lessV at x0
  have x1 := HF2.out.x1
  unfold swapV at x1
  clear y0 y1 HF1
  have hp2 : p2 < S.n ∧ q2 < S.n := by omega
  obtain ⟨hp2, hq2⟩ := hp2
  go_wp2_with (first | (go_at_call 116; (with_reducible refine (cO0 _ _ _ _ HF2.out (by omega) (by omega)).out.mono ?_); rintro e w3 ⟨p3, q3, rfl, hm3, hO3, hK3⟩; have HF3 := Lib.hid (HF2.out.call HC.out hO3 hK3); clear hO3 hK3))
  go_ret
  exact ⟨q3, rfl, by omega, HF3.out.oth, HF3.out.cnt⟩
/-- what medianAdjacent_func leaves -/
def AdjEnd (a sc : Nat) (w : World) (e : Ending) (w' : World) : Prop := ∃ x : Nat, e = .returned (.int .i64 x) ∧ a ≤ x + 1 ∧ x ≤ a + 1 ∧ Oth sc w w' ∧ CntAt sc w'
set_option maxHeartbeats 4000000 in
set_option maxRecDepth 100000 in
theorem adj_any {S : SortD α} (C : SortIn S) (a sc : Nat) (d : Array α) (w : World) (h : At S d w) (hc : CntAt sc w) (hs : S.w0.heap.size ≤ sc) (ha : 1 ≤ a) (hb : a + 1 < S.n) :
    Calls Try.prog 114 #[.agg #[lessV S, swapV S], .int .i64 a, .pointer (some ⟨sc, 0, none⟩)] w (AdjEnd a sc w) := by
  obtain ⟨rb, hrb⟩ : ∃ r, r = w.heap.size := ⟨_, rfl⟩
  have F0 := Frc.start h hc hs
  rw [← hrb] at F0
  have HC := Lib.hid C
  have hn := C.small
  have cM := Lib.hid (med_any HC.out (a - 1) a (a + 1) sc d _ F0.at' F0.cnt F0.sc (by omega) (by omega) (by omega))
  rw [show ((a - 1 : Nat) : Int) = (a : Int) - 1 by omega, show ((a + 1 : Nat) : Int) = (a : Int) + 1 by omega] at cM
  unfold lessV swapV at *
  obtain ⟨W0, hW0⟩ : ∃ V, V = w.alloc (.cells #[.func (.func 75) #[] #[S.l0, S.l1], .func (.func 100) #[] #[.slice (some ⟨S.blk, 0, none⟩) S.n S.c, S.th]] 155) := ⟨_, rfl⟩
  rw [← hW0] at F0 cM
  have HF0 := Lib.hid F0
  have HW0 := Lib.hid hW0
  have Hrb := Lib.hid hrb
  clear hW0 hrb F0 h C hc hs
  go_enter Try.func114, Try.ntmps114
  go_upto_region 1 with fail
  rw [← HW0.out, ← Hrb.out]
  have x0 := HF0.out.x0
  unfold lessV at x0
  have x1 := HF0.out.x1
  unfold swapV at x1
  go_wp2_with (first | (go_at_call 115; (with_reducible refine cM.out.mono ?_); rintro e w1 ⟨x, rfl, hx, hO, hK⟩; have HF1 := Lib.hid (HF0.out.call HC.out hO hK); clear hO hK))
  go_ret
  exact ⟨x, rfl, by omega, by omega, HF1.out.oth, HF1.out.cnt⟩
end Sq
end Mt
end Go.Proofs.Ytkejjiohkhlnnaa

namespace Go.Proofs.Ytkejjiohkhlnnaa
open Go.RowKit Go.Lib
namespace Mt
namespace Sq
open Go.Sort (swp)
variable {α : Type} [Inhabited α]

/-- what choosePivot_func leaves -/
def PivEnd (S : SortD α) (a b : Nat) (d : Array α) (w : World) (e : Ending) (w' : World) : Prop := ∃ p k : Nat, e = .returned (.tuple #[.int .i64 p, .int .i64 k]) ∧ a ≤ p ∧ p < b ∧ (k = 0 ∨ k = 1 ∨ k = 2) ∧ Aft S d w w'
set_option maxHeartbeats 4000000 in
set_option maxRecDepth 100000 in
theorem piv_any {S : SortD α} (C : SortIn S) (a b : Nat) (d : Array α) (w : World) (h : At S d w) (hab : a < b) (hb : b ≤ S.n) :
    Calls Try.prog 106 #[.agg #[lessV S, swapV S], .int .i64 a, .int .i64 b] w (PivEnd S a b d w) := by
  obtain ⟨rb, hrb⟩ : ∃ r, r = w.heap.size := ⟨_, rfl⟩
  have F0 := Fr.start h
  rw [← hrb] at F0
  have HC := Lib.hid C
  have hn := C.small
  unfold lessV swapV at *
  obtain ⟨W0, hW0⟩ : ∃ V, V = w.alloc (.cells #[.func (.func 75) #[] #[S.l0, S.l1], .func (.func 100) #[] #[.slice (some ⟨S.blk, 0, none⟩) S.n S.c, S.th]] 155) := ⟨_, rfl⟩
  rw [← hW0] at F0
  have HF0 := Lib.hid F0
  have HW0 := Lib.hid hW0
  have Hrb := Lib.hid hrb
  obtain ⟨L, hL⟩ : ∃ L, L = b - a := ⟨_, rfl⟩
  have hLi : (b : Int) - (a : Int) = (L : Int) := by omega
  have hL1 : a + L ≤ b := by omega
  have hL2 : b ≤ a + L := by omega
  clear hL
  obtain ⟨W1, hW1⟩ : ∃ V, V = W0.alloc (.cells #[.int .i64 0] 3) := ⟨_, rfl⟩
  obtain ⟨sc, hsc⟩ : ∃ x, x = W0.heap.size := ⟨_, rfl⟩
  have hbW1 : Below W0.heap.size W0 W1 := by rw [hW1]; exact (Below.refl _ _).alloc (Nat.le_refl _) _
  have hw0 : w.heap.size ≤ W0.heap.size := HF0.out.oth.size
  have hrb0 : rb < W0.heap.size := World.block_lt_of_cell? _ _ HF0.out.x0
  have hc1 : CntAt sc W1 := ⟨0, by rw [hW1, hsc]; exact (MapKept.heap_alloc W0 _).1⟩
  have hsc1 : S.w0.heap.size ≤ sc := by rw [hsc]; exact Nat.le_trans h.oth.size hw0
  have G1 := HF0.out.below hbW1
  have FC : Frc S rb sc W1 d W1 := ⟨G1.at', Oth.refl _ _, G1.x0, G1.x1, hc1, by omega, hsc1⟩
  have HFC := Lib.hid FC
  have hb00 : Below w.heap.size w W0 := by rw [hW0]; exact (Below.refl _ _).alloc (Nat.le_refl _) _
  have HB1 : Hid (Below w.heap.size w W1) := Lib.hid (hb00.trans (hbW1.mono hb00.size))
  have HW1 := Lib.hid hW1
  have Hsc := Lib.hid hsc
  have hscw : Hid (w.heap.size ≤ sc) := Lib.hid (by omega)
  have cA := fun (x : Nat) (W : World) (hF : Frc S rb sc W1 d W) (h1 : 1 ≤ x) (h2 : x + 1 < S.n) => Lib.hid (adj_any HC.out x sc d W hF.at' hF.cnt hF.sc h1 h2)
  have cM := fun (x y z : Nat) (W : World) (hF : Frc S rb sc W1 d W) (h1 : x < S.n) (h2 : y < S.n) (h3 : z < S.n) => Lib.hid (med_any HC.out x y z sc d W hF.at' hF.cnt hF.sc h1 h2 h3)
  unfold lessV swapV at cA cM
  clear hb00 hW1 hsc hbW1 hw0 hrb0 hc1 hsc1 G1 FC
  clear hW0 hrb F0 h C
  go_enter Try.func106, Try.ntmps106
  go_upto_region 1 with fail
  rw [← HW0.out, ← Hrb.out]
  go_upto_region 6 with fail
  rw [← HW1.out, ← Hsc.out]
  obtain ⟨i0, hi0⟩ : ∃ i, i = a + L / 4 := ⟨_, rfl⟩
  obtain ⟨j0, hj0⟩ : ∃ i, i = a + L / 4 * 2 := ⟨_, rfl⟩
  obtain ⟨k0, hk0⟩ : ∃ i, i = a + L / 4 * 3 := ⟨_, rfl⟩
  rw [show (a : Int) + (L : Int) / 4 = (i0 : Int) by omega, show (a : Int) + (L : Int) / 4 * 2 = (j0 : Int) by omega, show (a : Int) + (L : Int) / 4 * 3 = (k0 : Int) by omega]
  have hi1 : a ≤ i0 ∧ i0 < b ∧ (50 ≤ L → 1 ≤ i0 ∧ i0 + 1 < b) := by omega
  have hj1 : a ≤ j0 ∧ j0 < b ∧ (50 ≤ L → 1 ≤ j0 ∧ j0 + 1 < b) := by omega
  have hk1 : a ≤ k0 ∧ k0 < b ∧ (50 ≤ L → 1 ≤ k0 ∧ k0 + 1 < b ∧ a + 1 ≤ i0 ∧ a + 1 ≤ j0 ∧ a + 1 ≤ k0) := by omega
  have Hi1 := Lib.hid hi1
  have Hj1 := Lib.hid hj1
  have Hk1 := Lib.hid hk1
  clear hi0 hj0 hk0 hi1 hj1 hk1
  go_upto_if 32 with fail
  go_cut [11] (fun t wc => ∃ p : Nat, t = .int .i64 p ∧ a ≤ p ∧ p < b ∧ Hid (Frc S rb sc W1 d wc))
  case first =>
    by_cases h8 : 8 ≤ L
    · have h8i : (8 : Int) ≤ (L : Int) := by omega
      go_upto_if 34 with fail
      go_cut [10, 11, 12] (fun t u v wc => ∃ i j k : Nat, t = .int .i64 i ∧ u = .int .i64 j ∧ v = .int .i64 k ∧ (a ≤ i ∧ i < b) ∧ (a ≤ j ∧ j < b) ∧ (a ≤ k ∧ k < b) ∧ Hid (Frc S rb sc W1 d wc))
      case first =>
        by_cases h50 : 50 ≤ L
        · have h50i : (50 : Int) ≤ (L : Int) := by omega
          obtain ⟨i1, i2, i3⟩ := Hi1.out
          obtain ⟨j1, j2, j3⟩ := Hj1.out
          obtain ⟨k1, k2, k3⟩ := Hk1.out
          obtain ⟨i3, i4⟩ := i3 h50
          obtain ⟨j3, j4⟩ := j3 h50
          obtain ⟨k3, k4, k5, k6, k7⟩ := k3 h50
          have x0 := HFC.out.x0
          unfold lessV at x0
          have x1 := HFC.out.x1
          unfold swapV at x1
          go_upto_region 9 with (first | (go_at_call 114; (with_reducible refine (cA _ _ HFC.out (by omega) (by omega)).out.mono ?_); rintro e w2 ⟨x, rfl, hx1, hx2, hO, hK⟩; have HF2 := Lib.hid (HFC.out.call HC.out hO hK); clear hO hK))
          have y0 := HF2.out.x0
          unfold lessV at y0
          have y1 := HF2.out.x1
          unfold swapV at y1
          clear x0 x1
          go_upto_region 10 with (first | (go_at_call 114; (with_reducible refine (cA _ _ HF2.out (by omega) (by omega)).out.mono ?_); rintro e w3 ⟨y, rfl, hy1, hy2, hO, hK⟩; have HF3 := Lib.hid (HF2.out.call HC.out hO hK); clear hO hK))
          have x0 := HF3.out.x0
          unfold lessV at x0
          have x1 := HF3.out.x1
          unfold swapV at x1
          clear y0 y1
          go_wp2_with (first | (go_at_call 114; (with_reducible refine (cA _ _ HF3.out (by omega) (by omega)).out.mono ?_); rintro e w4 ⟨z, rfl, hz1, hz2, hO, hK⟩; have HF4 := Lib.hid (HF3.out.call HC.out hO hK); clear hO hK))
          go_meet
          case rel => exact ⟨x, y, z, rfl, rfl, rfl, by omega, by omega, by omega, HF4⟩
        · have h50i : ¬ (50 : Int) ≤ (L : Int) := by omega
          go_wp2_with fail
          go_meet
          case rel => exact ⟨i0, j0, k0, rfl, rfl, rfl, ⟨Hi1.out.1, Hi1.out.2.1⟩, ⟨Hj1.out.1, Hj1.out.2.1⟩, ⟨Hk1.out.1, Hk1.out.2.1⟩, HFC⟩
      case rest =>
        obtain ⟨i, j, k, rfl, rfl, rfl, ⟨i1, i2⟩, ⟨j1, j2⟩, ⟨k1, k2⟩, HF5⟩ := hcut
        have x0 := HF5.out.x0
        unfold lessV at x0
        have x1 := HF5.out.x1
        unfold swapV at x1
        go_wp2_with (first | (go_at_call 115; (with_reducible refine (cM _ _ _ _ HF5.out (by omega) (by omega) (by omega)).out.mono ?_); rintro e w6 ⟨x, rfl, hx, hO, hK⟩; have HF6 := Lib.hid (HF5.out.call HC.out hO hK); clear hO hK))
        go_meet
        case rel => exact ⟨x, rfl, by omega, by omega, HF6⟩
    · have h8i : ¬ (8 : Int) ≤ (L : Int) := by omega
      go_wp2_with fail
      go_meet
      case rel => exact ⟨j0, rfl, Hj1.out.1, Hj1.out.2.1, HFC⟩
  case rest =>
    obtain ⟨p, rfl, hp1, hp2, HF7⟩ := hcut
    clear HFC
    obtain ⟨v, hv⟩ := HF7.out.cnt
    have k0 : wc.cell? ⟨sc, 0, none⟩ = some (.int .i64 v) := by simp [World.cell?, hv]
    have hE : Hid (Aft S d w wc) := Lib.hid (by
      have hO := HF7.out.oth
      refine ⟨⟨hO.os.trans HB1.out.os, hO.tape.trans HB1.out.tape, hO.output.trans HB1.out.output, Nat.le_trans HB1.out.size hO.size, fun j hj hn => (hO.keep j (Nat.lt_of_lt_of_le hj HB1.out.size) (by have := hscw.out; omega)).trans (HB1.out.block j hj)⟩, HF7.out.at'.row⟩)
    clear hv HF7 cA cM
    by_cases h0 : v = 0
    · subst h0
      go_wp2_with fail
      go_ret2
      exact ⟨p, 1, rfl, hp1, hp2, by omega, hE.out⟩
    · by_cases h12 : v = 12
      · subst h12
        go_wp2_with fail
        go_ret2
        exact ⟨p, 2, rfl, hp1, hp2, by omega, hE.out⟩
      · go_wp2_with fail
        go_ret2
        exact ⟨p, 0, rfl, hp1, hp2, by omega, hE.out⟩
end Sq
end Mt
end Go.Proofs.Ytkejjiohkhlnnaa
