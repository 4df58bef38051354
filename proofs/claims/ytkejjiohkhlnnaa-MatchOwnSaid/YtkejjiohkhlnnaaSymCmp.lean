/-
  What sym.Compare and cmp.Or do.
-/
import Derived.Test.YtkejjiohkhlnnaaSymLeaf
import Derived.Test.YtkejjiohkhlnnaaInts
import Derived.Deep.RegionHeld3
namespace Go.Proofs.Ytkejjiohkhlnnaa
open Go.RowKit
namespace Sym

def orL : List Int → Int
  | [] => 0
  | x :: r => if x ≠ 0 then x else orL r
theorem orL_drop {xs : List Int} {k : Nat} {x : Int} (h : xs[k]? = some x) : orL (xs.drop k) = if x ≠ 0 then x else orL (xs.drop (k + 1)) := by
  obtain ⟨hk, rfl⟩ := List.getElem?_eq_some_iff.1 h
  rw [List.drop_eq_getElem_cons hk, orL]

theorem or_any (b off cap : Nat) (xs : List Int) (w : World) (hc : ∀ i (h : i < xs.length), w.cell? ⟨b, off + i, none⟩ = some (.int .i64 xs[i])) (hm : xs.length ≤ 1000) :
    Calls Try.prog 58 #[.slice (some ⟨b, off, none⟩) xs.length cap] w fun e w' => e = .returned (.int .i64 (orL xs)) ∧ w = w' := by
  have hC := Lib.hid hc
  clear hc
  go_enter Try.func58, Try.ntmps58
  go_wp2
  go_loop [8] (fun i => ∃ k : Nat, k ≤ xs.length ∧ i = .int .i64 k ∧ Hid (orL xs = orL (xs.drop k))) (fun i => xs.length - (intOf i).toNat)
  case atStart => exact ⟨0, Nat.zero_le _, rfl, Lib.hid rfl⟩
  case round =>
    obtain ⟨k, hk, rfl, HK⟩ := hrel
    by_cases hlt : k < xs.length
    · obtain ⟨x, c1, HX⟩ := ints_at hC.out hlt
      by_cases hx : x = 0
      · subst hx
        go_wp2
        go_round
        case rel => exact ⟨k + 1, by omega, by go_num, Lib.hid (by rw [HK.out, orL_drop HX.out]; simp)⟩
        case measure => simp [intOf]; omega
      · have hne : (x != 0) = true := by simpa using hx
        go_wp2
        go_ret
        refine ⟨(show Ending.returned (.int .i64 x) = _ from ?_), rfl⟩
        rw [HK.out, orL_drop HX.out, if_pos hx]
    · go_wp2
      go_ret
      refine ⟨(show Ending.returned (.int .i64 0) = _ from ?_), rfl⟩
      rw [HK.out, List.drop_of_length_le (by omega)]; rfl

theorem orL_three (k i : Int) (l : List UInt8) (k' i' : Int) (l' : List UInt8) : orL [cmpI k k', cmpI i i', cmpL l l'] = cmpC k i l k' i' l' := by
  unfold cmpC
  simp only [orL]
  split
  · rfl
  · split
    · rfl
    · split
      · rfl
      · omega

theorem or3_any (b : Nat) (x y z : Int) (w : World) (h0 : w.cell? ⟨b, 0, none⟩ = some (.int .i64 x)) (h1 : w.cell? ⟨b, 1, none⟩ = some (.int .i64 y)) (h2 : w.cell? ⟨b, 2, none⟩ = some (.int .i64 z)) :
    Calls Try.prog 58 #[.slice (some ⟨b, 0, none⟩) 3 3] w fun e w' => e = .returned (.int .i64 (orL [x, y, z])) ∧ w = w' :=
  or_any b 0 3 [x, y, z] w (by intro i h; match i, h with | 0, _ => simpa using h0 | 1, _ => simpa using h1 | 2, _ => simpa using h2) (by simp)

set_option maxHeartbeats 1000000 in
theorem compare_any (k i : Int) (s : ByteArray) (k' i' : Int) (s' : ByteArray) (w : World) :
    Calls Try.prog 28 #[.agg #[.int .i64 k, .int .i64 i, .string s], .agg #[.int .i64 k', .int .i64 i', .string s']] w
      fun e w' => e = .returned (.int .i64 (cmpC k i s.toList k' i' s'.toList)) ∧ Below w.heap.size w w' := by
  obtain ⟨x, hx⟩ : ∃ x, cmpI k k' = x := ⟨_, rfl⟩
  obtain ⟨y, hy⟩ : ∃ y, cmpI i i' = y := ⟨_, rfl⟩
  obtain ⟨z, hz⟩ : ∃ z, cmpL s.toList s'.toList = z := ⟨_, rfl⟩
  have H := Lib.hid (orL_three k i s.toList k' i' s'.toList)
  rw [hx, hy, hz] at H
  have c1 := fun W => Lib.hid (compareInt_any k k' W)
  have c2 := fun W => Lib.hid (compareInt64_any i i' W)
  have c3 := fun W => Lib.hid (compareString_any s s' W)
  rw [hx] at c1
  rw [hy] at c2
  rw [hz] at c3
  clear hx hy hz
  go_enter Try.func28, Try.ntmps28
  go_wp2
  go_region_held3 (fun w' => w'.cell? ⟨w.heap.size, 0, none⟩ = some (.int .i64 k) ∧ w'.cell? ⟨w.heap.size, 1, none⟩ = some (.int .i64 i) ∧ w'.cell? ⟨w.heap.size, 2, none⟩ = some (.string s) ∧
      w'.cell? ⟨w.heap.size + 1, 0, none⟩ = some (.int .i64 k') ∧ w'.cell? ⟨w.heap.size + 1, 1, none⟩ = some (.int .i64 i') ∧ w'.cell? ⟨w.heap.size + 1, 2, none⟩ = some (.string s')) (go_keep)
    (first
    | (go_at_call 59
       with_reducible refine ((c1 _).out).mono ?_
       rintro e w' ⟨rfl, rfl⟩)
    | (go_at_call 60
       with_reducible refine ((c2 _).out).mono ?_
       rintro e w' ⟨rfl, rfl⟩)
    | (go_at_call 61
       with_reducible refine ((c3 _).out).mono ?_
       rintro e w' ⟨rfl, rfl⟩)
    | (go_at_call 58
       with_reducible refine (or3_any _ x y z _ ?_ ?_ ?_).mono ?_
       · go_simp
       · go_simp
       · go_simp
       rintro e w' ⟨rfl, rfl⟩))
  go_wp2
  go_ret
  refine ⟨(show Ending.returned (.int .i64 (orL [x, y, z])) = _ from by rw [H.out]), ?_⟩
  exact ((((Below.refl _ _).alloc (Nat.le_refl _) _).alloc (by simp) _).alloc (by simp; omega) _).drew
end Sym
end Go.Proofs.Ytkejjiohkhlnnaa
