/-
  What Ground does, the program's and the reference's.
-/
import Derived.Test.YtkejjiohkhlnnaaValue
import Derived.Test.YtkejjiohkhlnnaaBase
namespace Go.Proofs.Ytkejjiohkhlnnaa
open Go.RowKit
namespace Mt

/-- the slots l lie behind the slice's address: two cells each -/
def Slots (w : World) (a : Option Addr) (l : List (Bool × Int)) : Prop :=
  l = [] ∨ ∃ b off, a = some ⟨b, off, none⟩ ∧ ∀ i (h : i < l.length), w.cell? ⟨b, off + i * 2, none⟩ = some (.bool l[i].1) ∧ w.cell? ⟨b, off + i * 2 + 1, none⟩ = some (.int .i64 l[i].2)
theorem Slots.below {w w' : World} {B : Nat} {a : Option Addr} {l : List (Bool × Int)} (h : Slots w a l) (hb : Below B w w') (hB : w.heap.size ≤ B) : Slots w' a l := by
  rcases h with h | ⟨b, off, ha, hc⟩
  · exact .inl h
  · refine .inr ⟨b, off, ha, fun i hi => ?_⟩
    obtain ⟨h1, h2⟩ := hc i hi
    exact ⟨(hb.cell (Nat.lt_of_lt_of_le (World.block_lt_of_cell? _ _ h1) hB)).trans h1, (hb.cell (Nat.lt_of_lt_of_le (World.block_lt_of_cell? _ _ h2) hB)).trans h2⟩

/-- the ids of a pattern's slots, if all are there -/
def groundL (sub : List Int) : List (Bool × Int) → Option (List Int)
  | [] => some []
  | s :: r => if valueL s.1 s.2 sub < 0 then none else (groundL sub r).map (valueL s.1 s.2 sub :: ·)
theorem ground_snoc (sub : List Int) (l : List (Bool × Int)) (s : Bool × Int) :
    groundL sub (l ++ [s]) = (groundL sub l).bind fun xs => if valueL s.1 s.2 sub < 0 then none else some (xs ++ [valueL s.1 s.2 sub]) := by
  induction l with
  | nil => simp only [List.nil_append, groundL]; split <;> simp
  | cons x l ih =>
    simp only [List.cons_append, groundL, ih]
    split
    · rfl
    · cases groundL sub l with
      | none => rfl
      | some xs => simp only [Option.bind_some, Option.map_some]; split <;> simp
theorem ground_none (sub : List Int) (l : List (Bool × Int)) (m : List (Bool × Int)) (h : groundL sub l = none) : groundL sub (l ++ m) = none := by
  induction l with
  | nil => simp [groundL] at h
  | cons x l ih =>
    simp only [List.cons_append, groundL] at h ⊢
    split
    · rfl
    · rename_i hx
      rw [if_neg hx] at h
      rw [ih (by simpa using h)]; rfl
theorem ground_length {sub : List Int} {l : List (Bool × Int)} {xs : List Int} (h : groundL sub l = some xs) : xs.length = l.length := by
  induction l generalizing xs with
  | nil => simp [groundL] at h; subst h; rfl
  | cons x l ih =>
    simp only [groundL] at h
    split at h
    · cases h
    · obtain ⟨ys, hy, rfl⟩ := Option.map_eq_some_iff.1 h
      simp [ih hy]

/-- what a call of Ground leaves -/
def GroundEnd (l : List (Bool × Int)) (sub : List Int) (w : World) (e : Ending) (w' : World) : Prop :=
  ∃ a c, e = .returned (.tuple #[.slice a ((groundL sub l).getD []).length c, .bool (groundL sub l).isSome]) ∧ Ints w' a ((groundL sub l).getD []) ∧ Below w.heap.size w w'

theorem info3 : (Try.prog.info? 3).map (fun i => (i.zero, i.size, i.bytes)) = some (some (.int .i64 0), 1, 8) := by kernel_rfl

theorem slots_at {w : World} {b o : Nat} {l : List (Bool × Int)} (h : ∀ i (h : i < l.length), w.cell? ⟨b, o + i * 2, none⟩ = some (.bool l[i].1) ∧ w.cell? ⟨b, o + i * 2 + 1, none⟩ = some (.int .i64 l[i].2)) {k : Nat} (hk : k < l.length) :
    ∃ v n, w.cell? ⟨b, o + k * 2, none⟩ = some (.bool v) ∧ w.cell? ⟨b, o + k * 2 + 1, none⟩ = some (.int .i64 n) ∧ Hid (l[k]? = some (v, n)) :=
  ⟨l[k].1, l[k].2, (h k hk).1, (h k hk).2, Lib.hid (List.getElem?_eq_getElem hk)⟩
theorem take_snoc' {α : Type} {l : List α} {k : Nat} {x : α} (h : l[k]? = some x) : l.take (k + 1) = l.take k ++ [x] := by
  rw [List.take_add_one, h]; rfl
theorem ints_of_row {w : World} {base : Nat} {v : Value} {xs : List Int} (h : w.ownsRow base 3 1 v xs.length (xs.map (Value.int .i64))) : ∃ a c, v = .slice a xs.length c ∧ Ints w a xs := by
  rcases h.2 with ⟨rfl, h0⟩ | ⟨g, cap, cur, rfl, _⟩
  · have : xs = [] := List.eq_nil_of_length_eq_zero h0
    subst this
    exact ⟨none, 0, rfl, .inl rfl⟩
  · refine ⟨_, _, rfl, .inr ⟨g, 0, rfl, fun i hi => ?_⟩⟩
    have := h.cells (g := g) rfl i (.int .i64 xs[i]) (by simp [hi])
    have e : (⟨g, 0, none⟩ : Addr).add i = ⟨g, 0 + i, none⟩ := by unfold Addr.add; split <;> simp_all
    rwa [e] at this

set_option maxHeartbeats 2000000 in
set_option maxRecDepth 8000 in
theorem ground_any (pred : Int) (ap aa : Option Addr) (cp ca : Nat) (l : List (Bool × Int)) (sub : List Int) (w : World) (hp : Slots w ap l) (ha : Ints w aa sub)
    (hl : l.length * 16 ≤ 140737488351232) (hm : sub.length ≤ 9223372036854775807) :
    Calls Try.prog 29 #[.agg #[.int .i64 pred, .slice ap l.length cp], .slice aa sub.length ca] w (GroundEnd l sub w) := by
  obtain ⟨i0, hi, hz0, hz1, hz2⟩ := info_parts info3
  have HP := Lib.hid hp
  have HA := Lib.hid ha
  clear hp ha
  go_enter Try.func29, Try.ntmps29
  go_wp2_with (at_make; refine wpList_make_own _ rfl _ _ 22 rfl w.heap.size 3 i0 (.int .i64 0) 1 Try.underlying22 hi hz0 hz1 .i64 .i64 _ l.length rfl rfl rfl (by rw [hz2]; omega) (by unfold maxLen; omega) (by simp) ?_; intro w0 hown0 hgrow0; have hc1 := hgrow0.cell (a := ⟨w.heap.size, 1, none⟩) (v := .slice ap l.length cp) (by simp) (by simp))
  have hbe0 : Below w.heap.size w w0 := ((Below.refl _ _).alloc (Nat.le_refl _) _).grown hgrow0 (by simp) (fun j hj => by cases hj)
  go_loopw [6, 17] (fun v i wr => ∃ (k : Nat) (xs : List Int), k ≤ l.length ∧ i = .int .i64 k ∧ Hid (xs.length = k) ∧ Hid (groundL sub (l.take k) = some xs) ∧ wr.ownsRow w.heap.size 3 1 v k (xs.map (Value.int .i64)) ∧ Below w.heap.size w wr) (fun _ i _ => l.length - (intOf i).toNat)
  case atStart => exact ⟨0, [], Nat.zero_le _, rfl, Lib.hid rfl, Lib.hid rfl, by simpa using hown0, hbe0⟩
  case round =>
    clear hown0 hgrow0 hc1 hbe0
    obtain ⟨k, xs, hk, rfl, HX, HK, hown, hbel⟩ := hrel
    by_cases hlt : k < l.length
    · rcases HP.out with h | ⟨bp, op, rfl, hp⟩
      · rw [h] at hlt; simp at hlt
      · obtain ⟨v0, n0, c0, c1, HS⟩ := slots_at hp hlt
        have e0 := (hbel.cell (World.block_lt_of_cell? _ _ c0)).trans c0
        have e1 := (hbel.cell (World.block_lt_of_cell? _ _ c1)).trans c1
        clear hp c0 c1
        go_wp2_with fail
        have hbe2 : Below w.heap.size w (wr.alloc (.cells #[.bool v0, .int .i64 n0] 58)) := hbel.alloc hbel.size _
        refine (value_any aa ca sub v0 n0 _ (HA.out.below hbe2) hm).mono ?_
        rintro e w1 ⟨rfl, hb1⟩
        have hbe3 : Below w.heap.size w w1 := hbe2.trans (hb1.mono (by have := hbel.size; simp; omega))
        have hown1 : w1.ownsRow w.heap.size 3 1 u6 k (xs.map (Value.int .i64)) := (hown.alloc (.cells #[.bool v0, .int .i64 n0] 58)).kept (row := none) ⟨hb1.os, hb1.tape, hb1.output, hb1.size, fun j hj _ => hb1.block j hj⟩ (by cases u6.ownBlock <;> simp)
        obtain ⟨x, hx⟩ : ∃ x, valueL v0 n0 sub = x := ⟨_, rfl⟩
        have HG : Hid (groundL sub (l.take (k + 1)) = if x < 0 then none else some (xs ++ [x])) := Lib.hid (by
          rw [take_snoc' HS.out, ground_snoc, HK.out]; simp only [Option.bind_some, hx])
        rw [hx]
        clear hx hb1 hown hbe2 e0 e1 HS
        by_cases hx0 : x < 0
        · go_wp2
          go_ret2
          have hn : groundL sub l = none := by
            have := HG.out
            rw [if_pos hx0] at this
            rw [← List.take_append_drop (k + 1) l]
            exact ground_none _ _ _ this
          exact ⟨none, 0, by rw [hn]; rfl, .inl (by rw [hn]; rfl), hbe3⟩
        · go_wp2_with (first | (at_builtin; refine wpList_append_own _ rfl _ _ 22 rfl w.heap.size 3 i0 (.int .i64 0) 1 8 Try.underlying22 hi hz0 hz1 hz2 rfl (by decide) _ _ _ rfl (hown1.alloc _) ⟨w1.heap.size, 0, none⟩ 1 1 [.int .i64 x] rfl rfl (cell_one_new _ _ _) (by simp [Value.oneCell']) (by unfold maxLen; omega) (by omega) (by have := hbe3.size; simp; omega) ?_; intro v' w2 hown2 hgrow _))
          have hb4 : Below w.heap.size w w2 := (hbe3.alloc hbe3.size _).grown hgrow (by have := hbe3.size; simp; omega) (fun j hj => by have := (hown1.alloc (Obj.cells #[.int .i64 x] 3)).lt j hj; omega)
          go_wp2
          go_roundw
          case rel => exact ⟨k + 1, xs ++ [x], by omega, by go_num, Lib.hid (by simp [HX.out]), Lib.hid (by rw [HG.out, if_neg (by omega)]), by simpa using hown2, hb4⟩
          case measure => simp [intOf]; omega
    · go_wp2
      go_ret2
      have hn : groundL sub l = some xs := by
        have := HK.out
        rwa [List.take_of_length_le (by omega)] at this
      have hX := HX.out
      subst hX
      obtain ⟨a', c', rfl, hI⟩ := ints_of_row hown
      exact ⟨a', c', by rw [hn]; rfl, by rw [hn]; exact hI, hbel⟩
end Mt
end Go.Proofs.Ytkejjiohkhlnnaa
