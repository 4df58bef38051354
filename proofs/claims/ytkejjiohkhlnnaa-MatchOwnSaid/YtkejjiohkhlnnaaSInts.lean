/-
  Lists of integers as a world holds them, in which blocks they lie; their comparison, their copies.
-/
import Derived.Test.YtkejjiohkhlnnaaInts
import Derived.Test.YtkejjiohkhlnnaaRows
import Derived.Test.YtkejjiohkhlnnaaBase
import Derived.WalkKit
import Derived.WalkSpells
import Derived.WalkLawsBesides
import Derived.Lib.Hide
import Derived.Lib.LazyBuf
import Derived.Deep.QuietTactic
import Derived.BigQuiet
import Derived.Deep.Draws
namespace Go.Proofs.Ytkejjiohkhlnnaa
open Go.RowKit

theorem info3 : (Try.prog.info? 3).map (fun i => (i.zero, i.size, i.bytes)) = some (some (.int .i64 0), 1, 8) := by kernel_rfl
theorem elemInt : Elem Try.prog 22 3 (.int .i64 0) 1 8 := ⟨Try.underlying22, info3, rfl, by decide⟩

/-- the slice a, xs, c of integers lies in blocks of the zone Z; it is nil only where it has no room -/
def IntsZ (Z : Nat → Prop) (w : World) (a : Option Addr) (c : Nat) (xs : List Int) : Prop :=
  (xs = [] ∨ ∃ b off, a = some ⟨b, off, none⟩ ∧ Z b ∧ ∀ i (h : i < xs.length), w.cell? ⟨b, off + i, none⟩ = some (.int .i64 xs[i])) ∧ (a = none → xs = [] ∧ c = 0)
theorem IntsZ.ints {Z : Nat → Prop} {w : World} {a : Option Addr} {c : Nat} {xs : List Int} (h : IntsZ Z w a c xs) : Ints w a xs := by
  rcases h.1 with h | ⟨b, off, ha, _, hc⟩
  · exact .inl h
  · exact .inr ⟨b, off, ha, hc⟩
theorem IntsZ.keep {Z Z' : Nat → Prop} {w w' : World} {a : Option Addr} {c : Nat} {xs : List Int} (h : IntsZ Z w a c xs) (hk : ∀ j, j < w.heap.size → Z j → w'.heap[j]? = w.heap[j]?) (hz : ∀ j, j < w.heap.size → Z j → Z' j) : IntsZ Z' w' a c xs := by
  refine ⟨?_, h.2⟩
  rcases h.1 with h | ⟨b, off, ha, hb, hc⟩
  · exact .inl h
  · rcases Nat.eq_zero_or_pos xs.length with h0 | h0
    · exact .inl (List.eq_nil_of_length_eq_zero h0)
    · have hlt := World.block_lt_of_cell? _ _ (hc 0 h0)
      exact .inr ⟨b, off, ha, hz b hlt hb, fun i hi => (World.cell?_of_block (w := w) (hk b hlt hb)).trans (hc i hi)⟩
theorem IntsZ.below {Z : Nat → Prop} {w w' : World} {a : Option Addr} {c : Nat} {xs : List Int} (h : IntsZ Z w a c xs) {B : Nat} (hb : Below B w w') (hB : w.heap.size ≤ B) : IntsZ Z w' a c xs :=
  h.keep (fun j hj _ => hb.block j (Nat.lt_of_lt_of_le hj hB)) (fun _ _ h => h)
theorem IntsZ.zone {Z Z' : Nat → Prop} {w : World} {a : Option Addr} {c : Nat} {xs : List Int} (h : IntsZ Z w a c xs) (hz : ∀ j, Z j → Z' j) : IntsZ Z' w a c xs :=
  h.keep (fun _ _ _ => rfl) (fun j _ => hz j)

theorem source_ints {Z : Nat → Prop} {w : World} {a : Option Addr} {c : Nat} {xs : List Int} (h : IntsZ Z w a c xs) : Source w a xs.length c (xs.map (Value.int .i64)) := by
  cases a with
  | none =>
    obtain ⟨h1, h2⟩ := h.2 rfl
    exact .inl ⟨rfl, by rw [h1]; rfl, h2, by rw [h1]; rfl⟩
  | some ad =>
    refine .inr ⟨ad, rfl, fun j u hu => ?_⟩
    rcases h.1 with rfl | ⟨b, o, he, _, hc⟩
    · simp at hu
    · cases he
      have e : (⟨b, o, none⟩ : Addr).add j = ⟨b, o + j, none⟩ := by unfold Addr.add; split <;> simp_all
      rw [e]
      rw [List.getElem?_map] at hu
      obtain ⟨x, hx, rfl⟩ := Option.map_eq_some_iff.1 hu
      obtain ⟨hj, rfl⟩ := List.getElem?_eq_some_iff.1 hx
      exact hc j hj
theorem ints_one (xs : List Int) : ∀ u ∈ xs.map (Value.int .i64), u.oneCell' = true := by
  intro u hu
  obtain ⟨x, _, rfl⟩ := List.mem_map.1 hu
  rfl
theorem intsZ_of_row {w : World} {base : Nat} {v : Value} {xs : List Int} (h : w.ownsRow base 3 1 v xs.length (xs.map (Value.int .i64))) : ∃ a c, v = .slice a xs.length c ∧ IntsZ (fun j => base ≤ j) w a c xs := by
  rcases owns_form h with ⟨rfl, h0, _⟩ | ⟨g, cap, rfl, hb, _, _, _, _, hc, _⟩
  · have : xs = [] := List.eq_nil_of_length_eq_zero h0
    subst this
    exact ⟨none, 0, rfl, .inl rfl, fun _ => ⟨rfl, rfl⟩⟩
  · refine ⟨_, _, rfl, .inr ⟨g, 0, rfl, hb, fun i hi => ?_⟩, fun h => by cases h⟩
    rw [Nat.zero_add]
    exact hc i _ (by simp [hi])

theorem take_snoc' {α : Type} {l : List α} {k : Nat} {x : α} (h : l[k]? = some x) : l.take (k + 1) = l.take k ++ [x] := by
  rw [List.take_add_one, h]; rfl

/-- what a call that copies a list of integers leaves -/
def IntsEnd (xs : List Int) (w : World) (e : Ending) (w' : World) : Prop :=
  ∃ a c, e = .returned (.slice a xs.length c) ∧ IntsZ (fun j => w.heap.size ≤ j) w' a c xs ∧ Below w.heap.size w w'

theorem nil_ints (w : World) (a : Option Addr) (l c : Nat) : (binOp .eql 22 (.slice a l c) (.slice none 0 0)).run Try.prog w = .ok (.bool a.isNone) w := run_eql_slice_nil w _ _ a l c Try.underlying22

set_option maxHeartbeats 1000000 in
set_option maxRecDepth 8000 in
theorem clone_any {Z : Nat → Prop} (aa : Option Addr) (ca : Nat) (xs : List Int) (w : World) (ha : IntsZ Z w aa ca xs) (hl : xs.length * 8 ≤ 140737488351232) :
    Calls Try.prog 56 #[.slice aa xs.length ca] w (IntsEnd xs w) := by
  have HA := Lib.hid ha
  have hnil := nil_ints
  clear ha
  cases aa with
  | none =>
    obtain ⟨rfl, rfl⟩ := HA.out.2 rfl
    go_enter Try.func56, Try.ntmps56
    go_wp2
    go_ret
    exact ⟨none, 0, rfl, ⟨.inl rfl, fun _ => ⟨rfl, rfl⟩⟩, Below.refl _ _⟩
  | some ad =>
    go_enter Try.func56, Try.ntmps56
    go_wp2_with (first | (at_builtin; refine wpList_append_any elemInt _ rfl _ _ rfl w.heap.size (.slice (some ⟨w.heap.size, 0, none⟩) 0 0) 0 [] rfl ⟨rfl, .inr ⟨w.heap.size, 0, #[], rfl, Nat.le_refl _, (MapKept.heap_alloc w _).1, Nat.le_refl _, by unfold maxLen; omega, rfl, rfl⟩⟩ (some ad) xs.length ca (xs.map (Value.int .i64)) rfl (source_ints (HA.out.below ((Below.refl w.heap.size w).alloc (Nat.le_refl _) _) (Nat.le_refl _))) (by simp) (ints_one xs) (by unfold maxLen; omega) (by omega) (by simp) ?_; intro v' w2 hown2 hgrow _))
    simp only [Nat.zero_add, List.nil_append] at hown2
    obtain ⟨a, c, rfl, hI⟩ := intsZ_of_row hown2
    go_ret
    exact ⟨a, c, rfl, hI, ((Below.refl w.heap.size w).alloc (Nat.le_refl _) _).grown hgrow (by simp) (fun j hj => by simp [Value.ownBlock] at hj; omega)⟩
end Go.Proofs.Ytkejjiohkhlnnaa
