/-
  The lists that Of, Where and Row hand out are new: each lies in a block of its own.
-/
import Derived.Test.YtkejjiohkhlnnaaSWhere
namespace Go.Proofs.Ytkejjiohkhlnnaa
open Go.RowKit

/-- what a call leaves that hands out a list of its own -/
def OwnEnd (xs : List Int) (w : World) (e : Ending) (w' : World) : Prop :=
  ∃ v, e = .returned v ∧ w'.ownsRow w.heap.size 3 1 v xs.length (xs.map (Value.int .i64)) ∧ Below w.heap.size w w'

set_option maxHeartbeats 1000000 in
set_option maxRecDepth 8000 in
theorem clone_own {Z : Nat → Prop} (aa : Option Addr) (ca : Nat) (xs : List Int) (w : World) (ha : IntsZ Z w aa ca xs) (hl : xs.length * 8 ≤ 140737488351232) :
    Calls Try.prog 56 #[.slice aa xs.length ca] w (OwnEnd xs w) := by
  have HA := Lib.hid ha
  have hnil := nil_ints
  clear ha
  cases aa with
  | none =>
    obtain ⟨rfl, rfl⟩ := HA.out.2 rfl
    go_enter Try.func56, Try.ntmps56
    go_wp2
    go_ret
    exact ⟨_, rfl, World.ownsRow_nil _ _ _ _, Below.refl _ _⟩
  | some ad =>
    go_enter Try.func56, Try.ntmps56
    go_wp2_with (first | (at_builtin; refine wpList_append_any elemInt _ rfl _ _ rfl w.heap.size (.slice (some ⟨w.heap.size, 0, none⟩) 0 0) 0 [] rfl ⟨rfl, .inr ⟨w.heap.size, 0, #[], rfl, Nat.le_refl _, (MapKept.heap_alloc w _).1, Nat.le_refl _, by unfold maxLen; omega, rfl, rfl⟩⟩ (some ad) xs.length ca (xs.map (Value.int .i64)) rfl (source_ints (HA.out.below ((Below.refl w.heap.size w).alloc (Nat.le_refl _) _) (Nat.le_refl _))) (by simp) (ints_one xs) (by unfold maxLen; omega) (by omega) (by simp) ?_; intro v' w2 hown2 hgrow _))
    simp only [Nat.zero_add, List.nil_append] at hown2
    go_ret
    exact ⟨_, rfl, hown2, ((Below.refl w.heap.size w).alloc (Nat.le_refl _) _).grown hgrow (by simp) (fun j hj => by simp [Value.ownBlock] at hj; omega)⟩
section
variable {s sb : Nat} {σ : St} {h : Hd} {τ : Own} {w : World}
set_option maxHeartbeats 1000000 in
theorem of_own (hs : StoreAt s sb σ h τ w) (p : Int) (hp : Rng p) (hl : σ.rows.length ≤ 1000000000000) : Calls Try.prog 84 #[.pointer (some ⟨sb, 0, none⟩), .int .i64 p] w (OwnEnd (ofK σ.rows (.int .i64 p)) w) := by
  obtain ⟨a, c, hrun, hI⟩ := look_of hs hp
  obtain ⟨c0, c1, c2, c3, c4, c5, c6, c7⟩ := hs.head.cells
  have hlen := idxL_length (fun r => Value.int .i64 p = .int .i64 r.1) σ.rows
  have hlen : (ofK σ.rows (.int .i64 p)).length ≤ σ.rows.length := hlen
  obtain ⟨L, hL⟩ : ∃ L, ofK σ.rows (.int .i64 p) = L := ⟨_, rfl⟩
  rw [hL] at hrun hI hlen ⊢
  have HC := Lib.hid (clone_own a c L w hI (by omega))
  clear hs c0 c1 c2 c3 c5 c6 c7 hI hL
  go_enter Try.func84, Try.ntmps84
  go_wp2_with (go_at_call 56; refine HC.out.mono ?_; rintro e w1 ⟨v', rfl, hI, hb1⟩)
  go_ret
  exact ⟨v', rfl, hI, hb1⟩

set_option maxHeartbeats 1000000 in
theorem where_own (hs : StoreAt s sb σ h τ w) (p i x : Int) (hp : Rng p) (hi : Rng i) (hx : Rng x) (hl : σ.rows.length ≤ 1000000000000) : Calls Try.prog 83 #[.pointer (some ⟨sb, 0, none⟩), .int .i64 p, .int .i64 i, .int .i64 x] w (OwnEnd (whK σ.rows (placeV p i x)) w) := by
  obtain ⟨a, c, hrun, hI⟩ := look_wh hs hp hi hx
  obtain ⟨c0, c1, c2, c3, c4, c5, c6, c7⟩ := hs.head.cells
  have hlen := idxL_length (fun r : Row => ∃ (j : Nat) (y : Int), r.2[j]? = some y ∧ placeV p i x = placeV r.1 j y) σ.rows
  have hlen : (whK σ.rows (placeV p i x)).length ≤ σ.rows.length := hlen
  obtain ⟨L, hL⟩ : ∃ L, whK σ.rows (placeV p i x) = L := ⟨_, rfl⟩
  rw [hL] at hrun hI hlen ⊢
  have HC := Lib.hid (clone_own a c L w hI (by omega))
  clear hs c0 c1 c2 c3 c4 c6 c7 hI hL
  go_enter Try.func83, Try.ntmps83
  go_wp2_with (go_at_call 56; refine HC.out.mono ?_; rintro e w1 ⟨v', rfl, hI, hb1⟩)
  go_ret
  exact ⟨v', rfl, hI, hb1⟩
end
end Go.Proofs.Ytkejjiohkhlnnaa
