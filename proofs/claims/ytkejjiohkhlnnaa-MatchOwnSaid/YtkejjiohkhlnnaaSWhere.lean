/-
  What Where answers; plain facts on the lists by places.
-/
import Derived.Test.YtkejjiohkhlnnaaSBatch
namespace Go.Proofs.Ytkejjiohkhlnnaa
open Go.RowKit
open Go.Maps (Keyed)

section
variable {s sb : Nat} {σ : St} {h : Hd} {τ : Own} {w : World}
theorem look_wh (hs : StoreAt s sb σ h τ w) {p i x : Int} (hp : Rng p) (hi : Rng i) (hx : Rng x) : ∃ a c, (Instr.lookup 106 (.map (some h.bW)) (.agg #[.int .i64 p, .int .i64 i, .int .i64 x]) false).run Try.prog w = .ok (.slice a (whK σ.rows (placeV p i x)).length c) w ∧ IntsZ (fun _ => True) w a c (whK σ.rows (placeV p i x)) := by
  obtain ⟨_, f, hm, h3, h4⟩ := hs.wh
  obtain ⟨l, hl⟩ := placeKey_of hp hi hx
  have hrun := hm.look (Keyed.of_law placeLaw) Try.underlying106 (zeroInts w) hl false
  cases hf : f (placeV p i x) with
  | none =>
    rw [hf] at hrun
    have hn := h3 _ hf ⟨l, hl⟩
    rw [hn]
    exact ⟨none, 0, hrun, .inl rfl, fun _ => ⟨rfl, rfl⟩⟩
  | some v =>
    rw [hf] at hrun
    obtain ⟨ho, _⟩ := h4 _ v hf
    obtain ⟨a, c, rfl, hI⟩ := intsZ_of_row ho
    exact ⟨a, c, hrun, hI.zone fun _ _ => trivial⟩

set_option maxHeartbeats 1000000 in
theorem where_any (hs : StoreAt s sb σ h τ w) (p i x : Int) (hp : Rng p) (hi : Rng i) (hx : Rng x) (hl : σ.rows.length ≤ 1000000000000) : Calls Try.prog 83 #[.pointer (some ⟨sb, 0, none⟩), .int .i64 p, .int .i64 i, .int .i64 x] w (IntsEnd (whK σ.rows (placeV p i x)) w) := by
  obtain ⟨a, c, hrun, hI⟩ := look_wh hs hp hi hx
  obtain ⟨c0, c1, c2, c3, c4, c5, c6, c7⟩ := hs.head.cells
  have hlen := idxL_length (fun r : Row => ∃ (j : Nat) (y : Int), r.2[j]? = some y ∧ placeV p i x = placeV r.1 j y) σ.rows
  have hlen : (whK σ.rows (placeV p i x)).length ≤ σ.rows.length := hlen
  obtain ⟨L, hL⟩ : ∃ L, whK σ.rows (placeV p i x) = L := ⟨_, rfl⟩
  rw [hL] at hrun hI hlen ⊢
  have HC := Lib.hid (clone_any a c L w hI (by omega))
  clear hs c0 c1 c2 c3 c4 c6 c7 hI hL
  go_enter Try.func83, Try.ntmps83
  go_wp2_with (go_at_call 56; refine HC.out.mono ?_; rintro e w1 ⟨a', c', rfl, hI, hb1⟩)
  go_ret
  exact ⟨a', c', rfl, hI, hb1⟩
end

/-- holds the row the id x at the place j of the predicate p? -/
def AtP (p : Int) (j : Nat) (x : Int) (r : Row) : Prop := r.1 = p ∧ r.2[j]? = some x
theorem whK_nat (rows : List Row) (p : Int) (j : Nat) (x : Int) : whK rows (placeV p j x) = idxL (AtP p j x) rows := by
  unfold whK
  congr 1
  funext r
  apply propext
  constructor
  · rintro ⟨i, y, h1, h2⟩
    simp only [placeV, Value.agg.injEq] at h2
    have := congrArg Array.toList h2
    simp at this
    obtain ⟨rfl, h3, rfl⟩ := this
    have : i = j := by omega
    subst this
    exact ⟨rfl, h1⟩
  · rintro ⟨rfl, h1⟩
    exact ⟨j, x, h1, rfl⟩
theorem idxL_none {q : Row → Prop} {rows : List Row} (h : ∀ r ∈ rows, ¬ q r) : idxL q rows = [] := by
  unfold idxL
  rw [List.filterMap_eq_nil_iff]
  intro x hx
  have : x.1 ∈ rows := by
    have := List.mem_zipIdx hx
    rw [this.2.2]
    exact List.getElem_mem _
  rw [if_neg (h _ this)]
theorem whK_neg (rows : List Row) (p x : Int) : whK rows (placeV p (-1) x) = [] := by
  unfold whK
  refine idxL_none fun r _ => ?_
  rintro ⟨i, y, h1, h2⟩
  simp only [placeV, Value.agg.injEq] at h2
  have := congrArg Array.toList h2
  simp at this
theorem joinedL_twice (l M : List Row) : joinedL l (joinedL l M) = joinedL l M := by
  have key : ∀ n (M : List Row), M.length = n → joinedL l (joinedL l M) = joinedL l M := by
    intro n
    induction n with
    | zero =>
      intro M hM
      have : M = [] := List.eq_nil_of_length_eq_zero hM
      subst this
      exact joinedL_self l l (fun r h => h)
    | succ n ih =>
      intro M hM
      obtain ⟨M', r, rfl⟩ : ∃ M' r, M = M' ++ [r] := by
        rcases List.eq_nil_or_concat M with h | ⟨M', r, h⟩
        · subst h; cases hM
        · exact ⟨M', r, by simpa using h⟩
      have hM' : M'.length = n := by simpa using hM
      rw [joinedL_snoc]
      split
      · exact ih M' hM'
      · rename_i hr
        rw [joinedL_snoc, ih M' hM', if_neg hr]
  exact key _ M rfl
end Go.Proofs.Ytkejjiohkhlnnaa
