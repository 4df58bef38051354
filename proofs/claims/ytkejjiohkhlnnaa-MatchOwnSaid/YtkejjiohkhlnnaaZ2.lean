/-
  Match: several of its texts in one.
-/
import Derived.Test.YtkejjiohkhlnnaaZ1
import Derived.Test.YtkejjiohkhlnnaaSBad
import Derived.Test.YtkejjiohkhlnnaaBase
import Derived.Test.YtkejjiohkhlnnaaRows
import Derived.Lib.ReflectliteSlice
import Derived.Lib.ReflectliteSwap
import Derived.Laws.Externs
import Derived.WalkKit
import Derived.LoopN
import Derived.BigCall
import Derived.BigGuard
import Derived.Deep.Cut
import Derived.Deep.DeepCutAuto
namespace Go.Proofs.Ytkejjiohkhlnnaa
open Go.RowKit
namespace Mt

/-- the cells of a search -/
def srchCells (sb ob : Nat) (ca : Option Addr) (cn cc : Nat) (r : RuleV) (last : Nat) : Array Value :=
  #[.pointer (some ⟨sb, 0, none⟩), .slice ca cn cc, .int .i64 r.hp, .slice r.ha r.hn r.hc, .slice r.pa r.pos.length r.pc, .slice r.ta r.tests.length r.tc, .slice r.na r.neg.length r.nc, .slice r.va r.nv r.vc, .int .i64 r.cl, .int .i64 last, .func (.func 48) #[] #[.pointer (some ⟨ob, 0, none⟩)]]
/-- what a search goes over -/
structure SrchD where
  B : World
  ob : Nat
  qb : Nat
  s : Nat
  sb : Nat
  σ : St
  h : Hd
  τ : Own
  R : RuleV
  ca : Option Addr
  cc : Nat
  cs : List C3
  last : Nat
structure SrchIn (D : SrchD) : Prop where
  store : StoreAt D.s D.sb D.σ D.h D.τ D.B
  rule : RuleIn D.B D.R
  consts : Consts D.B D.ca D.cs
  ok : RuleOk D.R D.cs.length
  cok : ConstsOk D.cs
  rows : D.σ.rows.length ≤ 1000000
  preds : (∀ p ∈ D.R.pos, Rng p.1) ∧ ∀ p ∈ D.R.neg, Rng p.1
  last : D.last ≤ (condsL D.R).length
structure SrchAt (D : SrchD) (W : World) : Prop where
  old : Below D.B.heap.size D.B W
  lo : D.B.heap.size ≤ D.ob
  q : W.heap[D.qb]? = some (.cells (srchCells D.sb D.ob D.ca D.cs.length D.cc D.R D.last) 96 (0, 0))
  qo : D.qb ≠ D.ob
  qg : GOf D.ob W ≠ some D.qb
theorem SrchAt.grew {D : SrchD} {W W' : World} {v : Value} {acc : List (List Int)} (A : SrchAt D W) (O : OutV D.ob v acc W) (h : Grew D.ob W W') : SrchAt D W' := by
  have hq := (Array.getElem?_eq_some_iff.1 A.q).1
  refine ⟨A.old.trans ((h.old O.lt (fun g e => (O.rowLt (O.gof ▸ e)).1)).mono A.lo), A.lo, (h.keep _ hq A.qo A.qg).trans A.q, A.qo, ?_⟩
  rcases h.row with h1 | h1
  · rw [h1]; exact A.qg
  · intro e
    have := h1 _ e
    omega
theorem SrchAt.below {D : SrchD} {W W' : World} {v : Value} {acc : List (List Int)} (A : SrchAt D W) (O : OutV D.ob v acc W) (h : Below W.heap.size W W') : SrchAt D W' := A.grew O (Grew.below h O.lt)
/-- integers in a block that the search's list does not touch -/
def IntsA (ob : Nat) (w : World) (a : Option Addr) (xs : List Int) : Prop :=
  xs = [] ∨ ∃ b off, a = some ⟨b, off, none⟩ ∧ b ≠ ob ∧ GOf ob w ≠ some b ∧ ∀ i (h : i < xs.length), w.cell? ⟨b, off + i, none⟩ = some (.int .i64 xs[i])
theorem IntsA.ints {ob : Nat} {w : World} {a : Option Addr} {xs : List Int} (h : IntsA ob w a xs) : Ints w a xs := by
  rcases h with h | ⟨b, off, h1, _, _, h2⟩
  · exact .inl h
  · exact .inr ⟨b, off, h1, h2⟩
theorem IntsA.grew {ob : Nat} {w w' : World} {a : Option Addr} {xs : List Int} (h : IntsA ob w a xs) (g : Grew ob w w') : IntsA ob w' a xs := by
  rcases h with h | ⟨b, off, h1, h2, h3, h4⟩
  · exact .inl h
  · rcases Nat.eq_zero_or_pos xs.length with h0 | h0
    · exact .inl (List.eq_nil_of_length_eq_zero h0)
    · have hlt := World.block_lt_of_cell? _ _ (h4 0 h0)
      refine .inr ⟨b, off, h1, h2, ?_, fun i hi => g.cell (h4 i hi) h2 h3⟩
      rcases g.row with e | e
      · rw [e]; exact h3
      · intro e'
        have := e _ e'
        simp only at hlt
        omega
theorem IntsA.new {ob : Nat} {w w' : World} {a : Option Addr} {xs : List Int} (h : Ints w' a xs) (hb : Below w.heap.size w w') (ho : ob < w.heap.size) (hg : ∀ g, GOf ob w = some g → g < w.heap.size) (hn : ∀ b o, a = some ⟨b, o, none⟩ → w.heap.size ≤ b) : IntsA ob w' a xs := by
  rcases h with h | ⟨b, off, h1, h2⟩
  · exact .inl h
  · have := hn _ _ h1
    refine .inr ⟨b, off, h1, by omega, ?_, h2⟩
    rw [GOf_same (hb.block ob ho)]
    intro e
    have := hg _ e
    omega
/-- what down leaves -/
def DownEnd (ob : Nat) (acc res : List (List Int)) (w : World) (e : Ending) (w' : World) : Prop :=
  e = .returned (.bool true) ∧ Grew ob w w' ∧ ∃ v', OutV ob v' (acc ++ res) w'
/-- down's four variables, made -/
theorem four_boxes (W : World) (x0 x1 x2 x3 : Value) (t0 t1 t2 t3 : TypeId) (b3 b4 b5 b6 : Nat) (W0 : World) (h3 : b3 = W.heap.size) (h4 : b4 = W.heap.size + 1) (h5 : b5 = W.heap.size + 1 + 1) (h6 : b6 = W.heap.size + 1 + 1 + 1)
    (hW : W0 = (((W.alloc (.cells #[x0] t0)).alloc (.cells #[x1] t1)).alloc (.cells #[x2] t2)).alloc (.cells #[x3] t3)) :
    Below W.heap.size W W0 ∧ W0.heap.size = W.heap.size + 4 ∧ W0.heap[b3]? = some (.cells #[x0] t0 (0, 0)) ∧ W0.heap[b4]? = some (.cells #[x1] t1 (0, 0)) ∧ W0.heap[b5]? = some (.cells #[x2] t2 (0, 0)) ∧ W0.heap[b6]? = some (.cells #[x3] t3 (0, 0)) := by
  obtain ⟨V1, h1⟩ : ∃ V, V = W.alloc (.cells #[x0] t0) := ⟨_, rfl⟩
  obtain ⟨V2, h2⟩ : ∃ V, V = V1.alloc (.cells #[x1] t1) := ⟨_, rfl⟩
  obtain ⟨V3, h3'⟩ : ∃ V, V = V2.alloc (.cells #[x2] t2) := ⟨_, rfl⟩
  rw [← h1, ← h2, ← h3'] at hW
  have s1 : V1.heap.size = W.heap.size + 1 := by rw [h1]; simp
  have s2 : V2.heap.size = W.heap.size + 2 := by rw [h2]; simp; omega
  have s3 : V3.heap.size = W.heap.size + 3 := by rw [h3']; simp; omega
  have k1 : Below W.heap.size W V1 := by rw [h1]; exact (Below.refl _ _).alloc (Nat.le_refl _) _
  have k2 : Below V1.heap.size V1 V2 := by rw [h2]; exact (Below.refl _ _).alloc (Nat.le_refl _) _
  have k3 : Below V2.heap.size V2 V3 := by rw [h3']; exact (Below.refl _ _).alloc (Nat.le_refl _) _
  have k4 : Below V3.heap.size V3 W0 := by rw [hW]; exact (Below.refl _ _).alloc (Nat.le_refl _) _
  have n1 : V1.heap[W.heap.size]? = some (.cells #[x0] t0 (0, 0)) := by rw [h1]; exact (MapKept.heap_alloc _ _).1
  have n2 : V2.heap[V1.heap.size]? = some (.cells #[x1] t1 (0, 0)) := by rw [h2]; exact (MapKept.heap_alloc _ _).1
  have n3 : V3.heap[V2.heap.size]? = some (.cells #[x2] t2 (0, 0)) := by rw [h3']; exact (MapKept.heap_alloc _ _).1
  have n4 : W0.heap[V3.heap.size]? = some (.cells #[x3] t3 (0, 0)) := by rw [hW]; exact (MapKept.heap_alloc _ _).1
  refine ⟨k1.trans ((k2.trans ((k3.trans (k4.mono (by omega))).mono (by omega))).mono (by omega)), by rw [hW]; simp; omega, ?_, ?_, ?_, ?_⟩
  · rw [h3, k4.block _ (by omega), k3.block _ (by omega), k2.block _ (by omega)]; exact n1
  · rw [h4, k4.block _ (by omega), k3.block _ (by omega), show W.heap.size + 1 = V1.heap.size by omega]; exact n2
  · rw [h5, k4.block _ (by omega), show W.heap.size + 1 + 1 = V2.heap.size by omega]; exact n3
  · rw [h6, show W.heap.size + 1 + 1 + 1 = V3.heap.size by omega]; exact n4
theorem intsA_z {ob : Nat} {w : World} {a : Option Addr} {c : Nat} {xs : List Int} (h : IntsA ob w a xs) (hn : a = none → c = 0) : IntsZ (fun _ => True) w a c xs := by
  rcases h with rfl | ⟨b, off, rfl, _, _, h2⟩
  · exact ⟨.inl rfl, fun e => ⟨rfl, hn e⟩⟩
  · exact ⟨.inr ⟨b, off, rfl, trivial, h2⟩, fun e => by cases e⟩
/-- a variable of down's own is written -/
theorem grew_own {ob b6 : Nat} {w V : World} {v0 : Value} {acc : List (List Int)} {cs : Array Value} {T : TypeId} (hG : Grew ob w V) (hO : OutV ob v0 acc V) (h6 : V.heap[b6]? = some (.cells cs T (0, 0))) (hk : w.heap.size ≤ b6 ∧ ob ≠ b6 ∧ GOf ob V ≠ some b6) (hT : T ≠ 22 ∧ T ≠ 3) (v : Value) :
    Grew ob w (V.setCell ⟨b6, 0, none⟩ v) ∧ OutV ob v0 acc (V.setCell ⟨b6, 0, none⟩ v) := by
  obtain ⟨k1, k2, k3⟩ := hk
  have far : ∀ j, j ≠ b6 → (V.setCell ⟨b6, 0, none⟩ v).heap[j]? = V.heap[j]? := fun j hj => Below.heap_setCell _ _ _ _ (fun e => hj e)
  have hg : GOf ob (V.setCell ⟨b6, 0, none⟩ v) = GOf ob V := GOf_same (far ob k2)
  refine ⟨⟨hG.os, hG.tape, hG.output, by simpa using hG.size, fun j hj hn hgj => (far j (by omega)).trans (hG.keep j hj hn hgj), by rw [hg]; exact hG.row⟩, (far ob k2).trans hO.box, ?_⟩
  obtain ⟨hs, h1, h2, h3⟩ := hO.row
  have key : ∀ {e base size n : Nat} {u : Value} {xs : List Value}, V.ownsRow base e size u n xs → T ≠ e → (V.setCell ⟨b6, 0, none⟩ v).ownsRow base e size u n xs := fun {e base size n u xs} h hTe => owns_block h (fun g hu => far g (fun e' => by
    subst e'
    rcases h.2 with ⟨rfl, _⟩ | ⟨g', cap, cur, rfl, _, hc, _⟩
    · cases hu
    · cases hu
      rw [h6] at hc
      cases hc
      exact hTe rfl))
  refine ⟨hs, key h1 hT.1, fun i xs hx => ?_, h3⟩
  obtain ⟨u, q1, q2, q3⟩ := h2 i xs hx
  exact ⟨u, q1, key q2 hT.2, q3⟩
/-- the search's end: what is found is told -/
theorem down_fin {D : SrchD} {W V V' : World} {acc : List (List Int)} {sub : List Int} {b6 : Nat} (hG : Grew D.ob W V) (hF : FoundEnd D.ob acc sub V (.returned (.bool true)) V') (h6 : V.heap[b6]? = some (.cells #[.bool false] 4 (0, 0))) (hk : W.heap.size ≤ b6 ∧ D.ob ≠ b6 ∧ GOf D.ob V ≠ some b6) (v : Value) :
    DownEnd D.ob acc [sub] W (.returned (.bool true)) (V'.setCell ⟨b6, 0, none⟩ v) := by
  obtain ⟨-, hg, v', hO'⟩ := hF
  have h6' : V'.heap[b6]? = some (.cells #[.bool false] 4 (0, 0)) := (hg.keep b6 (Array.getElem?_eq_some_iff.1 h6).1 (Ne.symm hk.2.1) hk.2.2).trans h6
  have hg6 : GOf D.ob V' ≠ some b6 := by
    rcases hg.row with e | e
    · rw [e]; exact hk.2.2
    · intro e'
      have := e _ e'
      have := (Array.getElem?_eq_some_iff.1 h6).1
      omega
  obtain ⟨k1, k2⟩ := grew_own (hG.trans hg) hO' h6' ⟨hk.1, hk.2.1, hg6⟩ ⟨by decide, by decide⟩ v
  exact ⟨rfl, k1, v', k2⟩
set_option linter.unusedSimpArgs false in
set_option maxHeartbeats 8000000 in
set_option maxRecDepth 8000 in
theorem down_nil (D : SrchD) (C : SrchIn D) (i : Nat) (hi : i = D.last) (W : World) (a : Option Addr) (c : Nat) (sub : List Int) (v : Value) (acc : List (List Int)) (A : SrchAt D W) (O : OutV D.ob v acc W) (hI : IntsA D.ob W a sub) (hnil : a = none → c = 0) (hs : sub.length ≤ 16) (hsr : ∀ x ∈ sub, Rng x) (hn : acc.length + 1 ≤ 1000000) :
    Calls Try.prog 49 #[.pointer (some ⟨D.qb, 0, none⟩), .int .i64 i, .slice a sub.length c] W (DownEnd D.ob acc [sub] W) := by
  obtain ⟨n, hnl⟩ : ∃ n, n = sub.length := ⟨_, rfl⟩
  rw [← hnl] at hs ⊢
  have Hnl := Lib.hid hnl
  have HC := Lib.hid C
  have Hsr := Lib.hid hsr
  have Hnil := Lib.hid hnil
  clear hnl C hsr hnil
  obtain ⟨b3, h3⟩ : ∃ b, b = W.heap.size := ⟨_, rfl⟩
  obtain ⟨b4, h4⟩ : ∃ b, b = W.heap.size + 1 := ⟨_, rfl⟩
  obtain ⟨b5, h5⟩ : ∃ b, b = W.heap.size + 1 + 1 := ⟨_, rfl⟩
  obtain ⟨b6, h6⟩ : ∃ b, b = W.heap.size + 1 + 1 + 1 := ⟨_, rfl⟩
  obtain ⟨W0, hW0⟩ : ∃ V, V = (((W.alloc (.cells #[.pointer (some ⟨D.qb, 0, none⟩)] 94)).alloc (.cells #[.int .i64 i] 3)).alloc (.cells #[.slice a n c] 22)).alloc (.cells #[.bool false] 4) := ⟨_, rfl⟩
  obtain ⟨hb0, hs0, g3, g4, g5, g6⟩ := four_boxes W _ _ _ _ _ _ _ _ b3 b4 b5 b6 W0 h3 h4 h5 h6 hW0
  have A0 := A.below O hb0
  have O0 := O.below hb0
  have I0 := hI.grew (Grew.below hb0 O.lt)
  have HG0 := Lib.hid (Grew.below hb0 O.lt)
  have HA0 := Lib.hid A0
  have HO0 := Lib.hid O0
  have HI0 := Lib.hid I0
  have y3 : W0.cell? ⟨b3, 0, none⟩ = some (.pointer (some ⟨D.qb, 0, none⟩)) := by simp [World.cell?, g3]
  have y4 : W0.cell? ⟨b4, 0, none⟩ = some (.int .i64 i) := by simp [World.cell?, g4]
  have y5 : W0.cell? ⟨b5, 0, none⟩ = some (.slice a n c) := by simp [World.cell?, g5]
  have hqc : ∀ (j : Nat) y, (srchCells D.sb D.ob D.ca D.cs.length D.cc D.R D.last)[j]? = some y → W0.cell? ⟨D.qb, j, none⟩ = some y := fun j y hj => by
    have hq := A0.q
    simp [World.cell?, hq, hj]
  have yl : W0.cell? ⟨D.qb, 9, none⟩ = some (.int .i64 D.last) := hqc 9 _ rfl
  have yf : W0.cell? ⟨D.qb, 10, none⟩ = some (.func (.func 48) #[] #[.pointer (some ⟨D.ob, 0, none⟩)]) := hqc 10 _ rfl
  have hlt := O.lt
  have hrow : ∀ g, GOf D.ob W = some g → g < W.heap.size := fun g e => (O.rowLt (O.gof ▸ e)).2
  have hq6 : D.qb ≠ b6 := by have := (Array.getElem?_eq_some_iff.1 A.q).1; omega
  have ho6 : D.ob ≠ b6 := by omega
  have hdist : b3 ≠ b6 ∧ b4 ≠ b6 ∧ b5 ≠ b6 := ⟨by omega, by omega, by omega⟩
  obtain ⟨f3, f4, f5⟩ := hdist
  have Hrow := Lib.hid hrow
  have Hqo := Lib.hid A.qo
  have hgV : GOf D.ob W = v.ownBlock := O.gof
  have Hqg : Hid (v.ownBlock ≠ some D.qb) := Lib.hid (by rw [← hgV]; exact A.qg)
  have Hfar : Hid (∀ b, W.heap.size ≤ b → v.ownBlock ≠ some b) := Lib.hid (fun b hb e => by rw [← hgV] at e; have := hrow _ e; omega)
  have Hlo : Hid (W.heap.size ≤ b3 ∧ W.heap.size ≤ b4 ∧ W.heap.size ≤ b5 ∧ W.heap.size ≤ b6) := Lib.hid ⟨by omega, by omega, by omega, by omega⟩
  have Hb6o : Hid (W.heap.size ≤ b6 ∧ D.ob ≠ b6 ∧ v.ownBlock ≠ some b6) := Lib.hid ⟨by omega, by omega, Hfar.out _ (by omega)⟩
  clear hgV
  have Hb6 : Hid (W.heap.size ≤ b6 ∧ b6 < W0.heap.size) := Lib.hid ⟨by omega, by omega⟩
  have HW0 := Lib.hid hW0
  have H3 := Lib.hid h3
  have H4 := Lib.hid h4
  have H5 := Lib.hid h5
  have H6 := Lib.hid h6
  have Hqc := Lib.hid hqc
  have Hg := Lib.hid (⟨g3, g4, g5, g6⟩ : _ ∧ _ ∧ _ ∧ _)
  clear hqc g3 g4 g5 g6 hs0 A0 O0 I0 A O hI hrow hW0 h3 h4 h5 h6
  rw [← hi] at yl
  clear hi
  go_enter Try.func49, Try.ntmps49
  go_upto_region 1 with fail
  rw [← HW0.out, ← H6.out, ← H5.out, ← H4.out, ← H3.out]
  go_quiet (fail)
  obtain ⟨V0, hV0⟩ : ∃ V, V = W0.drewN nq := ⟨_, rfl⟩
  have hbV : Below W0.heap.size W0 V0 := by rw [hV0]; exact below_drewN (Below.refl _ _) _
  rw [← hV0]
  have y3 := on_cell hbV y3
  have y5 := on_cell hbV y5
  have yf := on_cell hbV yf
  have hO1 : OutV D.ob v acc V0.drew := (HO0.out.below hbV).below (Below.refl _ _).drew
  have hI1 : IntsZ (fun _ => True) V0.drew a c sub := intsA_z ((HI0.out.grew (Grew.below hbV HO0.out.lt)).grew (Grew.below (Below.refl _ _).drew (HO0.out.below hbV).lt)) Hnil.out
  have cW := Lib.hid (found_any a c sub V0.drew hO1 hI1 (by rw [← Hnl.out]; omega) hn)
  rw [← Hnl.out] at cW
  have hG1 : Grew D.ob W V0.drew := HG0.out.trans ((Grew.below hbV HO0.out.lt).trans (Grew.below (Below.refl _ _).drew (HO0.out.below hbV).lt))
  have g6 := Hg.out.2.2.2
  have hb6V : V0.drew.heap[b6]? = some (.cells #[.bool false] 4 (0, 0)) := (hbV.block b6 Hb6.out.2).trans g6
  have HG1 := Lib.hid hG1
  have HO1 := Lib.hid hO1
  have Hb6V := Lib.hid hb6V
  clear hV0 hG1 hO1 hI1 g6 hbV hn hb6V yl y4
  go_upto_region 2 with fail
  refine wp_region_noPanic ?_
  refine wp_region_held_drew (S := (fun w' => w'.cell? ⟨b3, 0, none⟩ = some (.pointer (some ⟨D.qb, 0, none⟩)) ∧ w'.cell? ⟨D.qb, 10, none⟩ = some (.func (.func 48) #[] #[.pointer (some ⟨D.ob, 0, none⟩)]) ∧ w'.cell? ⟨b5, 0, none⟩ = some (.slice a n c))) (by kernel_rfl) ?_ (fun hHeld => ?_)
  · exact ⟨y3, yf, y5⟩
  refine wpAnyH_take (i := 0) (oi := ⟨some 22, _, _, _, _, _⟩) (v := ?_) rfl (by kernel_rfl) (by kernel_rfl) (by kernel_rfl) (fun _ _ _ h => h) (Or.inl ⟨by rfl, ?_⟩) (by assumption) ?_
  rotate_left 1
  · intro w hSw
    (try dsimp only at hSw)
    go_simp
    all_goals with_reducible rfl
  (try simp only [Act.put, List.setIfInBounds_toArray, List.set_cons_zero, List.set_cons_succ])
  refine wpAnyH_take (i := 1) (oi := ⟨some 23, _, _, _, _, _⟩) (v := ?_) rfl (by kernel_rfl) (by kernel_rfl) (by kernel_rfl) (fun _ _ _ h => h) (Or.inl ⟨by rfl, ?_⟩) (by assumption) ?_
  rotate_left 1
  · intro w hSw
    (try dsimp only at hSw)
    go_simp
    all_goals with_reducible rfl
  (try simp only [Act.put, List.setIfInBounds_toArray, List.set_cons_zero, List.set_cons_succ])
  refine wpAnyH_take (i := 2) (oi := ⟨some 24, _, _, _, _, _⟩) (v := ?_) rfl (by kernel_rfl) (by kernel_rfl) (by kernel_rfl) (fun _ _ _ h => h) (Or.inl ⟨by rfl, ?_⟩) (by assumption) ?_
  rotate_left 1
  · intro w hSw
    (try dsimp only at hSw)
    go_simp
    all_goals with_reducible rfl
  (try simp only [Act.put, List.setIfInBounds_toArray, List.set_cons_zero, List.set_cons_succ])
  refine wpAnyH_take (i := 3) (oi := ⟨some 25, _, _, _, _, _⟩) (v := ?_) rfl (by kernel_rfl) (by kernel_rfl) (by kernel_rfl) (fun _ _ _ h => h) (Or.inl ⟨by rfl, ?_⟩) (by assumption) ?_
  rotate_left 1
  · intro w hSw
    (try dsimp only at hSw)
    go_simp
    all_goals with_reducible rfl
  (try simp only [Act.put, List.setIfInBounds_toArray, List.set_cons_zero, List.set_cons_succ])
  refine wpAnyH_take (i := 4) (oi := ⟨some 26, _, _, _, _, _⟩) (v := ?_) rfl (by kernel_rfl) (by kernel_rfl) (by kernel_rfl) (fun _ _ _ h => h) (Or.inl ⟨by rfl, ?_⟩) (by assumption) ?_
  rotate_left 1
  · intro w hSw
    (try dsimp only at hSw)
    go_simp
    all_goals with_reducible rfl
  (try simp only [Act.put, List.setIfInBounds_toArray, List.set_cons_zero, List.set_cons_succ])
  refine wpAnyH_ready (rs := [5]) (by kernel_rfl) (by simp) ?_
  refine AllReadyH.cons (o := _) rfl (fun K hK => ?_) ?_
  · go_simp
    refine cW.out.mono ?_
    rintro e V ⟨rfl, hF⟩
    have hg := hF.1
    have hS : V.cell? ⟨b3, 0, none⟩ = some (.pointer (some ⟨D.qb, 0, none⟩)) ∧ V.cell? ⟨D.qb, 10, none⟩ = some (.func (.func 48) #[] #[.pointer (some ⟨D.ob, 0, none⟩)]) ∧ V.cell? ⟨b5, 0, none⟩ = some (.slice a n c) := ⟨hg.cell y3 (by have := Hlo.out; omega) (by rw [HO1.out.gof]; exact Hfar.out _ Hlo.out.1), hg.cell yf Hqo.out (by rw [HO1.out.gof]; exact Hqg.out), hg.cell y5 (by have := Hlo.out; omega) (by rw [HO1.out.gof]; exact Hfar.out _ Hlo.out.2.2.1)⟩
    have hFin : Hid (∀ v, v = Value.bool true → DownEnd D.ob acc [sub] W (.returned (.bool true)) (V.setCell ⟨b6, 0, none⟩ v)) := Lib.hid (fun v _ => down_fin HG1.out ⟨rfl, hF⟩ Hb6V.out ⟨Hb6o.out.1, Hb6o.out.2.1, by rw [HO1.out.gof]; exact Hb6o.out.2.2⟩ v)
    have hk6 : V.heap[b6]? = some (.cells #[.bool false] 4 (0, 0)) := (hg.keep b6 (Array.getElem?_eq_some_iff.1 Hb6V.out).1 (Ne.symm Hb6o.out.2.1) (by rw [HO1.out.gof]; exact Hb6o.out.2.2)).trans Hb6V.out
    have hk7 : V.cell? ⟨b6, 0, none⟩ = some (.bool false) := by simp [World.cell?, hk6]
    have hk8 : V.frozen? ⟨b6, 0, none⟩ = false := by simp [World.frozen?, hk6]
    have hk9 : (V.setCell ⟨b6, 0, none⟩ (.bool true)).cell? ⟨b6, 0, none⟩ = some (.bool true) := World.cell?_setCell_same' _ _ _ (by rw [hk7]; rfl)
    clear hF hg hk6
    refine hK.out _ _ ?_ (fun hHeld => ?_)
    · exact hS
    clear hK K
    (try simp only [Act.put, List.setIfInBounds_toArray, List.set_cons_zero, List.set_cons_succ])
    refine wpAnyH_ready (rs := [6]) (by kernel_rfl) (by simp) ?_
    refine AllReadyH.cons (o := _) rfl (fun K hK => ?_) ?_
    · go_simp
      refine hK.out _ _ ?_ (fun hHeld => ?_)
      · exact ⟨(World.cell?_setCell_far _ _ _ _ (Ne.symm f3)).trans hS.1, (World.cell?_setCell_far _ _ _ _ (Ne.symm hq6)).trans hS.2.1, (World.cell?_setCell_far _ _ _ _ (Ne.symm f5)).trans hS.2.2⟩
      clear hK K
      (try simp only [Act.put, List.setIfInBounds_toArray, List.set_cons_zero, List.set_cons_succ])
      refine wpAnyH_done (by kernel_rfl) ?_ _
      refine NoPanic.normal ?_
      go_wp2
      refine bodyPost_ret (v := .bool true) (by simp [results, Try.results49, go_sem, hk9]) rfl ?_
      exact hFin.out _ rfl
    exact AllReadyH.nil
  exact AllReadyH.nil

end Mt
end Go.Proofs.Ytkejjiohkhlnnaa

namespace Go.Proofs.Ytkejjiohkhlnnaa
open Go.RowKit
namespace Mt

theorem put_far {w : World} {l : Nat} {o o' : Obj} (hl : w.heap[l]? = some o) (ho : o.isCells = false) {j : Nat} {cs : Array Value} {T : TypeId} {fr : Nat × Nat} (hj : w.heap[j]? = some (.cells cs T fr)) : (w.putObj l o').heap[j]? = some (.cells cs T fr) := by
  rw [World.putObj_heap_other (fun e => ?_)]
  · exact hj
  · subst e
    rw [hl] at hj
    cases hj
    cases ho
theorem cell_block {w : World} {b o : Nat} {v : Value} (h : w.cell? ⟨b, o, none⟩ = some v) : ∃ cs T fr, w.heap[b]? = some (.cells cs T fr) := by
  unfold World.cell? at h
  cases hb : w.heap[b]? with
  | none => simp [hb] at h
  | some x =>
    cases x with
    | cells cs T fr => exact ⟨cs, T, fr, rfl⟩
    | _ => simp [hb] at h
theorem put_cell {w : World} {l : Nat} {o o' : Obj} (hl : w.heap[l]? = some o) (ho : o.isCells = false) {b j : Nat} {v : Value} (h : w.cell? ⟨b, j, none⟩ = some v) : (w.putObj l o').cell? ⟨b, j, none⟩ = some v := by
  obtain ⟨cs, T, fr, hb⟩ := cell_block h
  have h2 := put_far (o' := o') hl ho hb
  refine (World.cell?_of_block (w := w) ?_).trans h
  show (w.putObj l o').heap[b]? = w.heap[b]?
  rw [h2, hb]
theorem OutV.put {ob : Nat} {v : Value} {acc : List (List Int)} {w : World} (h : OutV ob v acc w) {l : Nat} {o o' : Obj} (hl : w.heap[l]? = some o) (ho : o.isCells = false) : OutV ob v acc (w.putObj l o') := by
  obtain ⟨hs, h1, h2, h3⟩ := h.row
  have key : ∀ {e base size n : Nat} {u : Value} {xs : List Value}, w.ownsRow base e size u n xs → (w.putObj l o').ownsRow base e size u n xs := fun {e base size n u xs} k => by
    obtain ⟨k1, k2⟩ := k
    rcases k2 with k2 | ⟨g, cap, cur, k3, k4, k5, k6⟩
    · exact ⟨k1, .inl k2⟩
    · exact ⟨k1, .inr ⟨g, cap, cur, k3, k4, put_far hl ho k5, k6⟩⟩
  refine ⟨put_far hl ho h.box, hs, key h1, fun i xs hx => ?_, h3⟩
  obtain ⟨u, q1, q2, q3⟩ := h2 i xs hx
  exact ⟨u, q1, key q2, q3⟩
theorem Grew.put {ob : Nat} {w0 w : World} {v : Value} {acc : List (List Int)} (h : Grew ob w0 w) (O : OutV ob v acc w) {l : Nat} {o o' : Obj} (hlt : w0.heap.size ≤ l) (hl : w.heap[l]? = some o) (ho : o.isCells = false) : Grew ob w0 (w.putObj l o') := by
  refine ⟨h.os, h.tape, h.output, by simpa using h.size, fun j hj hn hg => (World.putObj_heap_other (by omega)).trans (h.keep j hj hn hg), ?_⟩
  rw [(O.put (o' := o') hl ho).gof, ← O.gof]
  exact h.row
theorem Ints.put {w : World} {a : Option Addr} {xs : List Int} (h : Ints w a xs) {l : Nat} {o o' : Obj} (hl : w.heap[l]? = some o) (ho : o.isCells = false) : Ints (w.putObj l o') a xs := by
  rcases h with h | ⟨b, off, h1, h2⟩
  · exact .inl h
  · exact .inr ⟨b, off, h1, fun i hi => put_cell hl ho (h2 i hi)⟩
theorem Grew.others {ob : Nat} {w w' : World} {v : Value} {acc : List (List Int)} (h : Grew ob w w') (O : OutV ob v acc w) : KeepsOthers w w' := by
  refine ⟨h.size, fun k o hk ho => ?_⟩
  have hlt := (Array.getElem?_eq_some_iff.1 hk).1
  rw [h.keep k hlt (fun e => ?_) (fun e => ?_)]
  · exact hk
  · subst e
    rw [O.box] at hk
    cases hk
    cases ho
  · rw [O.gof] at e
    obtain ⟨hs, h1, -⟩ := O.row
    rcases h1.2 with ⟨rfl, -⟩ | ⟨g, cap, cur, rfl, -, hc, -⟩
    · cases e
    · cases e
      rw [hc] at hk
      cases hk
      cases ho

/-- what one number's row makes out of a substitution -/
def oneL (rows : List Row) (p : Pat) (sub : List Int) (n : Int) : Option (List Int) := (rows[n.toNat]?).bind fun r => extL p.2 r.2 sub
/-- what the first k rounds find -/
noncomputable def partL (rows : List Row) (cs : List C3) (p : Pat) (r : List Cd) (sub : List Int) (NL : List Int) (k : Nat) : List (List Int) := ((NL.take k).filterMap (oneL rows p sub)).flatMap (resL rows cs r)
theorem partL_zero {rows : List Row} {cs : List C3} {p : Pat} {r : List Cd} {sub : List Int} {NL : List Int} : partL rows cs p r sub NL 0 = [] := rfl
theorem partL_succ {rows : List Row} {cs : List C3} {p : Pat} {r : List Cd} {sub : List Int} {NL : List Int} {k : Nat} {n : Int} (h : NL[k]? = some n) : partL rows cs p r sub NL (k + 1) = partL rows cs p r sub NL k ++ (match oneL rows p sub n with | some ys => resL rows cs r ys | none => []) := by
  unfold partL
  rw [take_snoc' h, List.filterMap_append, List.flatMap_append]
  cases h1 : oneL rows p sub n with
  | none => simp [h1]
  | some ys => simp [h1]
theorem partL_all {rows : List Row} {cs : List C3} {p : Pat} {r : List Cd} {sub : List Int} : partL rows cs p r sub (numsL rows p sub) (numsL rows p sub).length = resL rows cs (.pos p :: r) sub := by
  unfold partL
  rw [List.take_length]
  rfl
theorem partL_le {rows : List Row} {cs : List C3} {p : Pat} {r : List Cd} {sub : List Int} {NL : List Int} (k : Nat) : (partL rows cs p r sub NL k).length ≤ (partL rows cs p r sub NL NL.length).length := by
  unfold partL
  rw [List.take_length]
  have e : NL.filterMap (oneL rows p sub) = (NL.take k).filterMap (oneL rows p sub) ++ (NL.drop k).filterMap (oneL rows p sub) := by rw [← List.filterMap_append, List.take_append_drop]
  rw [e, List.flatMap_append, List.length_append]
  omega
theorem idxL_at {q : Row → Prop} {rows : List Row} {x : Int} (h : x ∈ idxL q rows) : ∃ (i : Nat) (r : Row), x = (i : Int) ∧ rows[i]? = some r ∧ q r := by
  unfold idxL at h
  obtain ⟨y, hy, hx⟩ := List.mem_filterMap.1 h
  obtain ⟨r, i⟩ := y
  have := List.mem_zipIdx_iff_getElem?.1 hy
  simp only at this hx
  split at hx
  · rename_i hq
    exact ⟨i, r, by simpa using hx.symm, by simpa using this, hq⟩
  · cases hx
theorem numsL_at {rows : List Row} {p : Pat} {sub : List Int} {x : Int} (h : x ∈ numsL rows p sub) : ∃ i : Nat, x = (i : Int) ∧ i < rows.length := by
  unfold numsL at h
  split at h
  · obtain ⟨i, r, h1, h2, -⟩ := idxL_at h
    exact ⟨i, h1, (List.getElem?_eq_some_iff.1 h2).1⟩
  · obtain ⟨i, r, h1, h2, -⟩ := idxL_at h
    exact ⟨i, h1, (List.getElem?_eq_some_iff.1 h2).1⟩
theorem numsL_len {rows : List Row} {p : Pat} {sub : List Int} : (numsL rows p sub).length ≤ rows.length := by
  unfold numsL
  split
  · exact idxL_length _ _
  · exact idxL_length _ _
theorem chkL_le {m n : Nat} {zs : List Z} (h : chkL badP m zs = some n) (hm : m ≤ 16) : n ≤ 16 := by
  induction zs generalizing m with
  | nil => simp [chkL] at h; omega
  | cons z r ih =>
    simp only [chkL] at h
    split at h
    · cases h
    · rename_i hb
      refine ih h ?_
      split
      · rename_i hz
        simp [badP, hz] at hb
        omega
      · exact hm
theorem rowL_ok {P : Int → Prop} {ys zs' : List Int} {zs : List Z} (h : rowL ys zs = some zs') (hy : ∀ x ∈ ys, P x) (hz : ∀ z ∈ zs, P z.2) : zs'.length = ys.length ∧ ∀ x ∈ zs', P x := by
  induction zs generalizing ys with
  | nil => simp [rowL] at h; subst h; exact ⟨rfl, hy⟩
  | cons z r ih =>
    simp only [rowL] at h
    split at h
    · split at h
      · cases h
      · obtain ⟨h1, h2⟩ := ih h (fun x hx => by
          rcases List.mem_or_eq_of_mem_set hx with hx | rfl
          · exact hy x hx
          · exact hz z (List.mem_cons_self ..)) (fun q hq => hz q (List.mem_cons_of_mem _ hq))
        exact ⟨by simpa using h1, h2⟩
    · split at h
      · exact ih h hy (fun q hq => hz q (List.mem_cons_of_mem _ hq))
      · cases h
theorem extL_ok {P : Int → Prop} {l : List Sl} {args sub ys : List Int} (h : extL l args sub = some ys) (hs : sub.length ≤ 16) (h1 : P (-1)) (ha : ∀ x ∈ args, P x) (hb : ∀ x ∈ sub, P x) : ys.length ≤ 16 ∧ ∀ x ∈ ys, P x := by
  unfold extL at h
  split at h
  · obtain ⟨n, hn, hr⟩ := Option.bind_eq_some_iff.1 h
    obtain ⟨k1, k2⟩ := rowL_ok (P := P) hr (fun x hx => by
      unfold baseL at hx
      obtain ⟨i, -, rfl⟩ := List.mem_map.1 hx
      unfold boundL
      split
      · exact h1
      · split
        · exact h1
        · rename_i y hy
          split
          · exact h1
          · exact hb _ (List.mem_of_getElem? hy)) (fun z hz => ha _ (List.of_mem_zip hz).2)
    refine ⟨?_, k2⟩
    rw [k1]
    unfold baseL
    have := chkL_le hn hs
    simpa using this
  · cases h
end Mt
end Go.Proofs.Ytkejjiohkhlnnaa

namespace Go.Proofs.Ytkejjiohkhlnnaa
open Go.RowKit
namespace Mt
attribute [local go_sem] Oper.semAt_some

/-- what down does at the next condition -/
def Goes (D : SrchD) (i : Nat) (rest : List Cd) : Prop := ∀ (W : World) (a : Option Addr) (c : Nat) (sub : List Int) (v : Value) (acc : List (List Int)), SrchAt D W → OutV D.ob v acc W → IntsA D.ob W a sub → (a = none → c = 0) → sub.length ≤ 16 → (∀ x ∈ sub, Rng x) →
  acc.length + (resL D.σ.rows D.cs rest sub).length + 1 ≤ 1000000 → Calls Try.prog 49 #[.pointer (some ⟨D.qb, 0, none⟩), .int .i64 i, .slice a sub.length c] W (DownEnd D.ob acc (resL D.σ.rows D.cs rest sub) W)
set_option linter.unusedSimpArgs false in
set_option maxHeartbeats 16000000 in
set_option maxRecDepth 100000 in
theorem down_pos (D : SrchD) (C : SrchIn D) (i : Nat) (p : Pat) (rest : List Cd) (hp : D.R.pos[i]? = some p) (hi : i < D.last) (hi6 : D.last ≤ 1000000) (ih : Goes D (i + 1) rest) : Goes D i (.pos p :: rest) := by
  intro W a c sub v acc A O hI hnil hs hsr hn
  obtain ⟨n, hnl⟩ : ∃ n, n = sub.length := ⟨_, rfl⟩
  rw [← hnl] at hs ⊢
  have Hnl := Lib.hid hnl
  have HC := Lib.hid C
  have Hsr := Lib.hid hsr
  have Hnil := Lib.hid hnil
  have Hih := Lib.hid ih
  obtain ⟨NL, hNL⟩ : ∃ x, numsL D.σ.rows p sub = x := ⟨_, rfl⟩
  have HNL := Lib.hid hNL
  obtain ⟨res, hres⟩ : ∃ r, r = resL D.σ.rows D.cs (.pos p :: rest) sub := ⟨_, rfl⟩
  rw [← hres] at hn ⊢
  have Hres := Lib.hid hres
  have hiP : i < D.R.pos.length := (List.getElem?_eq_some_iff.1 hp).1
  have hPl := C.ok.conds
  have Hp := Lib.hid hp
  clear hnl C hsr hnil hres ih hp hNL
  obtain ⟨b3, h3⟩ : ∃ b, b = W.heap.size := ⟨_, rfl⟩
  obtain ⟨b4, h4⟩ : ∃ b, b = W.heap.size + 1 := ⟨_, rfl⟩
  obtain ⟨b5, h5⟩ : ∃ b, b = W.heap.size + 1 + 1 := ⟨_, rfl⟩
  obtain ⟨b6, h6⟩ : ∃ b, b = W.heap.size + 1 + 1 + 1 := ⟨_, rfl⟩
  obtain ⟨W0, hW0⟩ : ∃ V, V = (((W.alloc (.cells #[.pointer (some ⟨D.qb, 0, none⟩)] 94)).alloc (.cells #[.int .i64 i] 3)).alloc (.cells #[.slice a n c] 22)).alloc (.cells #[.bool false] 4) := ⟨_, rfl⟩
  obtain ⟨hb0, hs0, g3, g4, g5, g6⟩ := four_boxes W _ _ _ _ _ _ _ _ b3 b4 b5 b6 W0 h3 h4 h5 h6 hW0
  have A0 := A.below O hb0
  have O0 := O.below hb0
  have I0 := hI.grew (Grew.below hb0 O.lt)
  have HG0 := Lib.hid (Grew.below hb0 O.lt)
  have HA0 := Lib.hid A0
  have HO0 := Lib.hid O0
  have HI0 := Lib.hid I0
  have y3 : W0.cell? ⟨b3, 0, none⟩ = some (.pointer (some ⟨D.qb, 0, none⟩)) := by simp [World.cell?, g3]
  have y4 : W0.cell? ⟨b4, 0, none⟩ = some (.int .i64 i) := by simp [World.cell?, g4]
  have y5 : W0.cell? ⟨b5, 0, none⟩ = some (.slice a n c) := by simp [World.cell?, g5]
  have hqc : ∀ (j : Nat) y, (srchCells D.sb D.ob D.ca D.cs.length D.cc D.R D.last)[j]? = some y → W0.cell? ⟨D.qb, j, none⟩ = some y := fun j y hj => by
    have hq := A0.q
    simp [World.cell?, hq, hj]
  have yl : W0.cell? ⟨D.qb, 9, none⟩ = some (.int .i64 D.last) := hqc 9 _ rfl
  have yf : W0.cell? ⟨D.qb, 10, none⟩ = some (.func (.func 48) #[] #[.pointer (some ⟨D.ob, 0, none⟩)]) := hqc 10 _ rfl
  have hlt := O.lt
  have hrow : ∀ g, GOf D.ob W = some g → g < W.heap.size := fun g e => (O.rowLt (O.gof ▸ e)).2
  have hq6 : D.qb ≠ b6 := by have := (Array.getElem?_eq_some_iff.1 A.q).1; omega
  have ho6 : D.ob ≠ b6 := by omega
  have hdist : b3 ≠ b6 ∧ b4 ≠ b6 ∧ b5 ≠ b6 := ⟨by omega, by omega, by omega⟩
  obtain ⟨f3, f4, f5⟩ := hdist
  have Hrow := Lib.hid hrow
  have Hqo := Lib.hid A.qo
  have hgV : GOf D.ob W = v.ownBlock := O.gof
  have Hqg : Hid (v.ownBlock ≠ some D.qb) := Lib.hid (by rw [← hgV]; exact A.qg)
  have Hfar : Hid (∀ b, W.heap.size ≤ b → v.ownBlock ≠ some b) := Lib.hid (fun b hb e => by rw [← hgV] at e; have := hrow _ e; omega)
  have Hlo : Hid (W.heap.size ≤ b3 ∧ W.heap.size ≤ b4 ∧ W.heap.size ≤ b5 ∧ W.heap.size ≤ b6) := Lib.hid ⟨by omega, by omega, by omega, by omega⟩
  have Hb6o : Hid (W.heap.size ≤ b6 ∧ D.ob ≠ b6 ∧ v.ownBlock ≠ some b6) := Lib.hid ⟨by omega, by omega, Hfar.out _ (by omega)⟩
  clear hgV
  have Hb6 : Hid (W.heap.size ≤ b6 ∧ b6 < W0.heap.size) := Lib.hid ⟨by omega, by omega⟩
  have HW0 := Lib.hid hW0
  have H3 := Lib.hid h3
  have H4 := Lib.hid h4
  have H5 := Lib.hid h5
  have H6 := Lib.hid h6
  have Hqc := Lib.hid hqc
  have Hg := Lib.hid (⟨g3, g4, g5, g6⟩ : _ ∧ _ ∧ _ ∧ _)
  clear hqc g3 g4 g5 g6 hs0 A0 O0 I0 A O hI hrow hW0 h3 h4 h5 h6
  have hne : ((i : Int) == (D.last : Int)) = false := by simp; omega
  have e0 : W0.cell? ⟨D.qb, 0, none⟩ = some (.pointer (some ⟨D.sb, 0, none⟩)) := Hqc.out 0 _ rfl
  have e2 : W0.cell? ⟨D.qb, 2, none⟩ = some (.int .i64 D.R.hp) := Hqc.out 2 _ rfl
  have e3 : W0.cell? ⟨D.qb, 3, none⟩ = some (.slice D.R.ha D.R.hn D.R.hc) := Hqc.out 3 _ rfl
  have e4 : W0.cell? ⟨D.qb, 4, none⟩ = some (.slice D.R.pa D.R.pos.length D.R.pc) := Hqc.out 4 _ rfl
  have e5 : W0.cell? ⟨D.qb, 5, none⟩ = some (.slice D.R.ta D.R.tests.length D.R.tc) := Hqc.out 5 _ rfl
  have e6 : W0.cell? ⟨D.qb, 6, none⟩ = some (.slice D.R.na D.R.neg.length D.R.nc) := Hqc.out 6 _ rfl
  have e7 : W0.cell? ⟨D.qb, 7, none⟩ = some (.slice D.R.va D.R.nv D.R.vc) := Hqc.out 7 _ rfl
  have e8 : W0.cell? ⟨D.qb, 8, none⟩ = some (.int .i64 D.R.cl) := Hqc.out 8 _ rfl
  refine callsIn_wide.1 (callsIn_of_wp_marks (n := 0) Try.func49 rfl trivial (wpIn_wide.2 ?_) rfl)
  simp only [Try.ntmps49, List.size_toArray, List.length_cons, List.length_nil, Nat.reduceAdd, Nat.reduceSub, Array.replicate_succ, Array.replicate_zero, List.push_toArray, List.append_toArray, List.nil_append, List.cons_append]
  go_upto_region 1 with fail
  rw [← HW0.out, ← H6.out, ← H5.out, ← H4.out, ← H3.out]
  go_quiet (fail)
  obtain ⟨V0, hV0⟩ : ∃ V, V = W0.drewN nq := ⟨_, rfl⟩
  have hbV : Below W0.heap.size W0 V0 := by rw [hV0]; exact below_drewN (Below.refl _ _) _
  rw [← hV0]
  have y3 := on_cell hbV y3
  have y4 := on_cell hbV y4
  have y5 := on_cell hbV y5
  have e0 := on_cell hbV e0
  have e2 := on_cell hbV e2
  have e3 := on_cell hbV e3
  have e4 := on_cell hbV e4
  have e5 := on_cell hbV e5
  have e6 := on_cell hbV e6
  have e7 := on_cell hbV e7
  have e8 := on_cell hbV e8
  have HbV := Lib.hid hbV
  clear hV0 hbV yl yf hne
  go_upto_region 8 with fail
  obtain ⟨b7, hb7⟩ : ∃ b, b = V0.heap.size := ⟨_, rfl⟩
  obtain ⟨V1, hV1⟩ : ∃ V, V = V0.alloc (.cells #[.int .i64 D.R.hp, .slice D.R.ha D.R.hn D.R.hc, .slice D.R.pa D.R.pos.length D.R.pc, .slice D.R.ta D.R.tests.length D.R.tc, .slice D.R.na D.R.neg.length D.R.nc, .slice D.R.va D.R.nv D.R.vc, .int .i64 D.R.cl] 32) := ⟨_, rfl⟩
  have hbV1 : Below V0.heap.size V0 V1 := by rw [hV1]; exact (Below.refl _ _).alloc (Nat.le_refl _) _
  have z2 : V1.cell? ⟨b7, 2, none⟩ = some (.slice D.R.pa D.R.pos.length D.R.pc) := by rw [hV1, hb7]; simp
  have y3 := on_cell hbV1 y3
  have y4 := on_cell hbV1 y4
  have y5 := on_cell hbV1 y5
  have e0 := on_cell hbV1 e0
  have hb01 : Below W0.heap.size W0 V1 := HbV.out.trans (hbV1.mono HbV.out.size)
  have Hb7 : Hid (W0.heap.size ≤ b7 ∧ b7 < V1.heap.size) := Lib.hid ⟨by rw [hb7]; exact HbV.out.size, by rw [hV1, hb7]; simp⟩
  rw [← hV1, ← hb7]
  have hA1 : SrchAt D V1.drew := (HA0.out.below HO0.out hb01).below (HO0.out.below hb01) (Below.refl _ _).drew
  obtain ⟨bp, op, p', hpa, hp', c0, sa, sc, c1, hSl⟩ := pats_at HC.out.rule.pos hiP
  have hpp : p' = p := by have := Hp.out; rw [hp'] at this; exact Option.some.inj this
  subst hpp
  have hPO := HC.out.ok.pos p' (List.mem_of_getElem? hp')
  have hpr := HC.out.preds.1 p' (List.mem_of_getElem? hp')
  have c0B := c0
  have c0 : V1.cell? ⟨bp, op + i * 2, none⟩ = some (.int .i64 p'.1) := below_cell hA1.old (Nat.le_refl _) c0
  have c1 : V1.cell? ⟨bp, op + i * 2 + 1, none⟩ = some (.slice sa p'.2.length sc) := below_cell hA1.old (Nat.le_refl _) c1
  have hI1 := (HI0.out.grew (Grew.below hb01 HO0.out.lt)).grew (Grew.below (Below.refl _ _).drew (HO0.out.below hb01).lt)
  have hvR : D.R.nv ≤ 16 := HC.out.ok.vars
  have hcR : D.cs.length ≤ 65536 := HC.out.cok.many
  have cW := Lib.hid (rows_any (qb := D.qb) (HC.out.store.below hA1.old) e0 p'.1 sa a sc c p'.2 sub (hSl.below hA1.old (Nat.le_refl _)) hI1.ints hPO.2.1 (by rw [← Hnl.out]; omega) hpr Hsr.out (fun x hx => by
    have := hPO.2.2 x hx
    obtain ⟨k1, k2⟩ := this
    refine ⟨by omega, ?_⟩
    split at k2 <;> omega) (by have := HC.out.rows; omega))
  rw [← Hnl.out] at cW
  rw [hpa] at z2 ⊢
  have HA1 := Lib.hid hA1
  have HI1 := Lib.hid hI1
  have HSl := Lib.hid hSl
  have HPO := Lib.hid hPO
  have Hb01 := Lib.hid hb01
  have Hbp : Hid (bp ≠ D.ob ∧ v.ownBlock ≠ some bp) := Lib.hid (by
    have h1 := World.block_lt_of_cell? _ _ c0B
    have h2 := HA0.out.lo
    simp only at h1
    refine ⟨by omega, fun e => ?_⟩
    have := HO0.out.rowLt e
    omega)
  clear hV1 hb7 hbV1 hb01 c0B e2 e3 e4 e5 e6 e7 e8 hA1 hpa hp' hSl hPO hpr hI1 hvR hcR
  obtain ⟨pp, sl⟩ := p'
  simp only at c0 c1 cW
  rw [HNL.out] at cW
  go_upto_region 9 with fail
  go_region_held3 (fun w' => w'.cell? ⟨b3, 0, none⟩ = some (.pointer (some ⟨D.qb, 0, none⟩)) ∧ w'.cell? ⟨b4, 0, none⟩ = some (.int .i64 i) ∧ w'.cell? ⟨b5, 0, none⟩ = some (.slice a n c) ∧ w'.cell? ⟨b7, 2, none⟩ = some (.slice (some ⟨bp, op, none⟩) D.R.pos.length D.R.pc) ∧ w'.cell? ⟨bp, op + i * 2, none⟩ = some (.int .i64 pp) ∧ w'.cell? ⟨bp, op + i * 2 + 1, none⟩ = some (.slice sa sl.length sc)) (first | assumption | exact ⟨y3, y4, y5, z2, c0, c1⟩ | go_keep) (first
    | (go_at_call 72
       with_reducible refine cW.out.mono ?_
       rintro e W9 ⟨nb, q3, na, nc, rfl, hb9, hnb, hq3, d0, d1, hNLz⟩
       have hS : W9.cell? ⟨b3, 0, none⟩ = some (.pointer (some ⟨D.qb, 0, none⟩)) ∧ W9.cell? ⟨b4, 0, none⟩ = some (.int .i64 i) ∧ W9.cell? ⟨b5, 0, none⟩ = some (.slice a n c) ∧ W9.cell? ⟨b7, 2, none⟩ = some (.slice (some ⟨bp, op, none⟩) D.R.pos.length D.R.pc) ∧ W9.cell? ⟨bp, op + i * 2, none⟩ = some (.int .i64 pp) ∧ W9.cell? ⟨bp, op + i * 2 + 1, none⟩ = some (.slice sa sl.length sc) := ⟨on_cell hb9 y3, on_cell hb9 y4, on_cell hb9 y5, on_cell hb9 z2, on_cell hb9 c0, on_cell hb9 c1⟩))
  have O1 : OutV D.ob v acc V1.drew := (HO0.out.below Hb01.out).below (Below.refl _ _).drew
  have O9 := O1.below hb9
  have A9 := HA1.out.below O1 hb9
  have I9 := HI1.out.grew (Grew.below hb9 O1.lt)
  have hz1 : W0.heap.size ≤ V1.drew.heap.size := Hb01.out.size
  have hz9 := hb9.size
  have hgr9 : Grew D.ob W W9 := HG0.out.trans ((Grew.below Hb01.out HO0.out.lt).trans ((Grew.below (Below.refl _ _).drew (HO0.out.below Hb01.out).lt).trans (Grew.below hb9 O1.lt)))
  have hWV : W.heap.size ≤ V1.drew.heap.size := Nat.le_trans HG0.out.size hz1
  have NA : IntsA D.ob W9 na NL := by
    rcases hNLz.1 with h | ⟨b, off, h1, h2, h3⟩
    · exact .inl h
    · refine .inr ⟨b, off, h1, by omega, ?_, h3⟩
      rw [O9.gof]
      exact Hfar.out _ (Nat.le_trans hWV h2)
  have hb6w : W9.heap[b6]? = some (.cells #[.bool false] 4 (0, 0)) := (hb9.block b6 (Nat.lt_of_lt_of_le Hb6.out.2 hz1)).trans ((Hb01.out.block b6 Hb6.out.2).trans Hg.out.2.2.2)
  have HO9 := Lib.hid O9
  have HA9 := Lib.hid A9
  have HI9 := Lib.hid I9
  have HNA := Lib.hid NA
  have Hgr9 := Lib.hid hgr9
  have Hb6w := Lib.hid hb6w
  have Hnb : Hid (W.heap.size ≤ nb ∧ W.heap.size ≤ q3) := Lib.hid ⟨Nat.le_trans hWV hnb, Nat.le_trans hWV hq3⟩
  have Hd := Lib.hid (⟨d0, d1⟩ : _ ∧ _)
  have HS9 := Lib.hid hS
  have Hb7' : Hid (W.heap.size ≤ b7) := Lib.hid (Nat.le_trans HG0.out.size Hb7.out.1)
  clear O1 O9 A9 I9 NA hgr9 hb6w hz1 hz9 hWV hb9 hnb hq3 d0 d1 hNLz hS y3 y4 y5 e0 z2 c0 c1 cW
  go_wp2_with fail
  refine (wpIn_wide (n := 0)).1 ?_
  generalize hact : ({ tmps := _, defers := [] } : Act) = A0
  refine wp_range_all (gf := 85) (lb := #[.pointer (some ⟨nb, 0, none⟩), .pointer (some ⟨q3, 0, none⟩)]) (by rw [← hact]; rfl) (enters_of Try.func85 (by kernel_rfl) rfl) NL.length
    (fun k Wc => Grew D.ob W9 Wc ∧ ∃ v', OutV D.ob v' (acc ++ partL D.σ.rows D.cs (pp, sl) rest sub NL k) Wc) (IterX D.σ.rows NL) (IterIn D.s D.sb D.qb nb q3 na nc D.σ D.h D.τ NL)
    ?hseq (fun k W1 W2 h hb => by obtain ⟨g, v', o⟩ := h; exact ⟨g.trans (Grew.below hb o.lt), v', o.below hb⟩) (fun k W1 l o o' h hl ho hc => by obtain ⟨g, v', q⟩ := h; exact ⟨g.put q hl ho hc, v', q.put ho hc⟩)
    (fun k args W1 l o o' h hl ho hc => by obtain ⟨n', r, xa, xc, q1, q2, q3', q4⟩ := h; exact ⟨n', r, xa, xc, q1, q2, q3', Ints.put q4 ho hc⟩) (fun k args W1 h => by obtain ⟨n', r, xa, xc, q1, q2, rfl, q4⟩ := h; rfl)
    ?hIg ?h0 (fun args => { tmps := (A0.tmps.setIfInBounds 78 (args[0]?.getD undef)).setIfInBounds 8 (args[0]?.getD undef), defers := [] }) ?hassign ?hbody ?hdone
  case hseq =>
    intro l J Wj hY hJb hJg h0
    exact iter_any NL (fun x hx => by rw [← HNL.out] at hx; exact numsL_at hx) (by have h1 := HC.out.rows; have h2 : NL.length ≤ D.σ.rows.length := (by rw [← HNL.out]; exact numsL_len); omega) l J Wj hY hJb hJg h0
  case hIg =>
    rintro k Wc ⟨g, v', o⟩
    have hA := HA9.out.grew HO9.out g
    exact ⟨g.cell Hd.out.1 (by have := Hnb.out.1; omega) (by rw [HO9.out.gof]; exact Hfar.out _ Hnb.out.1), (HNA.out.grew g).ints, g.cell Hd.out.2 (by have := Hnb.out.2; omega) (by rw [HO9.out.gof]; exact Hfar.out _ Hnb.out.2),
      by have hq := hA.q; simp [World.cell?, hq, srchCells], HC.out.store.below hA.old⟩
  case h0 => exact ⟨Grew.refl _ _, v, by rw [partL_zero, List.append_nil]; exact HO9.out⟩
  case hassign =>
    rintro l k args W1 K ⟨n', r, xa, xc, q1, q2, rfl, q4⟩ hK
    subst hact
    have HK := Lib.hid hK
    clear hK
    gi_wp2
    simpa using HK.out
  case hbody =>
    rintro l k args Wb ⟨gB, vB, oB⟩ ⟨nn, r, xa, xc, hn1, hr1, rfl, hx⟩ hklt
    subst hact
    simp only [List.setIfInBounds_toArray, List.set_cons_zero, List.set_cons_succ]
    have hAb := HA9.out.grew HO9.out gB
    have far9 : ∀ {b : Nat}, W.heap.size ≤ b → b ≠ D.ob ∧ GOf D.ob W9 ≠ some b := fun {b} hb => ⟨by omega, by rw [HO9.out.gof]; exact Hfar.out _ hb⟩
    have y3 := gB.cell HS9.out.1 (far9 Hlo.out.1).1 (far9 Hlo.out.1).2
    have y4 := gB.cell HS9.out.2.1 (far9 Hlo.out.2.1).1 (far9 Hlo.out.2.1).2
    have y5 := gB.cell HS9.out.2.2.1 (far9 Hlo.out.2.2.1).1 (far9 Hlo.out.2.2.1).2
    have z2 := gB.cell HS9.out.2.2.2.1 (far9 Hb7'.out).1 (far9 Hb7'.out).2
    have c0 := gB.cell HS9.out.2.2.2.2.1 Hbp.out.1 (by rw [HO9.out.gof]; exact Hbp.out.2)
    have c1 := gB.cell HS9.out.2.2.2.2.2 Hbp.out.1 (by rw [HO9.out.gof]; exact Hbp.out.2)
    have hIb := HI9.out.grew gB
    have hr8 : r.2.length ≤ 8 := (HC.out.store.sound.fits r (List.mem_of_getElem? hr1)).2.2.2.1
    have hrr : ∀ x ∈ r.2, Rng x := fun x hx => by have := (HC.out.store.sound.fits r (List.mem_of_getElem? hr1)).2.2.2.2 x hx; exact ⟨by omega, by omega⟩
    obtain ⟨R, hR⟩ : ∃ R, R = extL sl r.2 sub := ⟨_, rfl⟩
    have cE := Lib.hid (extendF_any pp sa xa a sc xc c sl r.2 sub Wb.drew (HSl.out.below (hAb.below oB (Below.refl _ _).drew).old (Nat.le_refl _)) hx hIb.ints (by have := HPO.out.2.1; simp only at this; omega) (by rw [← Hnl.out]; omega))
    rw [← hR, ← Hnl.out] at cE
    obtain ⟨xn, hxn⟩ : ∃ m, m = r.2.length := ⟨_, rfl⟩
    rw [← hxn] at cE hr8 ⊢
    have Hxn := Lib.hid hxn
    have HR := Lib.hid hR
    have Hrr := Lib.hid hrr
    have HoB := Lib.hid oB
    have HgB := Lib.hid gB
    have HAb := Lib.hid hAb
    have HIb := Lib.hid hIb
    have Hr1 := Lib.hid hr1
    have Hn1 := Lib.hid hn1
    have hoBl := oB.lt
    have hsl8 : sl.length ≤ 8 := HPO.out.2.1
    clear hAb far9 hIb hrr hR hxn oB gB hx hr1 hn1
    refine wpIn_block ?_
    refine wpIn_seq ?_
    refine region_in_draw (S := (fun w' => w'.cell? ⟨b3, 0, none⟩ = some (.pointer (some ⟨D.qb, 0, none⟩)) ∧ w'.cell? ⟨b4, 0, none⟩ = some (.int .i64 i) ∧ w'.cell? ⟨b5, 0, none⟩ = some (.slice a n c) ∧ w'.cell? ⟨b7, 2, none⟩ = some (.slice (some ⟨bp, op, none⟩) D.R.pos.length D.R.pc) ∧ w'.cell? ⟨bp, op + i * 2, none⟩ = some (.int .i64 pp) ∧ w'.cell? ⟨bp, op + i * 2 + 1, none⟩ = some (.slice sa sl.length sc))) (by kernel_rfl) (by rintro ⟨_, _, h⟩; exact absurd h.1 (by simp)) (fun j o hj c' hc' => ?hdef) ⟨y3, y4, y5, z2, c0, c1⟩ (fun hHeld => ?_)
    case hdef =>
      have hm := List.mem_of_getElem? (by simpa using hj)
      simp only [List.mem_cons, List.not_mem_nil, or_false] at hm
      rcases hm with rfl | rfl | rfl | rfl | rfl | rfl | rfl | rfl | rfl | rfl | rfl | rfl | rfl <;> cases hc'
    refine wpAnyH_take (i := 0) (oi := ⟨some 80, _, _, _, _, _⟩) (v := ?_) rfl (by kernel_rfl) (by kernel_rfl) (by kernel_rfl) (fun _ _ _ h => h) (Or.inl ⟨by rfl, ?_⟩) (by assumption) ?_
    rotate_left 1
    · intro w hSw
      (try dsimp only at hSw)
      go_simp
      all_goals with_reducible rfl
    (try simp only [Act.put, List.setIfInBounds_toArray, List.set_cons_zero, List.set_cons_succ])
    refine wpAnyH_take (i := 1) (oi := ⟨some 81, _, _, _, _, _⟩) (v := ?_) rfl (by kernel_rfl) (by kernel_rfl) (by kernel_rfl) (fun _ _ _ h => h) (Or.inl ⟨by rfl, ?_⟩) (by assumption) ?_
    rotate_left 1
    · intro w hSw
      (try dsimp only at hSw)
      go_simp
      all_goals with_reducible rfl
    (try simp only [Act.put, List.setIfInBounds_toArray, List.set_cons_zero, List.set_cons_succ])
    refine wpAnyH_take (i := 2) (oi := ⟨some 82, _, _, _, _, _⟩) (v := ?_) rfl (by kernel_rfl) (by kernel_rfl) (by kernel_rfl) (fun _ _ _ h => h) (Or.inl ⟨by rfl, ?_⟩) (by assumption) ?_
    rotate_left 1
    · intro w hSw
      (try dsimp only at hSw)
      go_simp
      all_goals with_reducible rfl
    (try simp only [Act.put, List.setIfInBounds_toArray, List.set_cons_zero, List.set_cons_succ])
    refine wpAnyH_take (i := 3) (oi := ⟨some 83, _, _, _, _, _⟩) (v := ?_) rfl (by kernel_rfl) (by kernel_rfl) (by kernel_rfl) (fun _ _ _ h => h) (Or.inl ⟨by rfl, ?_⟩) (by assumption) ?_
    rotate_left 1
    · intro w hSw
      (try dsimp only at hSw)
      go_simp
      all_goals with_reducible rfl
    (try simp only [Act.put, List.setIfInBounds_toArray, List.set_cons_zero, List.set_cons_succ])
    refine wpAnyH_take (i := 4) (oi := ⟨some 84, _, _, _, _, _⟩) (v := ?_) rfl (by kernel_rfl) (by kernel_rfl) (by kernel_rfl) (fun _ _ _ h => h) (Or.inl ⟨by rfl, ?_⟩) (by assumption) ?_
    rotate_left 1
    · intro w hSw
      (try dsimp only at hSw)
      go_simp
      all_goals with_reducible rfl
    (try simp only [Act.put, List.setIfInBounds_toArray, List.set_cons_zero, List.set_cons_succ])
    refine wpAnyH_take (i := 5) (oi := ⟨some 85, _, _, _, _, _⟩) (v := ?_) rfl (by kernel_rfl) (by kernel_rfl) (by kernel_rfl) (fun _ _ _ h => h) (Or.inl ⟨by rfl, ?_⟩) (by assumption) ?_
    rotate_left 1
    · intro w hSw
      (try dsimp only at hSw)
      go_simp
      all_goals with_reducible rfl
    (try simp only [Act.put, List.setIfInBounds_toArray, List.set_cons_zero, List.set_cons_succ])
    refine wpAnyH_take (i := 6) (oi := ⟨some 86, _, _, _, _, _⟩) (v := ?_) rfl (by kernel_rfl) (by kernel_rfl) (by kernel_rfl) (fun _ _ _ h => h) (Or.inl ⟨by rfl, ?_⟩) (by assumption) ?_
    rotate_left 1
    · intro w hSw
      (try dsimp only at hSw)
      go_simp
      all_goals with_reducible rfl
    (try simp only [Act.put, List.setIfInBounds_toArray, List.set_cons_zero, List.set_cons_succ])
    refine wpAnyH_ready (rs := [7]) (by kernel_rfl) (by simp) ?_
    refine AllReadyH.cons (o := _) rfl (fun K hK => ?_) ?_
    · go_simp
      refine cE.out.mono ?_
      rintro e VE ⟨ax, cx, rfl, hIx, hfx, hnx, hbE⟩
      have hS := (⟨on_cell hbE y3, on_cell hbE y4, on_cell hbE y5, on_cell hbE z2, on_cell hbE c0, on_cell hbE c1⟩ : VE.cell? ⟨b3, 0, none⟩ = some (.pointer (some ⟨D.qb, 0, none⟩)) ∧ VE.cell? ⟨b4, 0, none⟩ = some (.int .i64 i) ∧ VE.cell? ⟨b5, 0, none⟩ = some (.slice a n c) ∧ VE.cell? ⟨b7, 2, none⟩ = some (.slice (some ⟨bp, op, none⟩) D.R.pos.length D.R.pc) ∧ VE.cell? ⟨bp, op + i * 2, none⟩ = some (.int .i64 pp) ∧ VE.cell? ⟨bp, op + i * 2 + 1, none⟩ = some (.slice sa sl.length sc))
      refine hK.out _ _ ?_ (fun hHeld => ?_)
      · exact hS
      clear hK K
      (try simp only [Act.put, List.setIfInBounds_toArray, List.set_cons_zero, List.set_cons_succ])
      refine wpAnyH_take (i := 8) (oi := ⟨some 79, _, _, _, _, _⟩) (v := ?_) rfl (by kernel_rfl) (by kernel_rfl) (by kernel_rfl) (fun _ _ _ h => h) (Or.inl ⟨by rfl, ?_⟩) (by assumption) ?_
      rotate_left 1
      · intro w hSw
        (try dsimp only at hSw)
        go_simp
        all_goals with_reducible rfl
      (try simp only [Act.put, List.setIfInBounds_toArray, List.set_cons_zero, List.set_cons_succ])
      refine wpAnyH_take (i := 9) (oi := ⟨some 88, _, _, _, _, _⟩) (v := ?_) rfl (by kernel_rfl) (by kernel_rfl) (by kernel_rfl) (fun _ _ _ h => h) (Or.inl ⟨by rfl, ?_⟩) (by assumption) ?_
      rotate_left 1
      · intro w hSw
        (try dsimp only at hSw)
        go_simp
        all_goals with_reducible rfl
      (try simp only [Act.put, List.setIfInBounds_toArray, List.set_cons_zero, List.set_cons_succ])
      refine wpAnyH_take (i := 10) (oi := ⟨some 89, _, _, _, _, _⟩) (v := ?_) rfl (by kernel_rfl) (by kernel_rfl) (by kernel_rfl) (fun _ _ _ h => h) (Or.inl ⟨by rfl, ?_⟩) (by assumption) ?_
      rotate_left 1
      · intro w hSw
        (try dsimp only at hSw)
        go_simp
        all_goals with_reducible rfl
      (try simp only [Act.put, List.setIfInBounds_toArray, List.set_cons_zero, List.set_cons_succ])
      refine wpAnyH_take (i := 11) (oi := ⟨some 9, _, _, _, _, _⟩) (v := ?_) rfl (by kernel_rfl) (by kernel_rfl) (by kernel_rfl) (fun _ _ _ h => h) (Or.inl ⟨by rfl, ?_⟩) (by assumption) ?_
      rotate_left 1
      · intro w hSw
        (try dsimp only at hSw)
        go_simp
        all_goals with_reducible rfl
      (try simp only [Act.put, List.setIfInBounds_toArray, List.set_cons_zero, List.set_cons_succ])
      refine wpAnyH_take (i := 12) (oi := ⟨some 10, _, _, _, _, _⟩) (v := ?_) rfl (by kernel_rfl) (by kernel_rfl) (by kernel_rfl) (fun _ _ _ h => h) (Or.inl ⟨by rfl, ?_⟩) (by assumption) ?_
      rotate_left 1
      · intro w hSw
        (try dsimp only at hSw)
        go_simp
        all_goals with_reducible rfl
      (try simp only [Act.put, List.setIfInBounds_toArray, List.set_cons_zero, List.set_cons_succ])
      refine wpAnyH_done (by kernel_rfl) ?_ _
      dsimp only [Exit.then]
      have oD0 : OutV D.ob vB (acc ++ partL D.σ.rows D.cs (pp, sl) rest sub NL k) Wb.drew := HoB.out.below (Below.refl _ _).drew
      have oE := oD0.below hbE
      have gE1 : Grew D.ob Wb VE := (Grew.below (Below.refl _ _).drew HoB.out.lt).trans (Grew.below hbE oD0.lt)
      have gE : Grew D.ob W9 VE := HgB.out.trans gE1
      have kE : KeepsOthers Wb VE := gE1.others HoB.out
      have hone : oneL D.σ.rows (pp, sl) sub nn = R := by
        unfold oneL
        rw [Hr1.out, HR.out]
        rfl
      have hps := partL_succ (rows := D.σ.rows) (cs := D.cs) (p := (pp, sl)) (r := rest) (sub := sub) (NL := NL) Hn1.out
      rw [hone] at hps
      have Hps := Lib.hid hps
      clear hone hps
      cases R with
      | none =>
        have HF : Hid (KeepsOthers Wb VE ∧ Grew D.ob W9 VE ∧ ∃ v', OutV D.ob v' (acc ++ partL D.σ.rows D.cs (pp, sl) rest sub NL (k + 1)) VE) := Lib.hid ⟨kE, gE, vB, by rw [Hps.out]; simpa using oE⟩
        simp only [Option.isSome_none, Option.getD_none, List.length_nil]
        clear oD0 oE gE1 gE kE hIx hfx hnx hbE hS
        gi_wp2
        refine ⟨trivial, ?_⟩
        gi_wp2
        exact ⟨trivial, HF.out⟩
      | some ys =>
        simp only [Option.isSome_some, Option.getD_some] at hIx ⊢
        obtain ⟨hy16, hyr⟩ := extL_ok (P := Rng) HR.out.symm (by rw [← Hnl.out]; omega) ⟨by decide, by decide⟩ Hrr.out Hsr.out
        have hlen : (partL D.σ.rows D.cs (pp, sl) rest sub NL (k + 1)).length ≤ res.length := by
          rw [Hres.out, ← partL_all, HNL.out]
          exact partL_le _
        rw [Hps.out] at hlen
        simp only [List.length_append] at hlen
        have cD := Lib.hid (Hih.out VE ax cx ys vB _ (HAb.out.grew HoB.out gE1) oE (IntsA.new hIx hbE oD0.lt (fun g e => (oD0.rowLt (oD0.gof ▸ e)).2) hfx) hnx hy16 hyr (by rw [List.length_append]; omega))
        have HF : Hid (∀ W', (Grew D.ob VE W' ∧ ∃ v2, OutV D.ob v2 (acc ++ partL D.σ.rows D.cs (pp, sl) rest sub NL k ++ resL D.σ.rows D.cs rest ys) W') → KeepsOthers Wb W' ∧ Grew D.ob W9 W' ∧ ∃ v', OutV D.ob v' (acc ++ partL D.σ.rows D.cs (pp, sl) rest sub NL (k + 1)) W') := Lib.hid (fun W' h => by
          obtain ⟨gD, v2, o2⟩ := h
          exact ⟨kE.trans (gD.others oE), gE.trans gD, v2, by rw [Hps.out, ← List.append_assoc]; exact o2⟩)
        obtain ⟨yn, hyn⟩ : ∃ m, m = ys.length := ⟨_, rfl⟩
        rw [← hyn] at cD ⊢
        rw [show ((i + 1 : Nat) : Int) = (i : Int) + 1 from by omega] at cD
        obtain ⟨s3, s4, -⟩ := hS
        clear oD0 oE gE1 gE kE hIx hfx hnx hbE hy16 hyr hlen hyn
        gi_wp2
        refine ⟨trivial, rfl, ?_⟩
        refine (CallsIn.inRound l ((callsIn_wide (n := 0)).2 cD.out)).mono ?_
        rintro e W' ⟨rfl, hD⟩
        have HF2 := Lib.hid (HF.out W' hD)
        clear hD
        gi_wp2
        exact ⟨trivial, HF2.out⟩
    exact AllReadyH.nil
  case hdone =>
    rintro DD Wd ⟨g, v', o⟩ hD hdef
    subst hact
    have hne6 : GOf D.ob W9 ≠ some b6 := by rw [HO9.out.gof]; exact Hb6o.out.2.2
    have g6 : Wd.heap[b6]? = some (.cells #[.bool false] 4 (0, 0)) := (g.keep b6 (Array.getElem?_eq_some_iff.1 Hb6w.out).1 (Ne.symm ho6) hne6).trans Hb6w.out
    have hlt6 := (Array.getElem?_eq_some_iff.1 Hb6w.out).1
    have hne6' : GOf D.ob Wd ≠ some b6 := by
      rcases g.row with e | e
      · rw [e]; exact hne6
      · intro e'
        have := e _ e'
        omega
    have k7 : Wd.cell? ⟨b6, 0, none⟩ = some (.bool false) := by simp [World.cell?, g6]
    have k8 : Wd.frozen? ⟨b6, 0, none⟩ = false := by simp [World.frozen?, g6]
    have hdef' : (Wd.setCell ⟨b6, 0, none⟩ (.bool true)).heap[DD]? = some (.deferred (some [])) := by
      rw [Below.heap_setCell _ _ _ _ (fun e => by have e : DD = b6 := e; omega)]
      exact hdef
    have k9 : (Wd.setCell ⟨b6, 0, none⟩ (.bool true)).cell? ⟨b6, 0, none⟩ = some (.bool true) := World.cell?_setCell_same' _ _ _ (by rw [k7]; rfl)
    have hk9 := put_cell (o' := .deferred none) hdef' rfl k9
    have Hend : Hid (DownEnd D.ob acc res W (.returned (.bool true)) ((Wd.setCell ⟨b6, 0, none⟩ (.bool true)).putObj DD (.deferred none))) := Lib.hid (by
      obtain ⟨q1, q2⟩ := grew_own (Hgr9.out.trans g) o g6 ⟨Hb6.out.1, ho6, hne6'⟩ ⟨by decide, by decide⟩ (.bool true)
      have hres' : res = partL D.σ.rows D.cs (pp, sl) rest sub NL NL.length := by rw [Hres.out, ← HNL.out, partL_all]
      rw [hres']
      exact ⟨rfl, q1.put q2 (by have := Hgr9.out.size; omega) hdef' rfl, v', q2.put hdef' rfl⟩)
    have Hd' := Lib.hid hdef'
    clear hdef' hdef g o hne6 hne6' g6 hD k9
    go_wp2_with fail
    refine ⟨by simp, .inl ⟨_, _, rfl, run_takeDeferred Hd'.out, ?_⟩⟩
    exact ⟨.bool true, by simp [results, Try.results49, go_sem, hk9], Hend.out⟩
end Mt
end Go.Proofs.Ytkejjiohkhlnnaa

namespace Go.Proofs.Ytkejjiohkhlnnaa
open Go.RowKit Go.Lib
namespace Mt
namespace Srt

noncomputable def siT : TypeInfo := (Try.prog.info? 38).get (by kernel_rfl)
noncomputable def siE : TypeInfo := (Try.prog.info? 22).get (by kernel_rfl)
theorem infoT : Try.prog.info? 38 = some siT := by kernel_rfl
theorem infoE : Try.prog.info? 22 = some siE := by kernel_rfl
theorem descT : siT.desc = .slice 22 := by kernel_rfl
theorem packT : Try.prog.packed 38 = false := by kernel_rfl
theorem kindE (w : World) : (Extern.Rtype.kind 22).run Try.prog w = .ok 23 w := by kernel_rfl
theorem siK : swapperK 2 siE 23 = 9 := by kernel_rfl
theorem find9 : Try.prog.funcs.findIdx? (·.name == "internal/reflectlite" ++ ".Swapper$" ++ toString (swapperK 2 siE 23)) = some 100 := by rw [siK]; kernel_rfl
theorem aggE (w : World) : (isAgg 22).run Try.prog w = .ok false w := by kernel_rfl
theorem sizeE : siE.size = 1 := by kernel_rfl

set_option maxHeartbeats 4000000 in
set_option maxRecDepth 100000 in
theorem len64_two (w : World) : Calls Try.prog 102 #[.int .u64 2] w fun e w' => e = .returned (.int .i64 2) ∧ w = w' := by
  go_enter Try.func102, Try.ntmps102
  go_wp2
  go_ret
  exact ⟨by kernel_rfl, rfl⟩
theorem len_two (w : World) : Calls Try.prog 89 #[.int .u64 2] w fun e w' => e = .returned (.int .i64 2) ∧ w = w' := by
  go_enter Try.func89, Try.ntmps89
  go_wp2_with (go_at_call 102; refine (len64_two _).mono ?_; rintro e w' ⟨rfl, rfl⟩)
  go_ret
  exact ⟨rfl, rfl⟩
/-- the world in which pdqsort_func is called -/
noncomputable def sliceW (p : Option Addr) (c : Nat) (w : World) : World :=
  (w.alloc (.cells #[.slice p 2 c] 38)).alloc (.cells #[.pointer (some ⟨Try.prog.globals.size, 38, none⟩), .pointer (some ⟨w.heap.size, 0, none⟩), .int .u64 151] 147)
set_option maxHeartbeats 4000000 in
set_option maxRecDepth 100000 in
theorem slice_of_pdq (p : Option Addr) (c : Nat) (lf : Fn) (la lb : Array Value) (w : World) (R : World → Prop)
    (hp : Calls Try.prog 90 #[.agg #[.func lf la lb, .func (.func 100) #[] #[.slice p 2 c, typeHandle Try.prog 22]], .int .i64 0, .int .i64 2, .int .i64 2] (sliceW p c w) fun e w' => e = .returned (.tuple #[]) ∧ R w') :
    Calls Try.prog 74 #[.iface 38 (.slice p 2 c), .func lf la lb] w fun e w' => e = .returned (.tuple #[]) ∧ R w' := by
  have hv := run_valueOf_slice (P := Try.prog) 38 22 siT infoT descT p 2 c w
  have hs := fun w => run_swapper_slice (P := Try.prog) 38 22 siT siE infoT descT infoE 23 kindE p 2 c _ find9 w
  rw [siK, if_neg (by decide)] at hs
  have hl := fun a w ha => run_valueLen_slice (P := Try.prog) 38 22 siT infoT descT packT a p 2 c w ha
  unfold sliceW at hp
  simp only [typeHandle] at hv hl
  have hgs : Try.prog.globals.size = 0 := by kernel_rfl
  rw [hgs] at hv hp
  simp only [hgs] at hl
  have wr : IntKind.u64.wrap (2 : Int) = 2 := by decide
  go_enter Try.func74, Try.ntmps74
  go_wp2
  rw [run_callFunc_extern Try.func86 (by kernel_rfl) (by kernel_rfl) (by kernel_rfl) (e := fun args => Extern.ReflectliteValue.unpack (args.getD 0 (.tuple #[]))) (by kernel_rfl),
    show Sem.run Try.prog ((fun args : Array Value => Extern.ReflectliteValue.unpack (args.getD 0 (.tuple #[]))) #[.iface 38 (.slice p 2 c)]) w = _ from hv]
  simp only [Result.andThen]
  rw [Oper.upon_value]
  go_wp2
  rw [run_callFunc_extern Try.func87 (by kernel_rfl) (by kernel_rfl) (by kernel_rfl) (e := Extern.ReflectliteSwapper.swapper "internal/reflectlite" (Extern.ReflectliteValue.valueError "Swapper")) (by kernel_rfl), hs]
  simp only [Result.andThen]
  rw [Oper.upon_value]
  go_wp2
  rw [run_callFunc_extern Try.func88 (by kernel_rfl) (by kernel_rfl) (by kernel_rfl) (e := Extern.ReflectliteValue.method (Extern.ReflectliteValue.valueError "reflectlite.Value.Len" 0) Extern.ReflectliteValue.len) (by kernel_rfl),
    hl _ _ (by simp)]
  simp only [Result.andThen]
  rw [Oper.upon_value]
  go_wp2_with (first
    | (go_at_call 89; refine (len_two _).mono ?_; rintro e w' ⟨rfl, rfl⟩)
    | (go_at_call 90; refine hp.mono ?_; rintro e w' ⟨rfl, hR⟩))
  go_end0
  exact ⟨rfl, hR⟩
theorem swap_run (blk c : Nat) (x0 x1 : Value) (h0 : x0.oneCell' = true) (h1 : x1.oneCell' = true) (V : World) (c0 : V.cell? ⟨blk, 0, none⟩ = some x0) (c1 : V.cell? ⟨blk, 1, none⟩ = some x1) (f0 : V.frozen? ⟨blk, 0, none⟩ = false) (f1 : V.frozen? ⟨blk, 1, none⟩ = false) :
    (callFunc 100 #[.int .i64 1, .int .i64 0, .slice (some ⟨blk, 0, none⟩) 2 c, typeHandle Try.prog 22]).run Try.prog V = .ok (.value (.tuple #[])) ((V.setCell ⟨blk, 1, none⟩ x0).setCell ⟨blk, 0, none⟩ x1) := by
  have h := run_swap_one (P := Try.prog) false 22 siE infoE sizeE aggE blk 0 2 c 1 0 (by omega) (by omega) x1 x0 h1 h0 V (by simpa using c1) (by simpa using c0) (by simpa using f1) (by simpa using f0)
  rw [run_callFunc_extern Try.func100 (by kernel_rfl) (by kernel_rfl) (by kernel_rfl) (e := Extern.ReflectliteSwapper.swap false) (by kernel_rfl)]
  simp only [Nat.zero_add, Int.ofNat_one, Int.natCast_zero] at h
  have h' : (Extern.ReflectliteSwapper.swap false #[.int .i64 1, .int .i64 0, .slice (some ⟨blk, 0, none⟩) 2 c, typeHandle Try.prog 22]).run Try.prog V = .ok (.tuple #[]) ((V.setCell ⟨blk, 1, none⟩ x0).setCell ⟨blk, 0, none⟩ x1) := h
  rw [h']
  rfl
/-- the two elements, exchanged if b -/
def swp (blk : Nat) (x0 x1 : Value) (b : Bool) (V : World) : World := if b then (V.setCell ⟨blk, 1, none⟩ x0).setCell ⟨blk, 0, none⟩ x1 else V
/-- what the sort of two leaves -/
def Sorted2 (blk : Nat) (x0 x1 : Value) (b : Bool) (W w' : World) : Prop := ∃ V, Below W.heap.size W V ∧ Below (swp blk x0 x1 b V).heap.size (swp blk x0 x1 b V) w'
set_option maxHeartbeats 4000000 in
set_option maxRecDepth 100000 in
theorem insertion_two {blk c : Nat} {x0 x1 : Value} (h0 : x0.oneCell' = true) (h1 : x1.oneCell' = true) (b : Bool) (l0 l1 : Value) (W : World) (hc0 : W.cell? ⟨blk, 0, none⟩ = some x0) (hc1 : W.cell? ⟨blk, 1, none⟩ = some x1) (hf0 : W.frozen? ⟨blk, 0, none⟩ = false) (hf1 : W.frozen? ⟨blk, 1, none⟩ = false)
    (hless : ∀ V, Below W.heap.size W V → Calls Try.prog 75 #[.int .i64 1, .int .i64 0, l0, l1] V fun e w' => e = .returned (.bool b) ∧ Below V.heap.size V w') :
    Calls Try.prog 103 #[.agg #[.func (.func 75) #[] #[l0, l1], .func (.func 100) #[] #[.slice (some ⟨blk, 0, none⟩) 2 c, typeHandle Try.prog 22]], .int .i64 0, .int .i64 2] W fun e w' => e = .returned (.tuple #[]) ∧ Sorted2 blk x0 x1 b W w' := by
  obtain ⟨rb, hrb⟩ : ∃ r, r = W.heap.size := ⟨_, rfl⟩
  obtain ⟨th, hth⟩ : ∃ v, v = typeHandle Try.prog 22 := ⟨_, rfl⟩
  have cS := fun V c0 c1 f0 f1 => Lib.hid (swap_run blk c x0 x1 h0 h1 V c0 c1 f0 f1)
  rw [← hth] at cS ⊢
  obtain ⟨W0, hW0⟩ : ∃ V, V = W.alloc (.cells #[.func (.func 75) #[] #[l0, l1], .func (.func 100) #[] #[.slice (some ⟨blk, 0, none⟩) 2 c, th]] 155) := ⟨_, rfl⟩
  have hb0 : Below W.heap.size W W0 := by rw [hW0]; exact (Below.refl _ _).alloc (Nat.le_refl _) _
  have y0 : W0.cell? ⟨rb, 0, none⟩ = some (.func (.func 75) #[] #[l0, l1]) := by rw [hW0, hrb]; simp
  have y1 : W0.cell? ⟨rb, 1, none⟩ = some (.func (.func 100) #[] #[.slice (some ⟨blk, 0, none⟩) 2 c, th]) := by rw [hW0, hrb]; simp
  have cL := Lib.hid (hless W0 hb0)
  have HW0 := Lib.hid hW0
  have Hrb := Lib.hid hrb
  have hblk := World.block_lt_of_cell? _ _ hc0
  simp only at hblk
  clear hW0 hrb hless hth
  go_enter Try.func103, Try.ntmps103
  go_upto_region 1 with fail
  rw [← HW0.out, ← Hrb.out]
  go_wp2_with fail
  refine wp_loop_rounds 2 ?_
  rw [rounds_succ]
  go_wp2_with fail
  refine wp_loop_rounds 2 ?_
  rw [rounds_succ]
  go_wp2_with fail
  refine cL.out.mono ?_
  rintro e w1 ⟨rfl, hb1⟩
  have hbw : Below W.heap.size W w1 := hb0.trans (hb1.mono hb0.size)
  have y1 := (hb1.cell (p := ⟨rb, 1, none⟩) (World.block_lt_of_cell? _ _ y1)).trans y1
  have c0 := (hbw.cell (p := ⟨blk, 0, none⟩) hblk).trans hc0
  have c1 := (hbw.cell (p := ⟨blk, 1, none⟩) hblk).trans hc1
  have f0 := (hbw.frozen (p := ⟨blk, 0, none⟩) hblk).trans hf0
  have f1 := (hbw.frozen (p := ⟨blk, 1, none⟩) hblk).trans hf1
  have hsw := (cS w1 c0 c1 f0 f1).out
  cases b with
  | true =>
    have hF : Hid (Sorted2 blk x0 x1 true W ((w1.setCell ⟨blk, 1, none⟩ x0).setCell ⟨blk, 0, none⟩ x1)) := Lib.hid ⟨w1, hbw, Below.refl _ _⟩
    clear hb0 hb1 y0 cL hbw cS hc0 hc1 hf0 hf1 c0 c1 f0 f1
    go_wp2_with fail
    rw [rounds_succ]
    go_wp2_with fail
    rw [rounds_succ]
    go_wp2_with fail
    go_end0
    exact ⟨rfl, hF.out⟩
  | false =>
    have hF : Hid (Sorted2 blk x0 x1 false W w1) := Lib.hid ⟨w1, hbw, Below.refl _ _⟩
    clear hb0 hb1 y0 cL hbw cS hc0 hc1 hf0 hf1 c0 c1 f0 f1 hsw
    go_wp2_with fail
    rw [rounds_succ]
    go_wp2_with fail
    go_end0
    exact ⟨rfl, hF.out⟩
set_option maxHeartbeats 4000000 in
set_option maxRecDepth 100000 in
theorem pdq_two {blk c : Nat} {x0 x1 : Value} (h0 : x0.oneCell' = true) (h1 : x1.oneCell' = true) (b : Bool) (l0 l1 : Value) (W : World) (hc0 : W.cell? ⟨blk, 0, none⟩ = some x0) (hc1 : W.cell? ⟨blk, 1, none⟩ = some x1) (hf0 : W.frozen? ⟨blk, 0, none⟩ = false) (hf1 : W.frozen? ⟨blk, 1, none⟩ = false)
    (hless : ∀ V, Below W.heap.size W V → Calls Try.prog 75 #[.int .i64 1, .int .i64 0, l0, l1] V fun e w' => e = .returned (.bool b) ∧ Below V.heap.size V w') :
    Calls Try.prog 90 #[.agg #[.func (.func 75) #[] #[l0, l1], .func (.func 100) #[] #[.slice (some ⟨blk, 0, none⟩) 2 c, typeHandle Try.prog 22]], .int .i64 0, .int .i64 2, .int .i64 2] W fun e w' => e = .returned (.tuple #[]) ∧ Sorted2 blk x0 x1 b W w' := by
  obtain ⟨th, hth⟩ : ∃ v, v = typeHandle Try.prog 22 := ⟨_, rfl⟩
  obtain ⟨W0, hW0⟩ : ∃ V, V = W.alloc (.cells #[.func (.func 75) #[] #[l0, l1], .func (.func 100) #[] #[.slice (some ⟨blk, 0, none⟩) 2 c, th]] 155) := ⟨_, rfl⟩
  have hb0 : Below W.heap.size W W0 := by rw [hW0]; exact (Below.refl _ _).alloc (Nat.le_refl _) _
  have hblk := World.block_lt_of_cell? _ _ hc0
  simp only at hblk
  have cI := Lib.hid (insertion_two (blk := blk) (c := c) h0 h1 b l0 l1 W0 ((hb0.cell (p := ⟨blk, 0, none⟩) hblk).trans hc0) ((hb0.cell (p := ⟨blk, 1, none⟩) hblk).trans hc1) ((hb0.frozen (p := ⟨blk, 0, none⟩) hblk).trans hf0) ((hb0.frozen (p := ⟨blk, 1, none⟩) hblk).trans hf1) (fun V hV => hless V (hb0.trans (hV.mono hb0.size))))
  rw [← hth] at cI ⊢
  have Hb0 := Lib.hid hb0
  rw [hW0] at cI
  have HW0 := Lib.hid hW0
  clear hless hc0 hc1 hf0 hf1 hth hb0 hW0
  go_enter Try.func90, Try.ntmps90
  go_wp2_with fail
  refine wp_loop_rounds 1 ?_
  rw [rounds_succ]
  go_wp2_with fail
  refine cI.out.mono ?_
  rintro e w' ⟨rfl, V, hV, hw⟩
  have hF : Hid (Sorted2 blk x0 x1 b W w') := Lib.hid ⟨V, by rw [← HW0.out] at hV; exact Hb0.out.trans (hV.mono Hb0.out.size), hw⟩
  clear hV hw cI
  go_wp2_with fail
  refine bodyPost_ret (v := .tuple #[]) (results_none Try.results90 _ _ _) rfl ?_
  exact ⟨rfl, hF.out⟩
theorem slice_two {blk c : Nat} {x0 x1 : Value} (h0 : x0.oneCell' = true) (h1 : x1.oneCell' = true) (b : Bool) (l0 l1 : Value) (W : World) (hc0 : W.cell? ⟨blk, 0, none⟩ = some x0) (hc1 : W.cell? ⟨blk, 1, none⟩ = some x1) (hf0 : W.frozen? ⟨blk, 0, none⟩ = false) (hf1 : W.frozen? ⟨blk, 1, none⟩ = false)
    (hless : ∀ V, Below W.heap.size W V → Calls Try.prog 75 #[.int .i64 1, .int .i64 0, l0, l1] V fun e w' => e = .returned (.bool b) ∧ Below V.heap.size V w') :
    Calls Try.prog 74 #[.iface 38 (.slice (some ⟨blk, 0, none⟩) 2 c), .func (.func 75) #[] #[l0, l1]] W fun e w' => e = .returned (.tuple #[]) ∧ Sorted2 blk x0 x1 b W w' := by
  have hblk := World.block_lt_of_cell? _ _ hc0
  simp only at hblk
  have hb : Below W.heap.size W (sliceW (some ⟨blk, 0, none⟩) c W) := by
    unfold sliceW
    exact ((Below.refl _ _).alloc (Nat.le_refl _) _).alloc (by simp) _
  refine slice_of_pdq (some ⟨blk, 0, none⟩) c (.func 75) #[] #[l0, l1] W (Sorted2 blk x0 x1 b W) ?_
  refine (pdq_two (blk := blk) (c := c) h0 h1 b l0 l1 _ ((hb.cell (p := ⟨blk, 0, none⟩) hblk).trans hc0) ((hb.cell (p := ⟨blk, 1, none⟩) hblk).trans hc1) ((hb.frozen (p := ⟨blk, 0, none⟩) hblk).trans hf0) ((hb.frozen (p := ⟨blk, 1, none⟩) hblk).trans hf1) (fun V hV => hless V (hb.trans (hV.mono hb.size)))).mono ?_
  rintro e w' ⟨rfl, V, hV, hw⟩
  exact ⟨rfl, V, hb.trans (hV.mono hb.size), hw⟩
end Srt
end Mt
end Go.Proofs.Ytkejjiohkhlnnaa

namespace Go.Proofs.Ytkejjiohkhlnnaa
open Go.RowKit
namespace Mt

/-- how two ids stand, by their constants -/
def cmpAt (cs : List C3) (x y : Int) : Int :=
  match cs[x.toNat]?, cs[y.toNat]? with
  | some a, some b => Sym.cmpC a.1 a.2.1 a.2.2.toList b.1 b.2.1 b.2.2.toList
  | _, _ => 0
/-- is a substitution ahead of another one? -/
def lessL (cs : List C3) : List Int → List Int → Bool
  | x :: xs, y :: ys => if cmpAt cs x y ≠ 0 then decide (cmpAt cs x y < 0) else lessL cs xs ys
  | _, _ => false
theorem lessL_at {cs : List C3} {xs ys : List Int} {k : Nat} {x y : Int} (hx : xs[k]? = some x) (hy : ys[k]? = some y) : lessL cs (xs.drop k) (ys.drop k) = if cmpAt cs x y ≠ 0 then decide (cmpAt cs x y < 0) else lessL cs (xs.drop (k + 1)) (ys.drop (k + 1)) := by
  rw [drop_at hx, drop_at hy]
  rfl
/-- ids of constants -/
def IdsOk (n : Nat) (xs : List Int) : Prop := ∀ x ∈ xs, 0 ≤ x ∧ x < n
set_option maxHeartbeats 8000000 in
set_option maxRecDepth 100000 in
theorem less_any (sb cb blk : Nat) (n c i j : Nat) (ca : Option Addr) (cc : Nat) (cs : List C3) (xs ys : List Int) (ai aj : Option Addr) (ci cj : Nat) (W : World) (hs : W.cell? ⟨sb, 0, none⟩ = some (.slice (some ⟨blk, 0, none⟩) n c)) (hcb : W.cell? ⟨cb, 0, none⟩ = some (.slice ca cs.length cc)) (hcs : Consts W ca cs)
    (hi : W.cell? ⟨blk, i, none⟩ = some (.slice ai xs.length ci)) (hj : W.cell? ⟨blk, j, none⟩ = some (.slice aj ys.length cj)) (hin : i < n) (hjn : j < n) (hx : Ints W ai xs) (hy : Ints W aj ys) (hl : xs.length = ys.length) (hl6 : xs.length ≤ 16) (ox : IdsOk cs.length xs) (oy : IdsOk cs.length ys) :
    Calls Try.prog 75 #[.int .i64 i, .int .i64 j, .pointer (some ⟨sb, 0, none⟩), .pointer (some ⟨cb, 0, none⟩)] W fun e w' => e = .returned (.bool (lessL cs xs ys)) ∧ Below W.heap.size W w' := by
  obtain ⟨R, hR⟩ : ∃ R, R = lessL cs xs ys := ⟨_, rfl⟩
  rw [← hR]
  have HR := Lib.hid hR
  have HC := Lib.hid hcs
  have HX := Lib.hid hx
  have HY := Lib.hid hy
  have OX := Lib.hid ox
  have OY := Lib.hid oy
  obtain ⟨m, hm⟩ : ∃ m, m = xs.length := ⟨_, rfl⟩
  obtain ⟨cn, hcn⟩ : ∃ m, m = cs.length := ⟨_, rfl⟩
  rw [← hl] at hj
  rw [← hm] at hi hj hl6
  rw [← hcn] at hcb
  have Hm := Lib.hid hm
  have Hcn := Lib.hid hcn
  have HL := Lib.hid hl
  clear hR hcs hx hy ox oy hm hcn hl
  go_enter Try.func75, Try.ntmps75
  go_wp2_with fail
  go_loopw [15] (fun t wr => ∃ k : Nat, k ≤ m ∧ t = .int .i64 k ∧ Below W.heap.size W wr ∧ Hid (R = lessL cs (xs.drop k) (ys.drop k))) (fun t _ => m - (intOf t).toNat)
  case atStart => exact ⟨0, Nat.zero_le _, rfl, Below.refl _ _, Lib.hid HR.out⟩
  case round =>
    obtain ⟨k, hk, rfl, hbel, HK⟩ := hrel
    by_cases hlt : k < m
    · obtain ⟨bx, px, rfl, x, c1, hxk⟩ := ints_some HX.out (k := k) (by rw [← Hm.out]; exact hlt)
      obtain ⟨by', py, rfl, y, c2, hyk⟩ := ints_some HY.out (k := k) (by rw [← HL.out, ← Hm.out]; exact hlt)
      obtain ⟨x0, x1⟩ := OX.out x (List.mem_of_getElem? hxk.out)
      obtain ⟨y0, y1⟩ := OY.out y (List.mem_of_getElem? hyk.out)
      rw [← Hcn.out] at x1 y1
      obtain ⟨p, rfl⟩ := Int.eq_ofNat_of_zero_le x0
      obtain ⟨q, rfl⟩ := Int.eq_ofNat_of_zero_le y0
      have hpn : p < cn := by omega
      have hqn : q < cn := by omega
      clear x0 x1 y0 y1
      rcases HC.out with h | ⟨bc, oc, rfl, hcc⟩
      · rw [Hcn.out, h] at hpn; simp at hpn
      · obtain ⟨⟨k1, i1, s1⟩, d0, d1, d2, hd⟩ := consts_at hcc (k := p) (by rw [← Hcn.out]; exact hpn)
        obtain ⟨⟨k2, i2, s2⟩, g0, g1, g2, hg⟩ := consts_at hcc (k := q) (by rw [← Hcn.out]; exact hqn)
        simp only at d0 d1 d2 g0 g1 g2
        have hcm : cmpAt cs p q = Sym.cmpC k1 i1 s1.toList k2 i2 s2.toList := by
          unfold cmpAt
          simp only [Int.toNat_natCast, hd.out, hg.out]
        obtain ⟨cm, hcmv⟩ : ∃ v, v = cmpAt cs p q := ⟨_, rfl⟩
        have cC := fun V => Lib.hid (Sym.compare_any k1 i1 s1 k2 i2 s2 V)
        rw [← hcm, ← hcmv] at cC
        have HN : Hid (R = if cm ≠ 0 then decide (cm < 0) else lessL cs (xs.drop (k + 1)) (ys.drop (k + 1))) := Lib.hid (by rw [HK.out, lessL_at hxk.out hyk.out, hcmv])
        have e1 := below_cell hbel (Nat.le_refl _) c1
        have e2 := below_cell hbel (Nat.le_refl _) c2
        have e3 := below_cell hbel (Nat.le_refl _) d0
        have e4 := below_cell hbel (Nat.le_refl _) d1
        have e5 := below_cell hbel (Nat.le_refl _) d2
        have e6 := below_cell hbel (Nat.le_refl _) g0
        have e7 := below_cell hbel (Nat.le_refl _) g1
        have e8 := below_cell hbel (Nat.le_refl _) g2
        have e9 := below_cell hbel (Nat.le_refl _) hs
        have ea := below_cell hbel (Nat.le_refl _) hcb
        have eb := below_cell hbel (Nat.le_refl _) hj
        clear HK hcm hcmv hd hg c1 c2 d0 d1 d2 g0 g1 g2 hcc hxk hyk
        go_upto_region 4 with fail
        go_region_held3 (fun w' => w'.cell? ⟨sb, 0, none⟩ = some (.slice (some ⟨blk, 0, none⟩) n c) ∧ w'.cell? ⟨cb, 0, none⟩ = some (.slice (some ⟨bc, oc, none⟩) cn cc) ∧ w'.cell? ⟨blk, j, none⟩ = some (.slice (some ⟨by', py, none⟩) m cj) ∧ w'.cell? ⟨by', py + k, none⟩ = some (.int .i64 q) ∧ w'.cell? ⟨bc, oc + p * 3, none⟩ = some (.int .i64 k1) ∧ w'.cell? ⟨bc, oc + p * 3 + 1, none⟩ = some (.int .i64 i1) ∧ w'.cell? ⟨bc, oc + p * 3 + 2, none⟩ = some (.string s1) ∧ w'.cell? ⟨bc, oc + q * 3, none⟩ = some (.int .i64 k2) ∧ w'.cell? ⟨bc, oc + q * 3 + 1, none⟩ = some (.int .i64 i2) ∧ w'.cell? ⟨bc, oc + q * 3 + 2, none⟩ = some (.string s2)) (first | assumption | exact ⟨e9, ea, eb, e2, e3, e4, e5, e6, e7, e8⟩ | go_keep) (first
          | (go_at_call 28
             with_reducible refine (cC _).out.mono ?_
             rintro e V ⟨rfl, hbV⟩
             have hS := (⟨on_cell hbV e9, on_cell hbV ea, on_cell hbV eb, on_cell hbV e2, on_cell hbV e3, on_cell hbV e4, on_cell hbV e5, on_cell hbV e6, on_cell hbV e7, on_cell hbV e8⟩ : V.cell? ⟨sb, 0, none⟩ = some (.slice (some ⟨blk, 0, none⟩) n c) ∧ V.cell? ⟨cb, 0, none⟩ = some (.slice (some ⟨bc, oc, none⟩) cn cc) ∧ V.cell? ⟨blk, j, none⟩ = some (.slice (some ⟨by', py, none⟩) m cj) ∧ V.cell? ⟨by', py + k, none⟩ = some (.int .i64 q) ∧ V.cell? ⟨bc, oc + p * 3, none⟩ = some (.int .i64 k1) ∧ V.cell? ⟨bc, oc + p * 3 + 1, none⟩ = some (.int .i64 i1) ∧ V.cell? ⟨bc, oc + p * 3 + 2, none⟩ = some (.string s1) ∧ V.cell? ⟨bc, oc + q * 3, none⟩ = some (.int .i64 k2) ∧ V.cell? ⟨bc, oc + q * 3 + 1, none⟩ = some (.int .i64 i2) ∧ V.cell? ⟨bc, oc + q * 3 + 2, none⟩ = some (.string s2))))
        have hbW : Below W.heap.size W V := hbel.trans (((Below.refl _ wr).drew.trans hbV).mono hbel.size)
        clear hbel hbV hS e1 e2 e3 e4 e5 e6 e7 e8 e9 ea eb cC
        by_cases hc0 : cm = 0
        · subst hc0
          have HN2 : Hid (R = lessL cs (xs.drop (k + 1)) (ys.drop (k + 1))) := Lib.hid (by rw [HN.out]; simp)
          clear HN
          go_wp2_with fail
          go_roundw
          case rel => exact ⟨k + 1, by omega, by go_num, hbW, HN2⟩
          case measure => simp [intOf]; omega
        · have hne : (cm != 0) = true := by simpa using hc0
          have HN2 : Hid (R = decide (cm < 0)) := Lib.hid (by rw [HN.out, if_pos hc0])
          clear HN
          go_wp2_with fail
          go_ret
          have e := HN2.out
          subst e
          exact ⟨rfl, hbW⟩
    · have hRf : R = false := by
        rw [HK.out, List.drop_of_length_le (by rw [← Hm.out]; omega)]
        simp [lessL]
      subst hRf
      go_wp2_with fail
      go_ret
      exact ⟨rfl, hbel⟩
end Mt
end Go.Proofs.Ytkejjiohkhlnnaa

namespace Go.Proofs.Ytkejjiohkhlnnaa
open Go.RowKit
namespace Mt

/-- two lists in their order -/
def ord2 (cs : List C3) (y0 y1 : List Int) : List (List Int) := if lessL cs y1 y0 then [y1, y0] else [y0, y1]
theorem OutV.two {ob : Nat} {v : Value} {y0 y1 : List Int} {w : World} (O : OutV ob v [y0, y1] w) : ∃ blk c u0 u1 cur, v = .slice (some ⟨blk, 0, none⟩) 2 c ∧ ob < blk ∧ w.heap[blk]? = some (.cells cur 22 (0, 0)) ∧ cur[0]? = some u0 ∧ cur[1]? = some u1 ∧
    w.ownsRow (ob + 1) 3 1 u0 y0.length (y0.map (Value.int .i64)) ∧ w.ownsRow (ob + 1) 3 1 u1 y1.length (y1.map (Value.int .i64)) ∧ u0.ownBlock ≠ some blk ∧ u1.ownBlock ≠ some blk ∧ (∀ g, u0.ownBlock = some g → u1.ownBlock ≠ some g) ∧ u0.oneCell' = true ∧ u1.oneCell' = true := by
  obtain ⟨hs, h1, h2, h3⟩ := O.row
  obtain ⟨u0, a0, b0, d0⟩ := h2 0 y0 rfl
  obtain ⟨u1, a1, b1, d1⟩ := h2 1 y1 rfl
  have hl := h1.1
  rcases h1.2 with ⟨-, h⟩ | ⟨g, cap, cur, rfl, hg, hc, hnc, hcm, hsz, ht⟩
  · simp at h
  · have k0 : cur[0]? = some u0 := by
      have : (cur.toList.take 2)[0]? = some u0 := by
        rw [show cur.toList.take 2 = hs from ht]; exact a0
      simpa using this
    have k1 : cur[1]? = some u1 := by
      have : (cur.toList.take 2)[1]? = some u1 := by
        rw [show cur.toList.take 2 = hs from ht]; exact a1
      simpa using this
    obtain ⟨p0, q0, e0⟩ := owns_shape' b0
    obtain ⟨p1, q1, e1⟩ := owns_shape' b1
    exact ⟨g, cap, u0, u1, cur, rfl, by omega, hc, k0, k1, b0, b1, fun e => d0 _ e rfl, fun e => d1 _ e rfl, fun g' e => h3 0 1 u0 u1 (by omega) a0 a1 g' e, by rw [e0]; rfl, by rw [e1]; rfl⟩
theorem setSet {cur : Array Value} (hz : 1 < cur.size) (u0 u1 : Value) : ((cur.setIfInBounds 1 u0).setIfInBounds 0 u1).toList.take 2 = [u1, u0] := by
  obtain ⟨l⟩ := cur
  match l, hz with
  | a :: b :: r, _ => simp
/-- what the sort leaves of the list -/
def SubsEnd (ob : Nat) (v : Value) (acc : List (List Int)) (w : World) (e : Ending) (w' : World) : Prop := e = .returned (.tuple #[]) ∧ OutV ob v acc w' ∧ Below ob w w'
theorem sorted_out {ob : Nat} {y0 y1 : List Int} {w w' : World} {blk c : Nat} {cur : Array Value} {u0 u1 : Value} (b : Bool) (hO : OutV ob (.slice (some ⟨blk, 0, none⟩) 2 c) [y0, y1] w) (hob : ob < blk) (hc : w.heap[blk]? = some (.cells cur 22 (0, 0))) (_k0 : cur[0]? = some u0) (k1 : cur[1]? = some u1)
    (b0 : w.ownsRow (ob + 1) 3 1 u0 y0.length (y0.map (Value.int .i64))) (b1 : w.ownsRow (ob + 1) 3 1 u1 y1.length (y1.map (Value.int .i64))) (d0 : u0.ownBlock ≠ some blk) (d1 : u1.ownBlock ≠ some blk) (hd : ∀ g, u0.ownBlock = some g → u1.ownBlock ≠ some g)
    (h : Srt.Sorted2 blk u0 u1 b w w') : OutV ob (.slice (some ⟨blk, 0, none⟩) 2 c) (if b then [y1, y0] else [y0, y1]) w' ∧ Below ob w w' := by
  obtain ⟨V, hV, hw⟩ := h
  have hlt := hO.lt
  have hltb := (Array.getElem?_eq_some_iff.1 hc).1
  have OV := hO.below hV
  cases b with
  | false =>
    unfold Srt.swp at hw
    simp only [Bool.false_eq_true, if_false] at hw ⊢
    exact ⟨OV.below hw, (hV.mono (Nat.le_of_lt hlt)).trans (hw.mono (Nat.le_of_lt OV.lt))⟩
  | true =>
    unfold Srt.swp at hw
    simp only [if_true] at hw ⊢
    obtain ⟨V2, hV2⟩ : ∃ V2, V2 = (V.setCell ⟨blk, 1, none⟩ u0).setCell ⟨blk, 0, none⟩ u1 := ⟨_, rfl⟩
    rw [← hV2] at hw
    have hcV := (hV.block blk hltb).trans hc
    have hc1 : (V.setCell ⟨blk, 1, none⟩ u0).heap[blk]? = some (.cells (cur.setIfInBounds 1 u0) 22 (0, 0)) := heap_setCell hcV u0
    have hc2 : V2.heap[blk]? = some (.cells ((cur.setIfInBounds 1 u0).setIfInBounds 0 u1) 22 (0, 0)) := by rw [hV2]; exact heap_setCell hc1 u1
    have far : ∀ j, j ≠ blk → V2.heap[j]? = V.heap[j]? := fun j hj => by
      rw [hV2, Below.heap_setCell _ _ _ _ (fun e => hj e), Below.heap_setCell _ _ _ _ (fun e => hj e)]
    have s2 : V2.heap.size = V.heap.size := by rw [hV2]; simp
    have hb2 : Below ob V V2 := by
      rw [hV2]
      exact ((Below.refl _ _).setCell (p := ⟨blk, 1, none⟩) (Nat.le_of_lt hob) _).setCell (p := ⟨blk, 0, none⟩) (Nat.le_of_lt hob) _
    have bV0 := owns_below b0 hV (Nat.le_refl _)
    have bV1 := owns_below b1 hV (Nat.le_refl _)
    have e0 : V2.ownsRow (ob + 1) 3 1 u0 y0.length (y0.map (Value.int .i64)) := owns_block bV0 (fun g e => far g (fun e' => d0 (e' ▸ e)))
    have e1 : V2.ownsRow (ob + 1) 3 1 u1 y1.length (y1.map (Value.int .i64)) := owns_block bV1 (fun g e => far g (fun e' => d1 (e' ▸ e)))
    have O2 : OutV ob (.slice (some ⟨blk, 0, none⟩) 2 c) [y1, y0] V2 := by
      refine ⟨(far ob (by omega)).trans OV.box, [u1, u0], ⟨rfl, .inr ?_⟩, fun i xs hx => ?_, fun i j x x' hij hi hj g e => ?_⟩
      · obtain ⟨hs, h1, -⟩ := OV.row
        rcases h1.2 with ⟨h, -⟩ | ⟨g, cap, cur', h5, hg, hc', hnc, hcm, hsz, ht⟩
        · cases h
        · cases h5
          rw [hcV] at hc'
          cases hc'
          refine ⟨blk, c, _, rfl, hg, hc2, hnc, hcm, by simpa using hsz, ?_⟩
          have hz : 1 < cur.size := (Array.getElem?_eq_some_iff.1 k1).1
          exact setSet hz u0 u1
      · match i, hx with
        | 0, hx => simp at hx; subst hx; exact ⟨u1, rfl, e1, fun g e e' => d1 (by rw [e]; exact e'.symm)⟩
        | 1, hx => simp at hx; subst hx; exact ⟨u0, rfl, e0, fun g e e' => d0 (by rw [e]; exact e'.symm)⟩
        | i + 2, hx => simp at hx
      · match i, j, hi, hj with
        | 0, 1, hi, hj =>
          simp at hi hj
          subst hi; subst hj
          exact fun e' => hd g e' e
        | 0, 0, _, _ => omega
        | 1, 0, _, _ => omega
        | 1, 1, _, _ => omega
        | i + 2, _, hi, _ => simp at hi
        | _, j + 2, _, hj => simp at hj
    exact ⟨O2.below hw, (hV.mono (Nat.le_of_lt hlt)).trans (hb2.trans (hw.mono (Nat.le_of_lt O2.lt)))⟩
set_option maxHeartbeats 4000000 in
set_option maxRecDepth 100000 in
theorem sortSubs_two (ob : Nat) (v : Value) (y0 y1 : List Int) (ca : Option Addr) (cc : Nat) (cs : List C3) (W : World) (O : OutV ob v [y0, y1] W) (hc : Consts W ca cs) (hl : y1.length = y0.length) (hl6 : y0.length ≤ 16) (o0 : IdsOk cs.length y0) (o1 : IdsOk cs.length y1) :
    Calls Try.prog 50 #[.slice ca cs.length cc, v] W (SubsEnd ob v (ord2 cs y0 y1) W) := by
  obtain ⟨blk, c, u0, u1, cur, rfl, hob, hcb, k0, k1, b0, b1, d0, d1, hd, t0, t1⟩ := O.two
  obtain ⟨n, hn⟩ : ∃ n, n = cs.length := ⟨_, rfl⟩
  obtain ⟨W0, hW0⟩ : ∃ V, V = (W.alloc (.cells #[.slice ca n cc] 24)).alloc (.cells #[.slice (some ⟨blk, 0, none⟩) 2 c] 38) := ⟨_, rfl⟩
  have hb0 : Below W.heap.size W W0 := by rw [hW0]; exact ((Below.refl _ _).alloc (Nat.le_refl _) _).alloc (by simp) _
  have O0 := O.below hb0
  have hltb := (Array.getElem?_eq_some_iff.1 hcb).1
  have hcb0 := (hb0.block blk hltb).trans hcb
  have z0 : W0.cell? ⟨blk, 0, none⟩ = some u0 := by simp [World.cell?, hcb0, k0]
  have z1 : W0.cell? ⟨blk, 1, none⟩ = some u1 := by simp [World.cell?, hcb0, k1]
  have f0 : W0.frozen? ⟨blk, 0, none⟩ = false := by simp [World.frozen?, hcb0]
  have f1 : W0.frozen? ⟨blk, 1, none⟩ = false := by simp [World.frozen?, hcb0]
  have hlt := O.lt
  obtain ⟨p0, q0, rfl⟩ := owns_shape' b0
  obtain ⟨p1, q1, rfl⟩ := owns_shape' b1
  have i0 : Ints W0 p0 y0 := by
    obtain ⟨a', c', e, h⟩ := ints_of_row b0
    cases e
    exact h.below hb0
  have i1 : Ints W0 p1 y1 := by
    obtain ⟨a', c', e, h⟩ := ints_of_row b1
    cases e
    exact h.below hb0
  have hless : ∀ V, Below W0.heap.size W0 V → Calls Try.prog 75 #[.int .i64 1, .int .i64 0, .pointer (some ⟨W.heap.size + 1, 0, none⟩), .pointer (some ⟨W.heap.size, 0, none⟩)] V fun e w' => e = .returned (.bool (lessL cs y1 y0)) ∧ Below V.heap.size V w' := fun V hV => by
    have hcs : W0.cell? ⟨W.heap.size, 0, none⟩ = some (.slice ca cs.length cc) := by rw [hW0, hn]; simp
    have hsb : W0.cell? ⟨W.heap.size + 1, 0, none⟩ = some (.slice (some ⟨blk, 0, none⟩) 2 c) := by rw [hW0]; simp
    exact less_any (W.heap.size + 1) W.heap.size blk 2 c 1 0 ca cc cs y1 y0 p1 p0 q1 q0 V (on_cell hV hsb) (on_cell hV hcs) ((hc.below hb0 (Nat.le_refl _)).below hV (Nat.le_refl _)) (on_cell hV z1) (on_cell hV z0) (by omega) (by omega) (i1.below hV) (i0.below hV) hl (by omega) o1 o0
  have cS := Lib.hid (Srt.slice_two (blk := blk) (c := c) t0 t1 (lessL cs y1 y0) _ _ W0 z0 z1 f0 f1 hless)
  have HF : Hid (∀ w', Srt.Sorted2 blk (.slice p0 y0.length q0) (.slice p1 y1.length q1) (lessL cs y1 y0) W0 w' → SubsEnd ob (.slice (some ⟨blk, 0, none⟩) 2 c) (ord2 cs y0 y1) W (.returned (.tuple #[])) w') := Lib.hid (fun w' h => by
    obtain ⟨k1', k2'⟩ := sorted_out (lessL cs y1 y0) O0 hob hcb0 k0 k1 (owns_below b0 hb0 (Nat.le_refl _)) (owns_below b1 hb0 (Nat.le_refl _)) d0 d1 hd h
    exact ⟨rfl, k1', (hb0.mono (Nat.le_of_lt hlt)).trans k2'⟩)
  rw [← hn]
  rw [hW0] at cS
  have HW0 := Lib.hid hW0
  have Hn := Lib.hid hn
  clear hless i0 i1 z0 z1 f0 f1 hcb0 O0 hb0 b0 b1 d0 d1 hd t0 t1 k0 k1 hcb hc O o0 o1 hl hW0 hn hltb
  go_enter Try.func50, Try.ntmps50
  go_wp2_with fail
  refine cS.out.mono ?_
  rintro e w' ⟨rfl, hS⟩
  rw [← HW0.out] at hS
  have HF2 := Lib.hid (HF.out w' hS)
  clear hS
  go_wp2_with fail
  go_end0
  exact HF2.out
end Mt
end Go.Proofs.Ytkejjiohkhlnnaa
