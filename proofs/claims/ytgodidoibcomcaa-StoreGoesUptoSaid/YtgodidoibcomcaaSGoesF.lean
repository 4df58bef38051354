/-
  What the function does that the law StoreGoes hands to Each.
-/
import Derived.Test.YtgodidoibcomcaaSEach
import Derived.Test.YtgodidoibcomcaaSTryF
namespace Go.Proofs.Ytgodidoibcomcaa
open Go.RowKit

/-- the caught list: an own slice of integers, whose block is nobody else's -/
def Got (B : Nat) (τ : Own) (w : World) (v : Value) (xs : List Int) : Prop := w.ownsRow B 3 1 v xs.length (xs.map (Value.int .i64)) ∧ ∀ g, v.ownBlock = some g → τ g = some (boxS, .rows)
theorem Got.below {B : Nat} {τ : Own} {w w' : World} {v : Value} {xs : List Int} (h : Got B τ w v xs) (hb : Below w.heap.size w w') : Got B τ w' v xs := ⟨owns_block h.1 (fun g e => hb.block g (h.1.lt g e).2), h.2⟩
theorem Got.set {B : Nat} {τ : Own} {w : World} {v : Value} {xs : List Int} (h : Got B τ w v xs) {a : Addr} (u : Value) (ha : τ a.block = some (boxS, .still)) : Got B τ (w.setCell a u) v xs :=
  ⟨owns_block h.1 (fun g e => Below.heap_setCell w a u g (fun e' => by
    have := h.2 g e
    rw [e', ha] at this
    cases this)), h.2⟩
theorem Env.grow {w0 : World} {τ : Own} {wA w2 : World} {S : List Ent} {L : List RSl} {C : List Box} (E : Env w0 τ wA S L C) (hS : ∀ z ∈ S, z.s ≠ boxS) {B : Nat} {v v' : Value} {xs ys : List Int} (hg : Got B τ wA v xs)
    (hgrow : wA.grownBy w2 v.ownBlock) (hown : w2.ownsRow B 3 1 v' ys.length (ys.map (Value.int .i64))) (hblk : v'.ownBlock = v.ownBlock ∨ v'.ownBlock = some wA.heap.size) :
    ∃ τ', Env w0 τ' w2 S L C ∧ Got B τ' w2 v' ys ∧ Turn boxS (fun r => r = .rows) τ τ' wA w2 := by
  have T : Turn boxS (fun r => r = .rows) τ (adopted boxS .rows wA.heap.size w2.heap.size τ) wA w2 := Turn.grown hgrow E.fresh .rows rfl (fun g e => hg.2 g e)
  obtain ⟨h1, h2, h3, h4, h5⟩ := E.turned T (.inr fun h => by cases h)
  exact ⟨_, ⟨h1, h2, h3, fun z hz => (E.st z hz).kept T (hS z hz), h4, h5, E.keys⟩, ⟨hown, tag_grown hown (fun g e => ⟨hg.2 g e, (hg.1.lt g e).2⟩) hblk⟩, T⟩

theorem StoreAt.setBox {s sb : Nat} {σ : St} {h : Hd} {τ : Own} {w : World} (hs : StoreAt s sb σ h τ w) (h0 : s ≠ boxS) {a : Addr} (u : Value) (ha : τ a.block = some (boxS, .still)) : StoreAt s sb σ h τ (w.setCell a u) :=
  hs.kept (Turn.setCell (R := fun r => r = .still) hs.fresh ha rfl u) (.inl h0)
def goesBoxes (bs bg bo sb : Nat) (v : Value) : List Box :=
  [(bo, .cells #[.bool true] 4), (bg, .cells #[v] 22), (bs, .cells #[.pointer (some ⟨sb, 0, none⟩)] 25)]

/-- what stands between the calls -/
def GoesInv (w0 : World) (bs bg bo sb : Nat) (e0 : Ent) (σ0 : St) (h0 : Hd) (L : List RSl) (T : List (Int × Int)) (stop : Int) (k : Nat) (X : List Box) (τ : Own) (w : World) (σ : St) : Prop :=
  σ = σ0 ∧ StoreAt 1 sb σ0 h0 τ w ∧ k ≤ T.length ∧ (stop < 0 ∨ (k : Int) ≤ stop) ∧ ∃ a c, Env w0 τ w [e0] L (X ++ goesBoxes bs bg bo sb (.slice a k c)) ∧ Got w0.heap.size τ w (.slice a k c) ((T.take k).map (·.1))
def GoesFin (w0 : World) (bs bg bo sb : Nat) (e0 : Ent) (L : List RSl) (T : List (Int × Int)) (stop : Int) (τ : Own) (w : World) : Prop :=
  ∃ (m : Nat) (X : List Box) (a : Option Addr) (c : Nat), m ≤ T.length ∧ ((0 ≤ stop ∧ stop < T.length ∧ (m : Int) = stop + 1) ∨ ((stop < 0 ∨ (T.length : Int) ≤ stop) ∧ m = T.length)) ∧ Env w0 τ w [e0] L (X ++ goesBoxes bs bg bo sb (.slice a m c)) ∧ Got w0.heap.size τ w (.slice a m c) ((T.take m).map (·.1))

set_option maxHeartbeats 8000000 in
set_option maxRecDepth 8000 in
theorem goescall_any {w0 : World} {bs bg bo bi sb : Nat} {e0 : Ent} {σ0 : St} {h0 : Hd} {L : List RSl} {T : List (Int × Int)} {stop : Int} (he0 : e0.s = 1) (hin : ∀ W : World, Below w0.heap.size w0 W → W.cell? ⟨bi, 5, none⟩ = some (.int .i64 stop)) (hTl : T.length ≤ 100000000000)
    {k : Nat} {X : List Box} {τ : Own} {w : World} {i : Nat} {bt : Int} {p : Int} {xs : List Int} {a : Option Addr} {c : Nat} (hI : GoesInv w0 bs bg bo sb e0 σ0 h0 L T stop k X τ w σ0) (hT : T[k]? = some ((i : Int), bt)) (hr : σ0.rows[i]? = some (p, xs)) (hx : IntsZ (fun j => τ j = none) w a c xs) (hx8 : xs.length ≤ 8) :
    Calls Try.prog 33 #[.int .i64 (i : Int), .agg #[.int .i64 p, .slice a xs.length c], .pointer (some ⟨bg, 0, none⟩), .pointer (some ⟨bs, 0, none⟩), .pointer (some ⟨bo, 0, none⟩), .pointer (some ⟨bi, 0, none⟩)] w fun e w' =>
      ∃ more τ' σ', e = .returned (.bool more) ∧ ((more = true ∧ GoesInv w0 bs bg bo sb e0 σ0 h0 L T stop (k + 1) X τ' w' σ') ∨ (more = false ∧ GoesFin w0 bs bg bo sb e0 L T stop τ' w')) := by
  obtain ⟨-, hs, hk, hst, ag, cg, E, hG⟩ := hI
  have hkl := (List.getElem?_eq_some_iff.1 hT).1
  have hcl : (T.take k).length = k := by simp; omega
  have hgl : ((T.take k).map (·.1)).length = k := by simp; omega
  obtain ⟨c1, -⟩ := E.cell (k := X.length + 1) (by rw [app_at]; rfl) (j := 0) rfl
  simp only [List.getElem_toArray, List.getElem_cons_zero] at c1
  obtain ⟨W0, hW0⟩ : ∃ W, W = w.alloc (.cells #[.int .i64 p, .slice a xs.length c] 28) := ⟨_, rfl⟩
  obtain ⟨br, hbr⟩ : ∃ b, b = w.heap.size := ⟨_, rfl⟩
  have hb0 : Below w.heap.size w W0 := by rw [hW0]; exact (Below.refl _ _).alloc (Nat.le_refl _) _
  have r0 : W0.cell? ⟨br, 0, none⟩ = some (.int .i64 p) := by rw [hW0, hbr]; simp
  have r1 : W0.cell? ⟨br, 1, none⟩ = some (.slice a xs.length c) := by rw [hW0, hbr]; simp
  have c1' := on_cell hb0 c1
  obtain ⟨W1, hW1⟩ : ∃ W, W = W0.alloc (.cells #[.int .i64 (i : Int)] 3) := ⟨_, rfl⟩
  obtain ⟨b1, hb1e⟩ : ∃ b, b = W0.heap.size := ⟨_, rfl⟩
  have hb1 : Below W0.heap.size W0 W1 := by rw [hW1]; exact (Below.refl _ _).alloc (Nat.le_refl _) _
  have E1 := (E.stay hb0).stay hb1
  have hG1 := (hG.below hb0).below hb1
  have hs1 := (hs.below hb0).below hb1
  have hown1 := hG1.1
  rw [hgl] at hown1
  have hc5 := hin _ E1.below
  obtain ⟨P, hP⟩ : ∃ P, (T.take k).map (·.1) = P := ⟨_, rfl⟩
  have hP2 : (T.take (k + 1)).map (·.1) = P ++ [(i : Int)] := by rw [take_snoc' hT, List.map_append, hP]; rfl
  rw [hP] at hG1 hown1 hgl
  have hbsz : w0.heap.size ≤ W1.heap.size := E1.below.size
  have hx1 := (hx.below hb0 (Nat.le_refl _)).below hb1 (Nat.le_refl _)
  have hbr0 : τ br = none := by rw [hbr]; exact E.fresh _ (Nat.le_refl _)
  have HE1 := Lib.hid E1
  have HX1 := Lib.hid hx1
  have HBr0 := Lib.hid hbr0
  have HG1 := Lib.hid hG1
  have HS1 := Lib.hid hs1
  have HR := Lib.hid hr
  have HX := Lib.hid hx
  have HIn := Lib.hid hin
  have HP2 := Lib.hid hP2
  have HBr := Lib.hid hbr
  have HW0 := Lib.hid hW0
  have HW1 := Lib.hid hW1
  have HB1 := Lib.hid hb1e
  have r0 := on_cell hb1 r0
  have r1 := on_cell hb1 r1
  clear E hG hs E1 hG1 hs1 hr hx hin hP hP2 hbr hW0 hW1 hb1e hcl hc5 c1 hx1 hbr0
  have HTk := Lib.hid hT
  clear hT
  go_enter Try.func33, Try.ntmps33
  go_upto_region 1 with fail
  rw [← HW0.out, ← HBr.out]
  go_upto_region 2 with (at_builtin
                         rw [← HW1.out]
                         refine wpList_append_any elemInt _ rfl _ _ rfl w0.heap.size _ k (P.map (Value.int .i64)) rfl hown1 (some ⟨W0.heap.size, 0, none⟩) 1 1 [.int .i64 (i : Int)] rfl (by rw [HW1.out]; exact source_new _ _ _) rfl (by simp [Value.oneCell']) (by unfold maxLen; omega) (by omega) hbsz ?_
                         intro v' w2 hown2 hgrow2 hblk2
                         obtain ⟨g', cap', rfl⟩ := owns_slice hown2
                         obtain ⟨τ2, E2, hG2, T2⟩ := HE1.out.grow (fun z hz => by rw [List.mem_singleton] at hz; subst hz; rw [he0]; decide) HG1.out hgrow2 (ys := P ++ [(i : Int)]) (by rw [List.length_append, hgl]; simpa using hown2) hblk2
                         obtain ⟨d1, f1⟩ := E2.cell (k := X.length + 1) (by rw [app_at]; rfl) (j := 0) rfl
                         simp only [List.getElem_toArray, List.getElem_cons_zero] at d1
                         clear hown2 hgrow2 hblk2)
  have hbg : τ2 bg = some (boxS, .still) := (E2.boxes (bg, .cells #[.slice ag k cg] 22) (by simp [goesBoxes])).1
  have E3 := E2.setBox (fun z hz => by rw [List.mem_singleton] at hz; subst hz; rw [he0]; decide) (k := X.length + 1) (b := bg) (cs := #[.slice ag k cg]) (T := 22) (fr := (0, 0)) (by rw [app_at]; rfl) 0 (.slice (some ⟨g', 0, none⟩) (k + 1) cap')
  rw [app_set] at E3
  have hs3 := (HS1.out.kept T2 (.inl (by decide))).setBox (by decide) (a := ⟨bg, 0, none⟩) (.slice (some ⟨g', 0, none⟩) (k + 1) cap') hbg
  have hG3 := hG2.set (a := ⟨bg, 0, none⟩) (.slice (some ⟨g', 0, none⟩) (k + 1) cap') hbg
  have T3 : Turn boxS (fun r => r = .still) τ2 τ2 w2 (w2.setCell ⟨bg, 0, none⟩ (.slice (some ⟨g', 0, none⟩) (k + 1) cap')) := Turn.setCell (R := fun r => r = .still) E2.fresh (a := ⟨bg, 0, none⟩) hbg rfl _
  have hIx : IntsZ (fun _ => True) (w2.setCell ⟨bg, 0, none⟩ (.slice (some ⟨g', 0, none⟩) (k + 1) cap')) a c xs := (free_turn T3 (free_turn T2 HX1.out)).zone (fun _ _ => trivial)
  have hbr2 : τ2 br = none := (T2.own br (World.block_lt_of_cell? _ _ r0)).trans HBr0.out
  have r0 := T3.cell (T2.cell r0 (fun r e => by rw [HBr0.out] at e; cases e)) (fun r e => by rw [hbr2] at e; cases e)
  have r1 := T3.cell (T2.cell r1 (fun r e => by rw [HBr0.out] at e; cases e)) (fun r e => by rw [hbr2] at e; cases e)
  obtain ⟨W3, hW3⟩ : ∃ W, W = w2.setCell ⟨bg, 0, none⟩ (.slice (some ⟨g', 0, none⟩) (k + 1) cap') := ⟨_, rfl⟩
  rw [← hW3] at E3 hs3 hG3 r0 r1 hIx ⊢
  have HE3 := Lib.hid (show Env w0 τ2 W3 [e0] L (X ++ goesBoxes bs bg bo sb (.slice (some ⟨g', 0, none⟩) (k + 1) cap')) from E3)
  have HS3 := Lib.hid hs3
  have HG3 := Lib.hid hG3
  have HIx := Lib.hid hIx
  obtain ⟨d3, -⟩ := E3.cell (k := X.length + 2) (by rw [app_at]; rfl) (j := 0) rfl
  simp only [List.getElem_toArray, List.getElem_cons_zero] at d3
  have cR := Lib.hid (row_any hs3 i (p, xs) HR.out)
  clear E3 hs3 hG3 hIx hW3 E2 hG2 T2 d1 f1 hbg hown1 HE1 HG1 HS1 c1' HW1 HB1 hb1 hb0 HX HX1 HBr0 hbr2 T3
  go_wp2_with fail
  with_reducible refine cR.out.mono ?_
  rintro e w4 ⟨a4, c4, rfl, hI4, hb4⟩
  obtain ⟨W5, hW5⟩ : ∃ W, W = w4.alloc (.cells #[.int .i64 p, .slice a4 xs.length c4] 28) := ⟨_, rfl⟩
  obtain ⟨bq, hbq⟩ : ∃ b, b = w4.heap.size := ⟨_, rfl⟩
  have hb45 : Below w4.heap.size w4 W5 := by rw [hW5]; exact (Below.refl _ _).alloc (Nat.le_refl _) _
  have q0 : W5.cell? ⟨bq, 0, none⟩ = some (.int .i64 p) := by rw [hW5, hbq]; simp
  have q1 : W5.cell? ⟨bq, 1, none⟩ = some (.slice a4 xs.length c4) := by rw [hW5, hbq]; simp
  have hb35 : Below W3.heap.size W3 W5 := hb4.trans (hb45.mono hb4.size)
  have E5 := HE3.out.stay hb35
  have hs5 := HS3.out.below hb35
  have hG5 := HG3.out.below hb35
  have r0 := on_cell hb35 r0
  have r1 := on_cell hb35 r1
  obtain ⟨d5, -⟩ := E5.cell (k := X.length + 0) (by rw [app_at]; rfl) (j := 0) rfl
  simp only [List.getElem_toArray, List.getElem_cons_zero] at d5
  have cE := Lib.hid (equal_any p p a4 a c4 c xs xs W5 (hI4.below hb45 (Nat.le_refl _)).ints (HIx.out.below hb35 (Nat.le_refl _)).ints (by omega))
  simp only [decide_true] at cE
  have HE5 := Lib.hid E5
  have HS5 := Lib.hid hs5
  have HG5 := Lib.hid hG5
  have HW5 := Lib.hid hW5
  have HBq := Lib.hid hbq
  clear E5 hs5 hG5 hW5 hbq hb45 hb35 hI4 HE3 HS3 HG3 HIx d3 cR hb4
  go_upto_region 3 with fail
  rw [← HW5.out, ← HBq.out]
  go_wp2_with fail
  with_reducible refine cE.out.mono ?_
  rintro e w6 ⟨rfl, hb6⟩
  have E6 := HE5.out.stay hb6
  have hs6 := HS5.out.below hb6
  have hG6 := HG5.out.below hb6
  obtain ⟨d6, f6⟩ := E6.cell (k := X.length + 0) (by rw [app_at]; rfl) (j := 0) rfl
  simp only [List.getElem_toArray, List.getElem_cons_zero] at d6
  have hbo : τ2 bo = some (boxS, .still) := (E6.boxes (bo, .cells #[.bool true] 4) (by simp [goesBoxes])).1
  have E7 := E6.setBox (fun z hz => by rw [List.mem_singleton] at hz; subst hz; rw [he0]; decide) (k := X.length + 0) (b := bo) (cs := #[.bool true]) (T := 4) (fr := (0, 0)) (by rw [app_at]; rfl) 0 (.bool true)
  rw [app_set] at E7
  have hs7 := hs6.setBox (by decide) (a := ⟨bo, 0, none⟩) (.bool true) hbo
  have hG7 := hG6.set (a := ⟨bo, 0, none⟩) (.bool true) hbo
  obtain ⟨W7, hW7⟩ : ∃ W, W = w6.setCell ⟨bo, 0, none⟩ (.bool true) := ⟨_, rfl⟩
  rw [← hW7] at E7 hs7 hG7
  have HE7 := Lib.hid (show Env w0 τ2 W7 [e0] L (X ++ goesBoxes bs bg bo sb (.slice (some ⟨g', 0, none⟩) (k + 1) cap')) from E7)
  have HS7 := Lib.hid hs7
  have HG7 := Lib.hid hG7
  have HW7 := Lib.hid hW7
  obtain ⟨d7, -⟩ := HE7.out.cell (k := X.length + 1) (by rw [app_at]; rfl) (j := 0) rfl
  simp only [List.getElem_toArray, List.getElem_cons_zero] at d7
  have d75 := HIn.out W7 HE7.out.below
  clear E6 hs6 hG6 E7 hs7 hG7 hW7 hb6 HE5 HS5 HG5 q0 q1 r0 r1 d5 cE hbo
  go_upto_region 4 with fail
  rw [← HW7.out]
  by_cases hks : (k : Int) = stop
  · have hd : ((k : Int) != stop) = false := by simpa using hks
    go_wp2
    go_ret
    refine ⟨false, τ2, σ0, rfl, .inr ⟨rfl, k + 1, X, _, _, by omega, .inl ⟨by omega, by omega, by omega⟩, HE7.out, ?_⟩⟩
    rw [HP2.out]
    exact HG7.out
  · have hd : ((k : Int) != stop) = true := by simpa using hks
    go_wp2
    go_ret
    refine ⟨true, τ2, σ0, rfl, .inl ⟨rfl, rfl, HS7.out, by omega, by omega, _, _, HE7.out, ?_⟩⟩
    rw [HP2.out]
    exact HG7.out
end Go.Proofs.Ytgodidoibcomcaa
