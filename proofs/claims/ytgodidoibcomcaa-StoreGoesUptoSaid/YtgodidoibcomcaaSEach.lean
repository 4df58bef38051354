/-
  What Each does, whatever the function does that it is handed.
-/
import Derived.Test.YtgodidoibcomcaaSTry
import Derived.Test.YtgodidoibcomcaaSCopy
namespace Go.Proofs.Ytgodidoibcomcaa
open Go.RowKit

theorem idxL_at {q : Row → Prop} {rows : List Row} {x : Int} (h : x ∈ idxL q rows) : ∃ (i : Nat) (r : Row), x = (i : Int) ∧ rows[i]? = some r ∧ q r := by
  unfold idxL at h
  rw [List.mem_filterMap] at h
  obtain ⟨⟨r, i⟩, hm, hx⟩ := h
  rw [List.mem_zipIdx_iff_getElem?] at hm
  simp only at hx hm
  split at hx
  · cases hx
    exact ⟨i, r, rfl, hm, by assumption⟩
  · cases hx
/-- the turns that Each notes: a row's number, and when it came -/
noncomputable def turnsOf (σ : St) (p : Int) : List (Int × Int) := (ofK σ.rows (.int .i64 p)).map fun i => (i, (σ.bs[i.toNat]?).getD 0)
theorem turnsOf_at {s sb : Nat} {σ : St} {h : Hd} {τ : Own} {w : World} (hs : StoreAt s sb σ h τ w) {p : Int} {k : Nat} {x : Int × Int} (hx : (turnsOf σ p)[k]? = some x) :
    (ofK σ.rows (.int .i64 p))[k]? = some x.1 ∧ ∃ (i : Nat) (r : Row), x.1 = (i : Int) ∧ σ.rows[i]? = some r ∧ r.1 = p ∧ σ.bs[i]? = some x.2 := by
  unfold turnsOf at hx
  rw [List.getElem?_map] at hx
  cases hk : (ofK σ.rows (.int .i64 p))[k]? with
  | none => rw [hk] at hx; cases hx
  | some i0 =>
    rw [hk] at hx
    simp only [Option.map_some, Option.some.injEq] at hx
    subst hx
    obtain ⟨i, r, hi, hr, hq⟩ := idxL_at (List.mem_of_getElem? hk)
    refine ⟨rfl, i, r, hi, hr, ?_, ?_⟩
    · have : Value.int .i64 p = Value.int .i64 r.1 := hq
      simp at this
      exact this.symm
    · have hlt := (List.getElem?_eq_some_iff.1 hr).1
      rw [hi, Int.toNat_natCast]
      rw [List.getElem?_eq_getElem (by rw [hs.sound.born]; exact hlt)]
      rfl
def turnCells (T : List (Int × Int)) : List Value := T.flatMap fun x => [.int .i64 x.1, .int .i64 x.2]
theorem turnCells_snoc (T : List (Int × Int)) (x : Int × Int) : turnCells (T ++ [x]) = turnCells T ++ [.int .i64 x.1, .int .i64 x.2] := by simp [turnCells]
theorem turnCells_length (T : List (Int × Int)) : (turnCells T).length = T.length * 2 := by
  induction T with
  | nil => rfl
  | cons x T ih =>
    show ([Value.int .i64 x.1, .int .i64 x.2] ++ turnCells T).length = _
    rw [List.length_append, ih]
    simp
    omega
theorem turnCells_at {T : List (Int × Int)} {k : Nat} {x : Int × Int} (h : T[k]? = some x) : (turnCells T)[k * 2]? = some (.int .i64 x.1) ∧ (turnCells T)[k * 2 + 1]? = some (.int .i64 x.2) := by
  induction T generalizing k with
  | nil => simp at h
  | cons y T ih =>
    have e : turnCells (y :: T) = .int .i64 y.1 :: .int .i64 y.2 :: turnCells T := rfl
    cases k with
    | zero =>
      simp at h
      subst h
      exact ⟨rfl, rfl⟩
    | succ k =>
      have := ih (k := k) (by simpa using h)
      rw [e, show (k + 1) * 2 = k * 2 + 1 + 1 from by omega]
      exact ⟨by simpa using this.1, by simpa using this.2⟩
theorem infoTurn : (Try.prog.info? 108).map (fun i => (i.zero, i.size, i.bytes)) = some (some (.agg #[.int .i64 0, .int .i64 0]), 2, 16) := by kernel_rfl
theorem elemTurn : Elem Try.prog 106 108 (.agg #[.int .i64 0, .int .i64 0]) 2 16 := ⟨Try.underlying106, infoTurn, rfl, by decide⟩

/-- the function that Each is handed, and what stands between its calls -/
structure EachFn (s sb F : Nat) (caps : Array Value) (T : List (Int × Int)) (Inv : Nat → List Box → Own → World → St → Prop) (Fin : Own → World → Prop) : Prop where
  stay : ∀ k X τ (w w' : World) σ, Inv k X τ w σ → Below w.heap.size w w' → Inv k X τ w' σ
  store : ∀ k X τ (w : World) σ, Inv k X τ w σ → ∃ h, StoreAt s sb σ h τ w ∧ σ.rows.length ≤ 100000000000
  boxes : ∀ k X τ (w : World) σ, Inv k X τ w σ → ∀ x ∈ X, w.heap[x.1]? = some x.2
  skip : ∀ k X τ (w : World) σ x, Inv k X τ w σ → T[k]? = some x → σ.bs[x.1.toNat]? ≠ some x.2 → Inv (k + 1) X τ w σ
  call : ∀ k X τ (w : World) σ x r a c, Inv k X τ w σ → T[k]? = some x → σ.bs[x.1.toNat]? = some x.2 → σ.rows[x.1.toNat]? = some r → IntsZ (fun j => τ j = none) w a c r.2 →
    Calls Try.prog F (#[.int .i64 x.1, .agg #[.int .i64 r.1, .slice a r.2.length c]] ++ caps) w fun e w' => ∃ more τ' σ', e = .returned (.bool more) ∧ ((more = true ∧ Inv (k + 1) X τ' w' σ') ∨ (more = false ∧ Fin τ' w'))
  last : ∀ X τ (w : World) σ, Inv T.length X τ w σ → Fin τ w
  enters : ∀ (x y : Value) (w : World), (callFunc F (#[x, y] ++ caps)).run Try.prog w = .ok (.enter F (#[x, y] ++ caps)) w

def EachEnd (Fin : Own → World → Prop) (e : Ending) (w' : World) : Prop := e = .returned (.tuple #[]) ∧ ∃ τ', Fin τ' w'

set_option linter.unusedSimpArgs false in
set_option maxHeartbeats 16000000 in
set_option maxRecDepth 8000 in
theorem each_any {s sb : Nat} {σ : St} {h : Hd} {τ : Own} {w : World} (hs : StoreAt s sb σ h τ w) (p : Int) (hp : Rng p) (hl : σ.rows.length ≤ 100000000000) (F : Nat) (caps : Array Value) {Inv : Nat → List Box → Own → World → St → Prop} {Fin : Own → World → Prop} (H : EachFn s sb F caps (turnsOf σ p) Inv Fin)
    (hi0 : ∀ w1, Below w.heap.size w w1 → Inv 0 [] τ w1 σ) (hi1 : ∀ w1 g o, Below w.heap.size w w1 → w.heap.size ≤ g → w1.heap[g]? = some o → Inv 0 [(g, o)] (adopted boxS .still g (g + 1) τ) w1 σ) :
    Calls Try.prog 32 #[.pointer (some ⟨sb, 0, none⟩), .int .i64 p, .func (.func F) #[] caps] w (EachEnd Fin) := by
  obtain ⟨a, c, hrun, hI⟩ := look_of hs hp
  obtain ⟨c0, c1, c2, c3, c4, c5, c6, c7⟩ := hs.head.cells
  have hlen : (ofK σ.rows (.int .i64 p)).length ≤ σ.rows.length := idxL_length (fun r => Value.int .i64 p = .int .i64 r.1) σ.rows
  have hT : (turnsOf σ p).length = (ofK σ.rows (.int .i64 p)).length := by simp [turnsOf]
  obtain ⟨aR, cR, hvR, hnR⟩ := hs.vR
  rw [hvR] at c1
  have HS := Lib.hid hs
  have HH := Lib.hid H
  have HI := Lib.hid hI
  have H0 := Lib.hid hi0
  have H1 := Lib.hid hi1
  have HVR := Lib.hid hvR
  obtain ⟨T, hTe⟩ : ∃ T, turnsOf σ p = T := ⟨_, rfl⟩
  obtain ⟨P, hPe⟩ : ∃ P, ofK σ.rows (.int .i64 p) = P := ⟨_, rfl⟩
  rw [hTe] at hT HH
  rw [hPe] at hT hlen hrun HI
  have HT := Lib.hid hT
  have HTe := Lib.hid hTe
  have HPe := Lib.hid hPe
  have hTl : T.length ≤ 100000000000 := by omega
  have hPl : P.length ≤ 100000000000 := by omega
  have hnf : ∀ w : World, (binOp .eql 60 (.func (.func F) #[] caps) .nilFunc).run Try.prog w = .ok (.bool false) w := fun w => by kernel_rfl
  clear hs H hI hi0 hi1 hvR hnR c0 c2 c3 c5 c6 c7 hTe hPe hT
  go_enter Try.func32, Try.ntmps32
  go_wp2_with fail
  go_loopw [6, 24] (fun v i wr => ∃ j : Nat, j ≤ P.length ∧ i = .int .i64 j ∧ wr.ownsRow w.heap.size 108 2 v j (turnCells (T.take j)) ∧ Below w.heap.size w wr) (fun _ i _ => P.length - (intOf i).toNat)
  case atStart => exact ⟨0, Nat.zero_le _, rfl, World.ownsRow_nil _ _ _ _, Below.refl _ _⟩
  case round =>
    obtain ⟨j, hj, rfl, hown, hbel⟩ := hrel
    by_cases hlt : j < P.length
    · obtain ⟨x, hx⟩ : ∃ x, T[j]? = some x := ⟨_, List.getElem?_eq_getElem (by rw [HT.out]; exact hlt)⟩
      obtain ⟨hx1, i, r, hxi, hr, hrp, hbs⟩ := turnsOf_at HS.out (by rw [HTe.out]; exact hx)
      rw [HPe.out] at hx1
      obtain ⟨g, cg, ar, ca, bt, hv, hbt, d0, d1, d2, _⟩ := RowsPart.at3 HS.out hr
      rw [hbs] at hbt
      cases hbt
      rw [HVR.out] at hv
      simp only [Value.slice.injEq] at hv
      obtain ⟨rfl, _, rfl⟩ := hv
      rcases HI.out.1 with hn | ⟨b1, o1, rfl, _, hc1⟩
      · rw [hn] at hlt; simp at hlt
      · have y1 := hc1 j hlt
        rw [show P[j] = x.1 from (List.getElem?_eq_some_iff.1 hx1).2] at y1
        have e1 := (hbel.cell (World.block_lt_of_cell? _ _ y1)).trans y1
        have e2 := (hbel.cell (World.block_lt_of_cell? _ _ d2)).trans d2
        have e3 := (hbel.cell (World.block_lt_of_cell? _ _ c1)).trans c1
        have hil := (List.getElem?_eq_some_iff.1 hr).1
        obtain ⟨x1, x2⟩ := x
        simp only at hxi e1 e2 hx1
        subst hxi
        have HX := Lib.hid hx
        have hi0 : (0 : Int) ≤ (i : Int) := by omega
        have hi1 : (i : Int) < (σ.rows.length : Int) := by omega
        clear hc1 y1 d0 d1 d2 hx hx1 hr hrp hbs
        have sz := hbel.size
        go_wp2_with (at_builtin; refine wpList_append_any elemTurn _ rfl _ _ rfl w.heap.size _ j (turnCells (T.take j)) rfl (hown.alloc _) (some ⟨wr.heap.size, 0, none⟩) 1 1 [.int .i64 (i : Int), .int .i64 x2] rfl (source_new _ _ _) rfl (by simp [Value.oneCell']) (by unfold maxLen; omega) (by omega) (by simp; omega) ?_; intro v' w2 hown2 hgrow2 _)
        have hb4 : Below w.heap.size w w2 := (hbel.alloc sz _).grown hgrow2 (by simp; omega) (fun j hj => by have := (hown.lt j hj).1; omega)
        go_roundw
        case rel => exact ⟨j + 1, by omega, by go_num, by rw [take_snoc' HX.out, turnCells_snoc]; exact hown2, hb4⟩
        case measure => simp [intOf]; omega
    · have hje : j = P.length := by omega
      subst hje
      obtain ⟨w1, hw1⟩ : ∃ w1, w1 = wr := ⟨_, rfl⟩
      subst hw1
      rw [← HT.out, List.take_length] at hown
      have hstart : ∃ (av : Option Addr) (cv : Nat) (X : List Box) (τ1 : Own), u6 = .slice av T.length cv ∧ Inv 0 X τ1 w1 σ ∧ ∀ W : World, (∀ x ∈ X, W.heap[x.1]? = some x.2) → ∀ (j : Nat) (x : Int × Int), T[j]? = some x → ∃ g, av = some ⟨g, 0, none⟩ ∧ W.cell? ⟨g, j * 2, none⟩ = some (.int .i64 x.1) ∧ W.cell? ⟨g, j * 2 + 1, none⟩ = some (.int .i64 x.2) := by
        rcases owns_form hown with ⟨e, h0, _⟩ | ⟨g, cap, e, hbg, hg, _, _, _, hcell, _⟩
        · refine ⟨none, 0, [], τ, by rw [e, h0], H0.out w1 hbel, fun W _ j x hx => ?_⟩
          have := (List.getElem?_eq_some_iff.1 hx).1
          omega
        · refine ⟨some ⟨g, 0, none⟩, cap, [(g, w1.heap[g])], _, e, H1.out w1 g w1.heap[g] hbel hbg (Array.getElem?_eq_getElem hg), fun W hW j x hx => ⟨g, rfl, ?_⟩⟩
          have hWg : W.heap[g]? = w1.heap[g]? := (hW (g, w1.heap[g]) (by simp)).trans (Array.getElem?_eq_getElem hg).symm
          obtain ⟨q1, q2⟩ := turnCells_at hx
          exact ⟨(World.cell?_of_block (w := w1) hWg).trans (hcell _ _ q1), (World.cell?_of_block (w := w1) hWg).trans (hcell _ _ q2)⟩
      obtain ⟨av, cv, X, τ1, rfl, hI0, hturn⟩ := hstart
      have HI0 := Lib.hid hI0
      have HTurn := Lib.hid hturn
      clear hown hbel hI0 hturn
      go_wp2_with fail
      go_loopw [44] (fun i wr => ∃ (j : Nat) (τr : Own) (σr : St), j ≤ T.length ∧ i = .int .i64 j ∧ Hid (Inv j X τr wr σr)) (fun i _ => T.length - (intOf i).toNat)
      case atStart => exact ⟨0, τ1, σ, Nat.zero_le _, rfl, HI0⟩
      case round =>
        obtain ⟨j, τr, σ', hj, rfl, HIn⟩ := hrel
        by_cases hlt2 : j < T.length
        · obtain ⟨x, hx⟩ : ∃ x, T[j]? = some x := ⟨_, List.getElem?_eq_getElem hlt2⟩
          obtain ⟨_, i, r, hxi, hr, hrp, hbs⟩ := turnsOf_at HS.out (by rw [HTe.out]; exact hx)
          obtain ⟨g, rfl, e0, e1⟩ := HTurn.out wr (HH.out.boxes _ _ _ _ _ HIn.out) j x hx
          obtain ⟨x1, x2⟩ := x
          simp only at hxi e0 e1
          subst hxi
          have hil := (List.getElem?_eq_some_iff.1 hr).1
          have HX := Lib.hid hx
          clear hx hr hrp hbs c1 c4 hrun
          obtain ⟨W, hW⟩ : ∃ W, W = wr.alloc (.cells #[.int .i64 (i : Int), .int .i64 x2] 108) := ⟨_, rfl⟩
          obtain ⟨b, hb⟩ : ∃ b, b = wr.heap.size := ⟨_, rfl⟩
          have hbel2 : Below wr.heap.size wr W := by rw [hW]; exact (Below.refl _ _).alloc (Nat.le_refl _) _
          have HIW := Lib.hid (HH.out.stay _ _ _ _ _ _ HIn.out hbel2)
          have q0 : W.cell? ⟨b, 0, none⟩ = some (.int .i64 (i : Int)) := by rw [hW, hb]; simp
          have q1 : W.cell? ⟨b, 1, none⟩ = some (.int .i64 x2) := by rw [hW, hb]; simp
          obtain ⟨h', hs', hlr⟩ := HH.out.store _ _ _ _ _ HIW.out
          obtain ⟨aR', cR', hvR', _⟩ := hs'.vR
          have c1' := hs'.head.cells.2.1
          rw [hvR'] at c1'
          have HS' := Lib.hid hs'
          have HVR' := Lib.hid hvR'
          have HW := Lib.hid hW
          have HB := Lib.hid hb
          clear hW hb hbel2 hs' hvR'
          go_upto_region 10 with fail
          rw [← HW.out, ← HB.out]
          by_cases hin : i < σ'.rows.length
          · obtain ⟨⟨p', xs⟩, hrow⟩ : ∃ r, σ'.rows[i]? = some r := ⟨_, List.getElem?_eq_getElem hin⟩
            obtain ⟨gR, cg, ar, ca, bt, hv, hbt, d0, d1, d2, hI⟩ := RowsPart.at3 HS'.out hrow
            rw [HVR'.out] at hv
            simp only [Value.slice.injEq] at hv
            obtain ⟨rfl, _, rfl⟩ := hv
            have hx8 : xs.length ≤ 8 := (HS'.out.sound.fits _ (List.mem_of_getElem? hrow)).2.2.2.1
            have HRow := Lib.hid hrow
            have HBt := Lib.hid hbt
            have HI2 := Lib.hid hI
            simp only at d0 d1
            have hd2 : decide ((σ'.rows.length : Int) ≤ (i : Int)) = false := by simp; omega
            have hd3 : (i : Int) < (σ'.rows.length : Int) := by omega
            have hd4 : (0 : Int) ≤ (i : Int) := by omega
            clear hrow hbt hI
            by_cases hbirth : bt = x2
            · subst hbirth
              go_quiet (fail)
              obtain ⟨W3, hW3⟩ : ∃ V, V = W.drewN nq := ⟨_, rfl⟩
              have hb3 : Below W.heap.size W W3 := by rw [hW3]; exact below_drewN (Below.refl _ _) nq
              have q0 := on_cell hb3 q0
              have c1' := on_cell hb3 c1'
              have d0 := on_cell hb3 d0
              have d1 := on_cell hb3 d1
              have HI3 := Lib.hid (HI2.out.below hb3 (Nat.le_refl _))
              have HS3 := Lib.hid (HS'.out.below hb3)
              have HIW3 := Lib.hid (HH.out.stay _ _ _ _ _ _ HIW.out hb3)
              have henter := HH.out.enters
              rw [← hW3]
              clear hW3 hb3 d2 q1
              go_upto_region 11 with fail
              refine wp_region_noPanic ?_
              refine wp_region_held_drew (S := (fun _ => True)) (by kernel_rfl) ?_ (fun hHeld => ?_)
              · exact trivial
              refine wpAnyH_take (i := 0) (oi := _) (v := ?_) rfl (by kernel_rfl) (by kernel_rfl) (by kernel_rfl) (fun _ _ _ h => h) (Or.inl ⟨by rfl, ?_⟩) (by assumption) ?_
              rotate_left 1
              · intro w hSw
                (try dsimp only at hSw)
                go_simp
                all_goals with_reducible rfl
              (try simp only [Act.put, List.setIfInBounds_toArray, List.set_cons_zero, List.set_cons_succ])
              refine wpAnyH_take (i := 1) (oi := _) (v := ?_) rfl (by kernel_rfl) (by kernel_rfl) (by kernel_rfl) (fun _ _ _ h => h) (Or.inl ⟨by rfl, ?_⟩) (by assumption) ?_
              rotate_left 1
              · intro w hSw
                (try dsimp only at hSw)
                go_simp
                all_goals with_reducible rfl
              (try simp only [Act.put, List.setIfInBounds_toArray, List.set_cons_zero, List.set_cons_succ])
              refine wpAnyH_take (i := 3) (oi := _) (v := ?_) rfl (by kernel_rfl) (by kernel_rfl) (by kernel_rfl) (fun _ _ _ h => h) (Or.inl ⟨by rfl, ?_⟩) (by assumption) ?_
              rotate_left 1
              · intro w hSw
                (try dsimp only at hSw)
                go_simp
                all_goals with_reducible rfl
              (try simp only [Act.put, List.setIfInBounds_toArray, List.set_cons_zero, List.set_cons_succ])
              refine wpAnyH_take (i := 4) (oi := _) (v := ?_) rfl (by kernel_rfl) (by kernel_rfl) (by kernel_rfl) (fun _ _ _ h => h) (Or.inl ⟨by rfl, ?_⟩) (by assumption) ?_
              rotate_left 1
              · intro w hSw
                (try dsimp only at hSw)
                go_simp
                all_goals with_reducible rfl
              (try simp only [Act.put, List.setIfInBounds_toArray, List.set_cons_zero, List.set_cons_succ])
              refine wpAnyH_take (i := 5) (oi := _) (v := ?_) rfl (by kernel_rfl) (by kernel_rfl) (by kernel_rfl) (fun _ _ _ h => h) (Or.inl ⟨by rfl, ?_⟩) (by assumption) ?_
              rotate_left 1
              · intro w hSw
                (try dsimp only at hSw)
                go_simp
                all_goals with_reducible rfl
              (try simp only [Act.put, List.setIfInBounds_toArray, List.set_cons_zero, List.set_cons_succ])
              refine wpAnyH_take (i := 7) (oi := _) (v := ?_) rfl (by kernel_rfl) (by kernel_rfl) (by kernel_rfl) (fun _ _ _ h => h) (Or.inl ⟨by rfl, ?_⟩) (by assumption) ?_
              rotate_left 1
              · intro w hSw
                (try dsimp only at hSw)
                go_simp
                all_goals with_reducible rfl
              (try simp only [Act.put, List.setIfInBounds_toArray, List.set_cons_zero, List.set_cons_succ])
              refine wpAnyH_ready (rs := [2, 6, 8]) (by kernel_rfl) (by simp) ?_
              refine AllReadyH.cons (o := _) rfl (fun K hK => ?_) ?_
              · go_simp
                refine hK.out _ _ ?_ (fun hHeld => ?_)
                · exact trivial
                clear hK K
                (try simp only [Act.put, List.setIfInBounds_toArray, List.set_cons_zero, List.set_cons_succ])
                refine wpAnyH_ready (rs := [6, 8]) (by kernel_rfl) (by simp) ?_
                refine AllReadyH.cons (o := _) rfl (fun K hK => ?_) ?_
                · go_simp
                  refine hK.out _ _ ?_ (fun hHeld => ?_)
                  · exact trivial
                  clear hK K
                  (try simp only [Act.put, List.setIfInBounds_toArray, List.set_cons_zero, List.set_cons_succ])
                  refine wpAnyH_ready (rs := [8]) (by kernel_rfl) (by simp) ?_
                  refine AllReadyH.cons (o := _) rfl (fun K hK => ?_) ?_
                  · go_simp
                    refine hK.out _ _ ?_ (fun hHeld => ?_)
                    · exact trivial
                    clear hK K
                    (try simp only [Act.put, List.setIfInBounds_toArray, List.set_cons_zero, List.set_cons_succ])
                    refine wpAnyH_take (i := 9) (oi := _) (v := ?_) rfl (by kernel_rfl) (by kernel_rfl) (by kernel_rfl) (fun _ _ _ h => h) (Or.inl ⟨by rfl, ?_⟩) (by assumption) ?_
                    rotate_left 1
                    · intro w hSw
                      (try dsimp only at hSw)
                      go_simp
                      all_goals with_reducible rfl
                    (try simp only [Act.put, List.setIfInBounds_toArray, List.set_cons_zero, List.set_cons_succ])
                    refine wpAnyH_take (i := 10) (oi := _) (v := ?_) rfl (by kernel_rfl) (by kernel_rfl) (by kernel_rfl) (fun _ _ _ h => h) (Or.inl ⟨by rfl, ?_⟩) (by assumption) ?_
                    rotate_left 1
                    · intro w hSw
                      (try dsimp only at hSw)
                      go_simp
                      all_goals with_reducible rfl
                    (try simp only [Act.put, List.setIfInBounds_toArray, List.set_cons_zero, List.set_cons_succ])
                    refine wpAnyH_ready (rs := [11]) (by kernel_rfl) (by simp) ?_
                    refine AllReadyH.cons (o := _) rfl (fun K hK => ?_) ?_
                    · go_simp
                      refine hK.out _ _ ?_ (fun hHeld => ?_)
                      · exact trivial
                      clear hK K
                      (try simp only [Act.put, List.setIfInBounds_toArray, List.set_cons_zero, List.set_cons_succ])
                      refine wpAnyH_ready (rs := [12]) (by kernel_rfl) (by simp) ?_
                      refine AllReadyH.cons (o := _) rfl (fun K hK => ?_) ?_
                      · have cK := Lib.hid (copied_any p' ar ca xs W3.drew (HI3.out.below (Below.refl _ _).drew (Nat.le_refl _)) (by omega))
                        go_simp
                        with_reducible refine cK.out.mono ?_
                        rintro e w5 ⟨a5, c5, rfl, hI5, hb5⟩
                        have hb35 : Below W3.heap.size W3 w5 := (Below.refl _ _).drew.trans hb5
                        have q0 := on_cell hb35 q0
                        have cY := Lib.hid (HH.out.call j X τr w5 _ ((i : Int), bt) (p', xs) a5 c5 (HH.out.stay _ _ _ _ _ _ HIW3.out hb35) HX.out (by simp only [Int.toNat_natCast]; exact HBt.out) (by simp only [Int.toNat_natCast]; exact HRow.out) (hI5.zone (fun g hg => HS3.out.fresh g hg)))
                        clear cK hI5 hb5 hb35
                        refine hK.out _ _ ?_ (fun hHeld => ?_)
                        · exact trivial
                        clear hK K
                        (try simp only [Act.put, List.setIfInBounds_toArray, List.set_cons_zero, List.set_cons_succ])
                        refine wpAnyH_ready (rs := [13]) (by kernel_rfl) (by simp) ?_
                        refine AllReadyH.cons (o := _) rfl (fun K hK => ?_) ?_
                        · go_simp
                          with_reducible refine cY.out.mono ?_
                          rintro e w6 ⟨more, τ6, σ6, rfl, hmore⟩
                          have HM := Lib.hid hmore
                          clear hmore cY
                          refine hK.out _ _ ?_ (fun hHeld => ?_)
                          · exact trivial
                          clear hK K
                          (try simp only [Act.put, List.setIfInBounds_toArray, List.set_cons_zero, List.set_cons_succ])
                          refine wpAnyH_take (i := 14) (oi := _) (v := ?_) rfl (by kernel_rfl) (by kernel_rfl) (by kernel_rfl) (fun _ _ _ h => h) (Or.inl ⟨by rfl, ?_⟩) (by assumption) ?_
                          rotate_left 1
                          · intro w hSw
                            (try dsimp only at hSw)
                            go_simp
                            all_goals with_reducible rfl
                          (try simp only [Act.put, List.setIfInBounds_toArray, List.set_cons_zero, List.set_cons_succ])
                          refine wpAnyH_done (by kernel_rfl) ?_ _
                          refine NoPanic.normal ?_
                          have hM := HM.out
                          rcases hM with ⟨rfl, hM⟩ | ⟨rfl, hM⟩
                          · have HM2 := Lib.hid hM
                            clear hM HM
                            go_wp2_with fail
                            go_roundw
                            case rel => exact ⟨j + 1, τ6, σ6, by omega, by go_num, HM2⟩
                            case measure => simp [intOf]; omega
                          · have HM2 := Lib.hid hM
                            clear hM HM
                            go_wp2_with fail
                            first
                              | refine bodyPost_end (v := .tuple #[]) (results_none Try.results32 _ _ _) rfl ?_
                              | refine bodyPost_ret (v := .tuple #[]) (results_none Try.results32 _ _ _) rfl ?_
                            exact ⟨rfl, τ6, HM2.out⟩
                        exact AllReadyH.nil
                      exact AllReadyH.nil
                    exact AllReadyH.nil
                  exact AllReadyH.nil
                refine AllReadyH.cons (o := _) rfl (fun K hK => ?_) ?_
                · go_simp
                  refine hK.out _ _ ?_ (fun hHeld => ?_)
                  · exact trivial
                  clear hK K
                  (try simp only [Act.put, List.setIfInBounds_toArray, List.set_cons_zero, List.set_cons_succ])
                  refine wpAnyH_ready (rs := [6]) (by kernel_rfl) (by simp) ?_
                  refine AllReadyH.cons (o := _) rfl (fun K hK => ?_) ?_
                  · go_simp
                    refine hK.out _ _ ?_ (fun hHeld => ?_)
                    · exact trivial
                    clear hK K
                    (try simp only [Act.put, List.setIfInBounds_toArray, List.set_cons_zero, List.set_cons_succ])
                    refine wpAnyH_take (i := 9) (oi := _) (v := ?_) rfl (by kernel_rfl) (by kernel_rfl) (by kernel_rfl) (fun _ _ _ h => h) (Or.inl ⟨by rfl, ?_⟩) (by assumption) ?_
                    rotate_left 1
                    · intro w hSw
                      (try dsimp only at hSw)
                      go_simp
                      all_goals with_reducible rfl
                    (try simp only [Act.put, List.setIfInBounds_toArray, List.set_cons_zero, List.set_cons_succ])
                    refine wpAnyH_take (i := 10) (oi := _) (v := ?_) rfl (by kernel_rfl) (by kernel_rfl) (by kernel_rfl) (fun _ _ _ h => h) (Or.inl ⟨by rfl, ?_⟩) (by assumption) ?_
                    rotate_left 1
                    · intro w hSw
                      (try dsimp only at hSw)
                      go_simp
                      all_goals with_reducible rfl
                    (try simp only [Act.put, List.setIfInBounds_toArray, List.set_cons_zero, List.set_cons_succ])
                    refine wpAnyH_ready (rs := [11]) (by kernel_rfl) (by simp) ?_
                    refine AllReadyH.cons (o := _) rfl (fun K hK => ?_) ?_
                    · go_simp
                      refine hK.out _ _ ?_ (fun hHeld => ?_)
                      · exact trivial
                      clear hK K
                      (try simp only [Act.put, List.setIfInBounds_toArray, List.set_cons_zero, List.set_cons_succ])
                      refine wpAnyH_ready (rs := [12]) (by kernel_rfl) (by simp) ?_
                      refine AllReadyH.cons (o := _) rfl (fun K hK => ?_) ?_
                      · have cK := Lib.hid (copied_any p' ar ca xs W3.drew (HI3.out.below (Below.refl _ _).drew (Nat.le_refl _)) (by omega))
                        go_simp
                        with_reducible refine cK.out.mono ?_
                        rintro e w5 ⟨a5, c5, rfl, hI5, hb5⟩
                        have hb35 : Below W3.heap.size W3 w5 := (Below.refl _ _).drew.trans hb5
                        have q0 := on_cell hb35 q0
                        have cY := Lib.hid (HH.out.call j X τr w5 _ ((i : Int), bt) (p', xs) a5 c5 (HH.out.stay _ _ _ _ _ _ HIW3.out hb35) HX.out (by simp only [Int.toNat_natCast]; exact HBt.out) (by simp only [Int.toNat_natCast]; exact HRow.out) (hI5.zone (fun g hg => HS3.out.fresh g hg)))
                        clear cK hI5 hb5 hb35
                        refine hK.out _ _ ?_ (fun hHeld => ?_)
                        · exact trivial
                        clear hK K
                        (try simp only [Act.put, List.setIfInBounds_toArray, List.set_cons_zero, List.set_cons_succ])
                        refine wpAnyH_ready (rs := [13]) (by kernel_rfl) (by simp) ?_
                        refine AllReadyH.cons (o := _) rfl (fun K hK => ?_) ?_
                        · go_simp
                          with_reducible refine cY.out.mono ?_
                          rintro e w6 ⟨more, τ6, σ6, rfl, hmore⟩
                          have HM := Lib.hid hmore
                          clear hmore cY
                          refine hK.out _ _ ?_ (fun hHeld => ?_)
                          · exact trivial
                          clear hK K
                          (try simp only [Act.put, List.setIfInBounds_toArray, List.set_cons_zero, List.set_cons_succ])
                          refine wpAnyH_take (i := 14) (oi := _) (v := ?_) rfl (by kernel_rfl) (by kernel_rfl) (by kernel_rfl) (fun _ _ _ h => h) (Or.inl ⟨by rfl, ?_⟩) (by assumption) ?_
                          rotate_left 1
                          · intro w hSw
                            (try dsimp only at hSw)
                            go_simp
                            all_goals with_reducible rfl
                          (try simp only [Act.put, List.setIfInBounds_toArray, List.set_cons_zero, List.set_cons_succ])
                          refine wpAnyH_done (by kernel_rfl) ?_ _
                          refine NoPanic.normal ?_
                          have hM := HM.out
                          rcases hM with ⟨rfl, hM⟩ | ⟨rfl, hM⟩
                          · have HM2 := Lib.hid hM
                            clear hM HM
                            go_wp2_with fail
                            go_roundw
                            case rel => exact ⟨j + 1, τ6, σ6, by omega, by go_num, HM2⟩
                            case measure => simp [intOf]; omega
                          · have HM2 := Lib.hid hM
                            clear hM HM
                            go_wp2_with fail
                            first
                              | refine bodyPost_end (v := .tuple #[]) (results_none Try.results32 _ _ _) rfl ?_
                              | refine bodyPost_ret (v := .tuple #[]) (results_none Try.results32 _ _ _) rfl ?_
                            exact ⟨rfl, τ6, HM2.out⟩
                        exact AllReadyH.nil
                      exact AllReadyH.nil
                    exact AllReadyH.nil
                  exact AllReadyH.nil
                exact AllReadyH.nil
              refine AllReadyH.cons (o := _) rfl (fun K hK => ?_) ?_
              · go_simp
                refine hK.out _ _ ?_ (fun hHeld => ?_)
                · exact trivial
                clear hK K
                (try simp only [Act.put, List.setIfInBounds_toArray, List.set_cons_zero, List.set_cons_succ])
                refine wpAnyH_ready (rs := [2, 8]) (by kernel_rfl) (by simp) ?_
                refine AllReadyH.cons (o := _) rfl (fun K hK => ?_) ?_
                · go_simp
                  refine hK.out _ _ ?_ (fun hHeld => ?_)
                  · exact trivial
                  clear hK K
                  (try simp only [Act.put, List.setIfInBounds_toArray, List.set_cons_zero, List.set_cons_succ])
                  refine wpAnyH_ready (rs := [8]) (by kernel_rfl) (by simp) ?_
                  refine AllReadyH.cons (o := _) rfl (fun K hK => ?_) ?_
                  · go_simp
                    refine hK.out _ _ ?_ (fun hHeld => ?_)
                    · exact trivial
                    clear hK K
                    (try simp only [Act.put, List.setIfInBounds_toArray, List.set_cons_zero, List.set_cons_succ])
                    refine wpAnyH_take (i := 9) (oi := _) (v := ?_) rfl (by kernel_rfl) (by kernel_rfl) (by kernel_rfl) (fun _ _ _ h => h) (Or.inl ⟨by rfl, ?_⟩) (by assumption) ?_
                    rotate_left 1
                    · intro w hSw
                      (try dsimp only at hSw)
                      go_simp
                      all_goals with_reducible rfl
                    (try simp only [Act.put, List.setIfInBounds_toArray, List.set_cons_zero, List.set_cons_succ])
                    refine wpAnyH_take (i := 10) (oi := _) (v := ?_) rfl (by kernel_rfl) (by kernel_rfl) (by kernel_rfl) (fun _ _ _ h => h) (Or.inl ⟨by rfl, ?_⟩) (by assumption) ?_
                    rotate_left 1
                    · intro w hSw
                      (try dsimp only at hSw)
                      go_simp
                      all_goals with_reducible rfl
                    (try simp only [Act.put, List.setIfInBounds_toArray, List.set_cons_zero, List.set_cons_succ])
                    refine wpAnyH_ready (rs := [11]) (by kernel_rfl) (by simp) ?_
                    refine AllReadyH.cons (o := _) rfl (fun K hK => ?_) ?_
                    · go_simp
                      refine hK.out _ _ ?_ (fun hHeld => ?_)
                      · exact trivial
                      clear hK K
                      (try simp only [Act.put, List.setIfInBounds_toArray, List.set_cons_zero, List.set_cons_succ])
                      refine wpAnyH_ready (rs := [12]) (by kernel_rfl) (by simp) ?_
                      refine AllReadyH.cons (o := _) rfl (fun K hK => ?_) ?_
                      · have cK := Lib.hid (copied_any p' ar ca xs W3.drew (HI3.out.below (Below.refl _ _).drew (Nat.le_refl _)) (by omega))
                        go_simp
                        with_reducible refine cK.out.mono ?_
                        rintro e w5 ⟨a5, c5, rfl, hI5, hb5⟩
                        have hb35 : Below W3.heap.size W3 w5 := (Below.refl _ _).drew.trans hb5
                        have q0 := on_cell hb35 q0
                        have cY := Lib.hid (HH.out.call j X τr w5 _ ((i : Int), bt) (p', xs) a5 c5 (HH.out.stay _ _ _ _ _ _ HIW3.out hb35) HX.out (by simp only [Int.toNat_natCast]; exact HBt.out) (by simp only [Int.toNat_natCast]; exact HRow.out) (hI5.zone (fun g hg => HS3.out.fresh g hg)))
                        clear cK hI5 hb5 hb35
                        refine hK.out _ _ ?_ (fun hHeld => ?_)
                        · exact trivial
                        clear hK K
                        (try simp only [Act.put, List.setIfInBounds_toArray, List.set_cons_zero, List.set_cons_succ])
                        refine wpAnyH_ready (rs := [13]) (by kernel_rfl) (by simp) ?_
                        refine AllReadyH.cons (o := _) rfl (fun K hK => ?_) ?_
                        · go_simp
                          with_reducible refine cY.out.mono ?_
                          rintro e w6 ⟨more, τ6, σ6, rfl, hmore⟩
                          have HM := Lib.hid hmore
                          clear hmore cY
                          refine hK.out _ _ ?_ (fun hHeld => ?_)
                          · exact trivial
                          clear hK K
                          (try simp only [Act.put, List.setIfInBounds_toArray, List.set_cons_zero, List.set_cons_succ])
                          refine wpAnyH_take (i := 14) (oi := _) (v := ?_) rfl (by kernel_rfl) (by kernel_rfl) (by kernel_rfl) (fun _ _ _ h => h) (Or.inl ⟨by rfl, ?_⟩) (by assumption) ?_
                          rotate_left 1
                          · intro w hSw
                            (try dsimp only at hSw)
                            go_simp
                            all_goals with_reducible rfl
                          (try simp only [Act.put, List.setIfInBounds_toArray, List.set_cons_zero, List.set_cons_succ])
                          refine wpAnyH_done (by kernel_rfl) ?_ _
                          refine NoPanic.normal ?_
                          have hM := HM.out
                          rcases hM with ⟨rfl, hM⟩ | ⟨rfl, hM⟩
                          · have HM2 := Lib.hid hM
                            clear hM HM
                            go_wp2_with fail
                            go_roundw
                            case rel => exact ⟨j + 1, τ6, σ6, by omega, by go_num, HM2⟩
                            case measure => simp [intOf]; omega
                          · have HM2 := Lib.hid hM
                            clear hM HM
                            go_wp2_with fail
                            first
                              | refine bodyPost_end (v := .tuple #[]) (results_none Try.results32 _ _ _) rfl ?_
                              | refine bodyPost_ret (v := .tuple #[]) (results_none Try.results32 _ _ _) rfl ?_
                            exact ⟨rfl, τ6, HM2.out⟩
                        exact AllReadyH.nil
                      exact AllReadyH.nil
                    exact AllReadyH.nil
                  exact AllReadyH.nil
                refine AllReadyH.cons (o := _) rfl (fun K hK => ?_) ?_
                · go_simp
                  refine hK.out _ _ ?_ (fun hHeld => ?_)
                  · exact trivial
                  clear hK K
                  (try simp only [Act.put, List.setIfInBounds_toArray, List.set_cons_zero, List.set_cons_succ])
                  refine wpAnyH_take (i := 9) (oi := _) (v := ?_) rfl (by kernel_rfl) (by kernel_rfl) (by kernel_rfl) (fun _ _ _ h => h) (Or.inl ⟨by rfl, ?_⟩) (by assumption) ?_
                  rotate_left 1
                  · intro w hSw
                    (try dsimp only at hSw)
                    go_simp
                    all_goals with_reducible rfl
                  (try simp only [Act.put, List.setIfInBounds_toArray, List.set_cons_zero, List.set_cons_succ])
                  refine wpAnyH_take (i := 10) (oi := _) (v := ?_) rfl (by kernel_rfl) (by kernel_rfl) (by kernel_rfl) (fun _ _ _ h => h) (Or.inl ⟨by rfl, ?_⟩) (by assumption) ?_
                  rotate_left 1
                  · intro w hSw
                    (try dsimp only at hSw)
                    go_simp
                    all_goals with_reducible rfl
                  (try simp only [Act.put, List.setIfInBounds_toArray, List.set_cons_zero, List.set_cons_succ])
                  refine wpAnyH_ready (rs := [2, 11]) (by kernel_rfl) (by simp) ?_
                  refine AllReadyH.cons (o := _) rfl (fun K hK => ?_) ?_
                  · go_simp
                    refine hK.out _ _ ?_ (fun hHeld => ?_)
                    · exact trivial
                    clear hK K
                    (try simp only [Act.put, List.setIfInBounds_toArray, List.set_cons_zero, List.set_cons_succ])
                    refine wpAnyH_ready (rs := [11]) (by kernel_rfl) (by simp) ?_
                    refine AllReadyH.cons (o := _) rfl (fun K hK => ?_) ?_
                    · go_simp
                      refine hK.out _ _ ?_ (fun hHeld => ?_)
                      · exact trivial
                      clear hK K
                      (try simp only [Act.put, List.setIfInBounds_toArray, List.set_cons_zero, List.set_cons_succ])
                      refine wpAnyH_ready (rs := [12]) (by kernel_rfl) (by simp) ?_
                      refine AllReadyH.cons (o := _) rfl (fun K hK => ?_) ?_
                      · have cK := Lib.hid (copied_any p' ar ca xs W3.drew (HI3.out.below (Below.refl _ _).drew (Nat.le_refl _)) (by omega))
                        go_simp
                        with_reducible refine cK.out.mono ?_
                        rintro e w5 ⟨a5, c5, rfl, hI5, hb5⟩
                        have hb35 : Below W3.heap.size W3 w5 := (Below.refl _ _).drew.trans hb5
                        have q0 := on_cell hb35 q0
                        have cY := Lib.hid (HH.out.call j X τr w5 _ ((i : Int), bt) (p', xs) a5 c5 (HH.out.stay _ _ _ _ _ _ HIW3.out hb35) HX.out (by simp only [Int.toNat_natCast]; exact HBt.out) (by simp only [Int.toNat_natCast]; exact HRow.out) (hI5.zone (fun g hg => HS3.out.fresh g hg)))
                        clear cK hI5 hb5 hb35
                        refine hK.out _ _ ?_ (fun hHeld => ?_)
                        · exact trivial
                        clear hK K
                        (try simp only [Act.put, List.setIfInBounds_toArray, List.set_cons_zero, List.set_cons_succ])
                        refine wpAnyH_ready (rs := [13]) (by kernel_rfl) (by simp) ?_
                        refine AllReadyH.cons (o := _) rfl (fun K hK => ?_) ?_
                        · go_simp
                          with_reducible refine cY.out.mono ?_
                          rintro e w6 ⟨more, τ6, σ6, rfl, hmore⟩
                          have HM := Lib.hid hmore
                          clear hmore cY
                          refine hK.out _ _ ?_ (fun hHeld => ?_)
                          · exact trivial
                          clear hK K
                          (try simp only [Act.put, List.setIfInBounds_toArray, List.set_cons_zero, List.set_cons_succ])
                          refine wpAnyH_take (i := 14) (oi := _) (v := ?_) rfl (by kernel_rfl) (by kernel_rfl) (by kernel_rfl) (fun _ _ _ h => h) (Or.inl ⟨by rfl, ?_⟩) (by assumption) ?_
                          rotate_left 1
                          · intro w hSw
                            (try dsimp only at hSw)
                            go_simp
                            all_goals with_reducible rfl
                          (try simp only [Act.put, List.setIfInBounds_toArray, List.set_cons_zero, List.set_cons_succ])
                          refine wpAnyH_done (by kernel_rfl) ?_ _
                          refine NoPanic.normal ?_
                          have hM := HM.out
                          rcases hM with ⟨rfl, hM⟩ | ⟨rfl, hM⟩
                          · have HM2 := Lib.hid hM
                            clear hM HM
                            go_wp2_with fail
                            go_roundw
                            case rel => exact ⟨j + 1, τ6, σ6, by omega, by go_num, HM2⟩
                            case measure => simp [intOf]; omega
                          · have HM2 := Lib.hid hM
                            clear hM HM
                            go_wp2_with fail
                            first
                              | refine bodyPost_end (v := .tuple #[]) (results_none Try.results32 _ _ _) rfl ?_
                              | refine bodyPost_ret (v := .tuple #[]) (results_none Try.results32 _ _ _) rfl ?_
                            exact ⟨rfl, τ6, HM2.out⟩
                        exact AllReadyH.nil
                      exact AllReadyH.nil
                    exact AllReadyH.nil
                  refine AllReadyH.cons (o := _) rfl (fun K hK => ?_) ?_
                  · go_simp
                    refine hK.out _ _ ?_ (fun hHeld => ?_)
                    · exact trivial
                    clear hK K
                    (try simp only [Act.put, List.setIfInBounds_toArray, List.set_cons_zero, List.set_cons_succ])
                    refine wpAnyH_ready (rs := [2, 12]) (by kernel_rfl) (by simp) ?_
                    refine AllReadyH.cons (o := _) rfl (fun K hK => ?_) ?_
                    · go_simp
                      refine hK.out _ _ ?_ (fun hHeld => ?_)
                      · exact trivial
                      clear hK K
                      (try simp only [Act.put, List.setIfInBounds_toArray, List.set_cons_zero, List.set_cons_succ])
                      refine wpAnyH_ready (rs := [12]) (by kernel_rfl) (by simp) ?_
                      refine AllReadyH.cons (o := _) rfl (fun K hK => ?_) ?_
                      · have cK := Lib.hid (copied_any p' ar ca xs W3.drew (HI3.out.below (Below.refl _ _).drew (Nat.le_refl _)) (by omega))
                        go_simp
                        with_reducible refine cK.out.mono ?_
                        rintro e w5 ⟨a5, c5, rfl, hI5, hb5⟩
                        have hb35 : Below W3.heap.size W3 w5 := (Below.refl _ _).drew.trans hb5
                        have q0 := on_cell hb35 q0
                        have cY := Lib.hid (HH.out.call j X τr w5 _ ((i : Int), bt) (p', xs) a5 c5 (HH.out.stay _ _ _ _ _ _ HIW3.out hb35) HX.out (by simp only [Int.toNat_natCast]; exact HBt.out) (by simp only [Int.toNat_natCast]; exact HRow.out) (hI5.zone (fun g hg => HS3.out.fresh g hg)))
                        clear cK hI5 hb5 hb35
                        refine hK.out _ _ ?_ (fun hHeld => ?_)
                        · exact trivial
                        clear hK K
                        (try simp only [Act.put, List.setIfInBounds_toArray, List.set_cons_zero, List.set_cons_succ])
                        refine wpAnyH_ready (rs := [13]) (by kernel_rfl) (by simp) ?_
                        refine AllReadyH.cons (o := _) rfl (fun K hK => ?_) ?_
                        · go_simp
                          with_reducible refine cY.out.mono ?_
                          rintro e w6 ⟨more, τ6, σ6, rfl, hmore⟩
                          have HM := Lib.hid hmore
                          clear hmore cY
                          refine hK.out _ _ ?_ (fun hHeld => ?_)
                          · exact trivial
                          clear hK K
                          (try simp only [Act.put, List.setIfInBounds_toArray, List.set_cons_zero, List.set_cons_succ])
                          refine wpAnyH_take (i := 14) (oi := _) (v := ?_) rfl (by kernel_rfl) (by kernel_rfl) (by kernel_rfl) (fun _ _ _ h => h) (Or.inl ⟨by rfl, ?_⟩) (by assumption) ?_
                          rotate_left 1
                          · intro w hSw
                            (try dsimp only at hSw)
                            go_simp
                            all_goals with_reducible rfl
                          (try simp only [Act.put, List.setIfInBounds_toArray, List.set_cons_zero, List.set_cons_succ])
                          refine wpAnyH_done (by kernel_rfl) ?_ _
                          refine NoPanic.normal ?_
                          have hM := HM.out
                          rcases hM with ⟨rfl, hM⟩ | ⟨rfl, hM⟩
                          · have HM2 := Lib.hid hM
                            clear hM HM
                            go_wp2_with fail
                            go_roundw
                            case rel => exact ⟨j + 1, τ6, σ6, by omega, by go_num, HM2⟩
                            case measure => simp [intOf]; omega
                          · have HM2 := Lib.hid hM
                            clear hM HM
                            go_wp2_with fail
                            first
                              | refine bodyPost_end (v := .tuple #[]) (results_none Try.results32 _ _ _) rfl ?_
                              | refine bodyPost_ret (v := .tuple #[]) (results_none Try.results32 _ _ _) rfl ?_
                            exact ⟨rfl, τ6, HM2.out⟩
                        exact AllReadyH.nil
                      exact AllReadyH.nil
                    refine AllReadyH.cons (o := _) rfl (fun K hK => ?_) ?_
                    · have cK := Lib.hid (copied_any p' ar ca xs W3.drew (HI3.out.below (Below.refl _ _).drew (Nat.le_refl _)) (by omega))
                      go_simp
                      with_reducible refine cK.out.mono ?_
                      rintro e w5 ⟨a5, c5, rfl, hI5, hb5⟩
                      have hb35 : Below W3.heap.size W3 w5 := (Below.refl _ _).drew.trans hb5
                      have q0 := on_cell hb35 q0
                      have cY := Lib.hid (HH.out.call j X τr w5 _ ((i : Int), bt) (p', xs) a5 c5 (HH.out.stay _ _ _ _ _ _ HIW3.out hb35) HX.out (by simp only [Int.toNat_natCast]; exact HBt.out) (by simp only [Int.toNat_natCast]; exact HRow.out) (hI5.zone (fun g hg => HS3.out.fresh g hg)))
                      clear cK hI5 hb5 hb35
                      refine hK.out _ _ ?_ (fun hHeld => ?_)
                      · exact trivial
                      clear hK K
                      (try simp only [Act.put, List.setIfInBounds_toArray, List.set_cons_zero, List.set_cons_succ])
                      refine wpAnyH_ready (rs := [2]) (by kernel_rfl) (by simp) ?_
                      refine AllReadyH.cons (o := _) rfl (fun K hK => ?_) ?_
                      · go_simp
                        refine hK.out _ _ ?_ (fun hHeld => ?_)
                        · exact trivial
                        clear hK K
                        (try simp only [Act.put, List.setIfInBounds_toArray, List.set_cons_zero, List.set_cons_succ])
                        refine wpAnyH_ready (rs := [13]) (by kernel_rfl) (by simp) ?_
                        refine AllReadyH.cons (o := _) rfl (fun K hK => ?_) ?_
                        · go_simp
                          with_reducible refine cY.out.mono ?_
                          rintro e w6 ⟨more, τ6, σ6, rfl, hmore⟩
                          have HM := Lib.hid hmore
                          clear hmore cY
                          refine hK.out _ _ ?_ (fun hHeld => ?_)
                          · exact trivial
                          clear hK K
                          (try simp only [Act.put, List.setIfInBounds_toArray, List.set_cons_zero, List.set_cons_succ])
                          refine wpAnyH_take (i := 14) (oi := _) (v := ?_) rfl (by kernel_rfl) (by kernel_rfl) (by kernel_rfl) (fun _ _ _ h => h) (Or.inl ⟨by rfl, ?_⟩) (by assumption) ?_
                          rotate_left 1
                          · intro w hSw
                            (try dsimp only at hSw)
                            go_simp
                            all_goals with_reducible rfl
                          (try simp only [Act.put, List.setIfInBounds_toArray, List.set_cons_zero, List.set_cons_succ])
                          refine wpAnyH_done (by kernel_rfl) ?_ _
                          refine NoPanic.normal ?_
                          have hM := HM.out
                          rcases hM with ⟨rfl, hM⟩ | ⟨rfl, hM⟩
                          · have HM2 := Lib.hid hM
                            clear hM HM
                            go_wp2_with fail
                            go_roundw
                            case rel => exact ⟨j + 1, τ6, σ6, by omega, by go_num, HM2⟩
                            case measure => simp [intOf]; omega
                          · have HM2 := Lib.hid hM
                            clear hM HM
                            go_wp2_with fail
                            first
                              | refine bodyPost_end (v := .tuple #[]) (results_none Try.results32 _ _ _) rfl ?_
                              | refine bodyPost_ret (v := .tuple #[]) (results_none Try.results32 _ _ _) rfl ?_
                            exact ⟨rfl, τ6, HM2.out⟩
                        exact AllReadyH.nil
                      exact AllReadyH.nil
                    exact AllReadyH.nil
                  exact AllReadyH.nil
                exact AllReadyH.nil
              refine AllReadyH.cons (o := _) rfl (fun K hK => ?_) ?_
              · go_simp
                refine hK.out _ _ ?_ (fun hHeld => ?_)
                · exact trivial
                clear hK K
                (try simp only [Act.put, List.setIfInBounds_toArray, List.set_cons_zero, List.set_cons_succ])
                refine wpAnyH_ready (rs := [2, 6]) (by kernel_rfl) (by simp) ?_
                refine AllReadyH.cons (o := _) rfl (fun K hK => ?_) ?_
                · go_simp
                  refine hK.out _ _ ?_ (fun hHeld => ?_)
                  · exact trivial
                  clear hK K
                  (try simp only [Act.put, List.setIfInBounds_toArray, List.set_cons_zero, List.set_cons_succ])
                  refine wpAnyH_ready (rs := [6]) (by kernel_rfl) (by simp) ?_
                  refine AllReadyH.cons (o := _) rfl (fun K hK => ?_) ?_
                  · go_simp
                    refine hK.out _ _ ?_ (fun hHeld => ?_)
                    · exact trivial
                    clear hK K
                    (try simp only [Act.put, List.setIfInBounds_toArray, List.set_cons_zero, List.set_cons_succ])
                    refine wpAnyH_take (i := 9) (oi := _) (v := ?_) rfl (by kernel_rfl) (by kernel_rfl) (by kernel_rfl) (fun _ _ _ h => h) (Or.inl ⟨by rfl, ?_⟩) (by assumption) ?_
                    rotate_left 1
                    · intro w hSw
                      (try dsimp only at hSw)
                      go_simp
                      all_goals with_reducible rfl
                    (try simp only [Act.put, List.setIfInBounds_toArray, List.set_cons_zero, List.set_cons_succ])
                    refine wpAnyH_take (i := 10) (oi := _) (v := ?_) rfl (by kernel_rfl) (by kernel_rfl) (by kernel_rfl) (fun _ _ _ h => h) (Or.inl ⟨by rfl, ?_⟩) (by assumption) ?_
                    rotate_left 1
                    · intro w hSw
                      (try dsimp only at hSw)
                      go_simp
                      all_goals with_reducible rfl
                    (try simp only [Act.put, List.setIfInBounds_toArray, List.set_cons_zero, List.set_cons_succ])
                    refine wpAnyH_ready (rs := [11]) (by kernel_rfl) (by simp) ?_
                    refine AllReadyH.cons (o := _) rfl (fun K hK => ?_) ?_
                    · go_simp
                      refine hK.out _ _ ?_ (fun hHeld => ?_)
                      · exact trivial
                      clear hK K
                      (try simp only [Act.put, List.setIfInBounds_toArray, List.set_cons_zero, List.set_cons_succ])
                      refine wpAnyH_ready (rs := [12]) (by kernel_rfl) (by simp) ?_
                      refine AllReadyH.cons (o := _) rfl (fun K hK => ?_) ?_
                      · have cK := Lib.hid (copied_any p' ar ca xs W3.drew (HI3.out.below (Below.refl _ _).drew (Nat.le_refl _)) (by omega))
                        go_simp
                        with_reducible refine cK.out.mono ?_
                        rintro e w5 ⟨a5, c5, rfl, hI5, hb5⟩
                        have hb35 : Below W3.heap.size W3 w5 := (Below.refl _ _).drew.trans hb5
                        have q0 := on_cell hb35 q0
                        have cY := Lib.hid (HH.out.call j X τr w5 _ ((i : Int), bt) (p', xs) a5 c5 (HH.out.stay _ _ _ _ _ _ HIW3.out hb35) HX.out (by simp only [Int.toNat_natCast]; exact HBt.out) (by simp only [Int.toNat_natCast]; exact HRow.out) (hI5.zone (fun g hg => HS3.out.fresh g hg)))
                        clear cK hI5 hb5 hb35
                        refine hK.out _ _ ?_ (fun hHeld => ?_)
                        · exact trivial
                        clear hK K
                        (try simp only [Act.put, List.setIfInBounds_toArray, List.set_cons_zero, List.set_cons_succ])
                        refine wpAnyH_ready (rs := [13]) (by kernel_rfl) (by simp) ?_
                        refine AllReadyH.cons (o := _) rfl (fun K hK => ?_) ?_
                        · go_simp
                          with_reducible refine cY.out.mono ?_
                          rintro e w6 ⟨more, τ6, σ6, rfl, hmore⟩
                          have HM := Lib.hid hmore
                          clear hmore cY
                          refine hK.out _ _ ?_ (fun hHeld => ?_)
                          · exact trivial
                          clear hK K
                          (try simp only [Act.put, List.setIfInBounds_toArray, List.set_cons_zero, List.set_cons_succ])
                          refine wpAnyH_take (i := 14) (oi := _) (v := ?_) rfl (by kernel_rfl) (by kernel_rfl) (by kernel_rfl) (fun _ _ _ h => h) (Or.inl ⟨by rfl, ?_⟩) (by assumption) ?_
                          rotate_left 1
                          · intro w hSw
                            (try dsimp only at hSw)
                            go_simp
                            all_goals with_reducible rfl
                          (try simp only [Act.put, List.setIfInBounds_toArray, List.set_cons_zero, List.set_cons_succ])
                          refine wpAnyH_done (by kernel_rfl) ?_ _
                          refine NoPanic.normal ?_
                          have hM := HM.out
                          rcases hM with ⟨rfl, hM⟩ | ⟨rfl, hM⟩
                          · have HM2 := Lib.hid hM
                            clear hM HM
                            go_wp2_with fail
                            go_roundw
                            case rel => exact ⟨j + 1, τ6, σ6, by omega, by go_num, HM2⟩
                            case measure => simp [intOf]; omega
                          · have HM2 := Lib.hid hM
                            clear hM HM
                            go_wp2_with fail
                            first
                              | refine bodyPost_end (v := .tuple #[]) (results_none Try.results32 _ _ _) rfl ?_
                              | refine bodyPost_ret (v := .tuple #[]) (results_none Try.results32 _ _ _) rfl ?_
                            exact ⟨rfl, τ6, HM2.out⟩
                        exact AllReadyH.nil
                      exact AllReadyH.nil
                    exact AllReadyH.nil
                  exact AllReadyH.nil
                refine AllReadyH.cons (o := _) rfl (fun K hK => ?_) ?_
                · go_simp
                  refine hK.out _ _ ?_ (fun hHeld => ?_)
                  · exact trivial
                  clear hK K
                  (try simp only [Act.put, List.setIfInBounds_toArray, List.set_cons_zero, List.set_cons_succ])
                  refine wpAnyH_take (i := 9) (oi := _) (v := ?_) rfl (by kernel_rfl) (by kernel_rfl) (by kernel_rfl) (fun _ _ _ h => h) (Or.inl ⟨by rfl, ?_⟩) (by assumption) ?_
                  rotate_left 1
                  · intro w hSw
                    (try dsimp only at hSw)
                    go_simp
                    all_goals with_reducible rfl
                  (try simp only [Act.put, List.setIfInBounds_toArray, List.set_cons_zero, List.set_cons_succ])
                  refine wpAnyH_take (i := 10) (oi := _) (v := ?_) rfl (by kernel_rfl) (by kernel_rfl) (by kernel_rfl) (fun _ _ _ h => h) (Or.inl ⟨by rfl, ?_⟩) (by assumption) ?_
                  rotate_left 1
                  · intro w hSw
                    (try dsimp only at hSw)
                    go_simp
                    all_goals with_reducible rfl
                  (try simp only [Act.put, List.setIfInBounds_toArray, List.set_cons_zero, List.set_cons_succ])
                  refine wpAnyH_ready (rs := [2, 11]) (by kernel_rfl) (by simp) ?_
                  refine AllReadyH.cons (o := _) rfl (fun K hK => ?_) ?_
                  · go_simp
                    refine hK.out _ _ ?_ (fun hHeld => ?_)
                    · exact trivial
                    clear hK K
                    (try simp only [Act.put, List.setIfInBounds_toArray, List.set_cons_zero, List.set_cons_succ])
                    refine wpAnyH_ready (rs := [11]) (by kernel_rfl) (by simp) ?_
                    refine AllReadyH.cons (o := _) rfl (fun K hK => ?_) ?_
                    · go_simp
                      refine hK.out _ _ ?_ (fun hHeld => ?_)
                      · exact trivial
                      clear hK K
                      (try simp only [Act.put, List.setIfInBounds_toArray, List.set_cons_zero, List.set_cons_succ])
                      refine wpAnyH_ready (rs := [12]) (by kernel_rfl) (by simp) ?_
                      refine AllReadyH.cons (o := _) rfl (fun K hK => ?_) ?_
                      · have cK := Lib.hid (copied_any p' ar ca xs W3.drew (HI3.out.below (Below.refl _ _).drew (Nat.le_refl _)) (by omega))
                        go_simp
                        with_reducible refine cK.out.mono ?_
                        rintro e w5 ⟨a5, c5, rfl, hI5, hb5⟩
                        have hb35 : Below W3.heap.size W3 w5 := (Below.refl _ _).drew.trans hb5
                        have q0 := on_cell hb35 q0
                        have cY := Lib.hid (HH.out.call j X τr w5 _ ((i : Int), bt) (p', xs) a5 c5 (HH.out.stay _ _ _ _ _ _ HIW3.out hb35) HX.out (by simp only [Int.toNat_natCast]; exact HBt.out) (by simp only [Int.toNat_natCast]; exact HRow.out) (hI5.zone (fun g hg => HS3.out.fresh g hg)))
                        clear cK hI5 hb5 hb35
                        refine hK.out _ _ ?_ (fun hHeld => ?_)
                        · exact trivial
                        clear hK K
                        (try simp only [Act.put, List.setIfInBounds_toArray, List.set_cons_zero, List.set_cons_succ])
                        refine wpAnyH_ready (rs := [13]) (by kernel_rfl) (by simp) ?_
                        refine AllReadyH.cons (o := _) rfl (fun K hK => ?_) ?_
                        · go_simp
                          with_reducible refine cY.out.mono ?_
                          rintro e w6 ⟨more, τ6, σ6, rfl, hmore⟩
                          have HM := Lib.hid hmore
                          clear hmore cY
                          refine hK.out _ _ ?_ (fun hHeld => ?_)
                          · exact trivial
                          clear hK K
                          (try simp only [Act.put, List.setIfInBounds_toArray, List.set_cons_zero, List.set_cons_succ])
                          refine wpAnyH_take (i := 14) (oi := _) (v := ?_) rfl (by kernel_rfl) (by kernel_rfl) (by kernel_rfl) (fun _ _ _ h => h) (Or.inl ⟨by rfl, ?_⟩) (by assumption) ?_
                          rotate_left 1
                          · intro w hSw
                            (try dsimp only at hSw)
                            go_simp
                            all_goals with_reducible rfl
                          (try simp only [Act.put, List.setIfInBounds_toArray, List.set_cons_zero, List.set_cons_succ])
                          refine wpAnyH_done (by kernel_rfl) ?_ _
                          refine NoPanic.normal ?_
                          have hM := HM.out
                          rcases hM with ⟨rfl, hM⟩ | ⟨rfl, hM⟩
                          · have HM2 := Lib.hid hM
                            clear hM HM
                            go_wp2_with fail
                            go_roundw
                            case rel => exact ⟨j + 1, τ6, σ6, by omega, by go_num, HM2⟩
                            case measure => simp [intOf]; omega
                          · have HM2 := Lib.hid hM
                            clear hM HM
                            go_wp2_with fail
                            first
                              | refine bodyPost_end (v := .tuple #[]) (results_none Try.results32 _ _ _) rfl ?_
                              | refine bodyPost_ret (v := .tuple #[]) (results_none Try.results32 _ _ _) rfl ?_
                            exact ⟨rfl, τ6, HM2.out⟩
                        exact AllReadyH.nil
                      exact AllReadyH.nil
                    exact AllReadyH.nil
                  refine AllReadyH.cons (o := _) rfl (fun K hK => ?_) ?_
                  · go_simp
                    refine hK.out _ _ ?_ (fun hHeld => ?_)
                    · exact trivial
                    clear hK K
                    (try simp only [Act.put, List.setIfInBounds_toArray, List.set_cons_zero, List.set_cons_succ])
                    refine wpAnyH_ready (rs := [2, 12]) (by kernel_rfl) (by simp) ?_
                    refine AllReadyH.cons (o := _) rfl (fun K hK => ?_) ?_
                    · go_simp
                      refine hK.out _ _ ?_ (fun hHeld => ?_)
                      · exact trivial
                      clear hK K
                      (try simp only [Act.put, List.setIfInBounds_toArray, List.set_cons_zero, List.set_cons_succ])
                      refine wpAnyH_ready (rs := [12]) (by kernel_rfl) (by simp) ?_
                      refine AllReadyH.cons (o := _) rfl (fun K hK => ?_) ?_
                      · have cK := Lib.hid (copied_any p' ar ca xs W3.drew (HI3.out.below (Below.refl _ _).drew (Nat.le_refl _)) (by omega))
                        go_simp
                        with_reducible refine cK.out.mono ?_
                        rintro e w5 ⟨a5, c5, rfl, hI5, hb5⟩
                        have hb35 : Below W3.heap.size W3 w5 := (Below.refl _ _).drew.trans hb5
                        have q0 := on_cell hb35 q0
                        have cY := Lib.hid (HH.out.call j X τr w5 _ ((i : Int), bt) (p', xs) a5 c5 (HH.out.stay _ _ _ _ _ _ HIW3.out hb35) HX.out (by simp only [Int.toNat_natCast]; exact HBt.out) (by simp only [Int.toNat_natCast]; exact HRow.out) (hI5.zone (fun g hg => HS3.out.fresh g hg)))
                        clear cK hI5 hb5 hb35
                        refine hK.out _ _ ?_ (fun hHeld => ?_)
                        · exact trivial
                        clear hK K
                        (try simp only [Act.put, List.setIfInBounds_toArray, List.set_cons_zero, List.set_cons_succ])
                        refine wpAnyH_ready (rs := [13]) (by kernel_rfl) (by simp) ?_
                        refine AllReadyH.cons (o := _) rfl (fun K hK => ?_) ?_
                        · go_simp
                          with_reducible refine cY.out.mono ?_
                          rintro e w6 ⟨more, τ6, σ6, rfl, hmore⟩
                          have HM := Lib.hid hmore
                          clear hmore cY
                          refine hK.out _ _ ?_ (fun hHeld => ?_)
                          · exact trivial
                          clear hK K
                          (try simp only [Act.put, List.setIfInBounds_toArray, List.set_cons_zero, List.set_cons_succ])
                          refine wpAnyH_take (i := 14) (oi := _) (v := ?_) rfl (by kernel_rfl) (by kernel_rfl) (by kernel_rfl) (fun _ _ _ h => h) (Or.inl ⟨by rfl, ?_⟩) (by assumption) ?_
                          rotate_left 1
                          · intro w hSw
                            (try dsimp only at hSw)
                            go_simp
                            all_goals with_reducible rfl
                          (try simp only [Act.put, List.setIfInBounds_toArray, List.set_cons_zero, List.set_cons_succ])
                          refine wpAnyH_done (by kernel_rfl) ?_ _
                          refine NoPanic.normal ?_
                          have hM := HM.out
                          rcases hM with ⟨rfl, hM⟩ | ⟨rfl, hM⟩
                          · have HM2 := Lib.hid hM
                            clear hM HM
                            go_wp2_with fail
                            go_roundw
                            case rel => exact ⟨j + 1, τ6, σ6, by omega, by go_num, HM2⟩
                            case measure => simp [intOf]; omega
                          · have HM2 := Lib.hid hM
                            clear hM HM
                            go_wp2_with fail
                            first
                              | refine bodyPost_end (v := .tuple #[]) (results_none Try.results32 _ _ _) rfl ?_
                              | refine bodyPost_ret (v := .tuple #[]) (results_none Try.results32 _ _ _) rfl ?_
                            exact ⟨rfl, τ6, HM2.out⟩
                        exact AllReadyH.nil
                      exact AllReadyH.nil
                    refine AllReadyH.cons (o := _) rfl (fun K hK => ?_) ?_
                    · have cK := Lib.hid (copied_any p' ar ca xs W3.drew (HI3.out.below (Below.refl _ _).drew (Nat.le_refl _)) (by omega))
                      go_simp
                      with_reducible refine cK.out.mono ?_
                      rintro e w5 ⟨a5, c5, rfl, hI5, hb5⟩
                      have hb35 : Below W3.heap.size W3 w5 := (Below.refl _ _).drew.trans hb5
                      have q0 := on_cell hb35 q0
                      have cY := Lib.hid (HH.out.call j X τr w5 _ ((i : Int), bt) (p', xs) a5 c5 (HH.out.stay _ _ _ _ _ _ HIW3.out hb35) HX.out (by simp only [Int.toNat_natCast]; exact HBt.out) (by simp only [Int.toNat_natCast]; exact HRow.out) (hI5.zone (fun g hg => HS3.out.fresh g hg)))
                      clear cK hI5 hb5 hb35
                      refine hK.out _ _ ?_ (fun hHeld => ?_)
                      · exact trivial
                      clear hK K
                      (try simp only [Act.put, List.setIfInBounds_toArray, List.set_cons_zero, List.set_cons_succ])
                      refine wpAnyH_ready (rs := [2]) (by kernel_rfl) (by simp) ?_
                      refine AllReadyH.cons (o := _) rfl (fun K hK => ?_) ?_
                      · go_simp
                        refine hK.out _ _ ?_ (fun hHeld => ?_)
                        · exact trivial
                        clear hK K
                        (try simp only [Act.put, List.setIfInBounds_toArray, List.set_cons_zero, List.set_cons_succ])
                        refine wpAnyH_ready (rs := [13]) (by kernel_rfl) (by simp) ?_
                        refine AllReadyH.cons (o := _) rfl (fun K hK => ?_) ?_
                        · go_simp
                          with_reducible refine cY.out.mono ?_
                          rintro e w6 ⟨more, τ6, σ6, rfl, hmore⟩
                          have HM := Lib.hid hmore
                          clear hmore cY
                          refine hK.out _ _ ?_ (fun hHeld => ?_)
                          · exact trivial
                          clear hK K
                          (try simp only [Act.put, List.setIfInBounds_toArray, List.set_cons_zero, List.set_cons_succ])
                          refine wpAnyH_take (i := 14) (oi := _) (v := ?_) rfl (by kernel_rfl) (by kernel_rfl) (by kernel_rfl) (fun _ _ _ h => h) (Or.inl ⟨by rfl, ?_⟩) (by assumption) ?_
                          rotate_left 1
                          · intro w hSw
                            (try dsimp only at hSw)
                            go_simp
                            all_goals with_reducible rfl
                          (try simp only [Act.put, List.setIfInBounds_toArray, List.set_cons_zero, List.set_cons_succ])
                          refine wpAnyH_done (by kernel_rfl) ?_ _
                          refine NoPanic.normal ?_
                          have hM := HM.out
                          rcases hM with ⟨rfl, hM⟩ | ⟨rfl, hM⟩
                          · have HM2 := Lib.hid hM
                            clear hM HM
                            go_wp2_with fail
                            go_roundw
                            case rel => exact ⟨j + 1, τ6, σ6, by omega, by go_num, HM2⟩
                            case measure => simp [intOf]; omega
                          · have HM2 := Lib.hid hM
                            clear hM HM
                            go_wp2_with fail
                            first
                              | refine bodyPost_end (v := .tuple #[]) (results_none Try.results32 _ _ _) rfl ?_
                              | refine bodyPost_ret (v := .tuple #[]) (results_none Try.results32 _ _ _) rfl ?_
                            exact ⟨rfl, τ6, HM2.out⟩
                        exact AllReadyH.nil
                      exact AllReadyH.nil
                    exact AllReadyH.nil
                  exact AllReadyH.nil
                exact AllReadyH.nil
              exact AllReadyH.nil
            · have hne : (bt != x2) = true := by simpa using hbirth
              go_quiet (fail)
              go_wp2_with fail
              go_roundw
              case rel => exact ⟨j + 1, τr, σ', by omega, by go_num, Lib.hid (HH.out.stay _ _ _ _ _ _ (HH.out.skip _ _ _ _ _ _ HIW.out HX.out (by simp only [Int.toNat_natCast]; rw [HBt.out]; simpa using hbirth)) (below_drewN (Below.refl _ _) nq))⟩
              case measure => simp [intOf]; omega
          · have hd : decide ((i : Int) < (σ'.rows.length : Int)) = false := by simpa using hin
            have hd2 : decide ((σ'.rows.length : Int) ≤ (i : Int)) = true := by simp; omega
            have hd3 : (σ'.rows.length : Int) ≤ (i : Int) := by omega
            go_quiet (fail)
            go_wp2_with fail
            go_roundw
            case rel => exact ⟨j + 1, τr, σ', by omega, by go_num, Lib.hid (HH.out.stay _ _ _ _ _ _ (HH.out.skip _ _ _ _ _ _ HIW.out HX.out (by
              simp only [Int.toNat_natCast]
              rw [List.getElem?_eq_none (by rw [HS'.out.sound.born]; omega)]
              simp)) (below_drewN (Below.refl _ _) nq))⟩
            case measure => simp [intOf]; omega
        · have hje : j = T.length := by omega
          subst hje
          go_wp2_with fail
          first
            | refine bodyPost_end (v := .tuple #[]) (results_none Try.results32 _ _ _) rfl ?_
            | refine bodyPost_ret (v := .tuple #[]) (results_none Try.results32 _ _ _) rfl ?_
          exact ⟨rfl, τr, HH.out.last _ _ _ _ HIn.out⟩
end Go.Proofs.Ytgodidoibcomcaa
