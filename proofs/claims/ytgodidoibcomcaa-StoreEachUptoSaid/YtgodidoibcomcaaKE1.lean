/-
  The book of StoreScript, StoreTries, StoreEach: several of its texts in one.
-/
import Derived.Test.YtgodidoibcomcaaK4
import Derived.Test.YtgodidoibcomcaaK5
import Derived.Test.YtgodidoibcomcaaK6
import Derived.Test.YtgodidoibcomcaaK7
import Derived.Test.YtgodidoibcomcaaK8
import Derived.Test.YtgodidoibcomcaaK9
import Derived.Test.YtgodidoibcomcaaROwn
import Derived.Test.YtgodidoibcomcaaSTry
import Derived.Test.YtgodidoibcomcaaSCopy
import Derived.Test.YtgodidoibcomcaaK3
namespace Go.Proofs.Ytgodidoibcomcaa.Bk
open Go.RowKit Go.Proofs.Ytgodidoibcomcaa

theorem flat_any {w0 : World} {τ : Own} {w : World} {β : Book} {C : List Box} {U u v : Nat} {Ops : Option Addr → Nat → Nat → Prop} (E : Env w0 τ w (ents β.ar β.ps) [] C) (B : BookOk β C) (HP : ∀ p ∈ β.ps, PrOk p) (x : OpD) (hx : OpIn Ops w0 x u) (hL : Lim U β v) (hU : v + u ≤ U) (hU2 : U ≤ 1048576) :
    Calls Try.prog 26 #[.pointer (some ⟨β.bk, 0, none⟩), .agg x.cells] w (FlatEnd w0 β C U (v + u) w) := by
  by_cases h0 : x.kind = 0
  · exact flat_Add E B HP x hx hL hU hU2 h0
  by_cases h1 : x.kind = 1
  · exact flat_Has E B HP x hx hL hU hU2 h1
  by_cases h2 : x.kind = 2
  · exact flat_Num E B HP x hx hL hU hU2 h2
  by_cases h3 : x.kind = 3
  · exact flat_Row E B HP x hx hL hU hU2 h3
  by_cases h4 : x.kind = 4
  · exact flat_Len E B HP x hx hL hU hU2 h4
  by_cases h5 : x.kind = 5
  · exact flat_Of E B HP x hx hL hU hU2 h5
  by_cases h6 : x.kind = 6
  · exact flat_Where E B HP x hx hL hU hU2 h6
  by_cases h7 : x.kind = 7
  · exact flat_Undo E B HP x hx hL hU hU2 h7
  by_cases h8 : x.kind = 8
  · exact flat_Copy E B HP x hx hL hU hU2 h8
  by_cases h11 : x.kind = 11
  · exact flat_TryN E B HP x hx hL hU hU2 h11
  by_cases h12 : x.kind = 12
  · exact flat_EachN E B HP x hx hL hU hU2 h12
  · exact flat_Other E B HP x hx hL hU hU2 ⟨by simpa using h0, by simpa using h1, by simpa using h2, by simpa using h3, by simpa using h4, by simpa using h5, by simpa using h6, by simpa using h7, by simpa using h8, by simpa using h11, by simpa using h12⟩
end Go.Proofs.Ytgodidoibcomcaa.Bk

namespace Go.Proofs.Ytgodidoibcomcaa.Bk
open Go.RowKit Go.Proofs.Ytgodidoibcomcaa

/-- between two steps of a script: the book, and what the steps so far have weighed -/
structure Mid (w0 : World) (bk : Nat) (U t : Nat) (β : Book) (τ : Own) (C : List Box) (w : World) : Prop where
  E : Env w0 τ w (ents β.ar β.ps) [] C
  B : BookOk β C
  P : ∀ p ∈ β.ps, PrOk p
  L : Lim U β t
  bk : β.bk = bk
  low : ∀ p ∈ β.ps, p.lows.length ≤ 0
theorem Mid.step {w0 : World} {bk U t t' : Nat} {β β' : Book} {τ τ' : Own} {C C' : List Box} {w w' : World} (M : Mid w0 bk U t β τ C w) (S : Step w0 β C w β' τ' C' w') (l : BLater β β') (h : Lim U β' t') : Mid w0 bk U t' β' τ' C' w' :=
  ⟨S.E, S.ok, l.ok, h, S.bk.trans M.bk, l.low 0 M.low⟩
theorem Mid.stay {w0 : World} {bk U t : Nat} {β : Book} {τ : Own} {C : List Box} {w w' : World} (M : Mid w0 bk U t β τ C w) (hb : Below w.heap.size w w') : Mid w0 bk U t β τ C w' :=
  ⟨M.E.stay hb, M.B, M.P, M.L, M.bk, M.low⟩
theorem Mid.begin {w w' : World} {ar : List Int} {β : Book} {τ : Own} {C : List Box} {U : Nat} (hE : Env w τ w' (ents ar β.ps) [] C) (hB : BookOk β C) (ha : β.ar = ar) (hn : β.next = 0) (hl : β.lists = []) {sb rb : Nat} (hp : β.ps = [⟨sb, rb, [], [], 0, [], 0⟩]) : Mid w β.bk U 0 β τ C w' := by
  refine ⟨by rw [ha]; exact hE, hB, fun p h => ?_, ⟨?_, fun p h => ?_, ?_, ?_, ?_⟩, rfl, fun p h => ?_⟩
  · rw [hp, List.mem_singleton] at h
    subst h
    exact ⟨rfl, fun x hx => (by cases hx), fun x hx => (by cases hx), fun x hx => (by cases hx)⟩
  · rw [hp]; exact Nat.le_refl _
  · rw [hp, List.mem_singleton] at h
    subst h
    simp
  · rw [hn]; exact Int.le_refl _
  · rw [hn]; simp
  · rw [hl]; simp
  · rw [hp, List.mem_singleton] at h
    subst h
    simp
theorem Mid.whole {w0 : World} {bk U t : Nat} {β : Book} {τ : Own} {C : List Box} {w : World} (M : Mid w0 bk U t β τ C w) (ht : t ≤ U) (hU : U ≤ 1048576) :
    Calls Try.prog 28 #[.pointer (some ⟨bk, 0, none⟩)] w fun e w' => e = .returned (.bool true) ∧ Below w0.heap.size w0 w' := by
  have h1 := M.L.ps
  have h2 := M.L.next
  have h3 := M.L.lists
  have h4 := U_next ht hU
  have h5 := U_lists ht hU
  have h := whole_any M.E M.B (by omega) (fun p hp => by rw [show p.rows.length = p.rs.length from List.length_map _]; have := M.L.rs p hp; omega) M.L.next0 (by omega) (by omega)
  rw [M.bk] at h
  exact h
theorem Mid.kept {w0 : World} {bk U t : Nat} {β : Book} {τ : Own} {C : List Box} {w : World} (M : Mid w0 bk U t β τ C w) (ht : t ≤ U) (hU : U ≤ 1048576) :
    Calls Try.prog 27 #[.pointer (some ⟨bk, 0, none⟩)] w fun e w' => e = .returned (.bool true) ∧ Below w.heap.size w w' := by
  have h3 := M.L.lists
  have h5 := U_lists ht hU
  have h := kept_any M.E M.B (by omega) M.B.big
  rw [M.bk] at h
  exact h
theorem Mid.flat {w0 : World} {bk U t u : Nat} {β : Book} {τ : Own} {C : List Box} {w : World} {Ops : Option Addr → Nat → Nat → Prop} (M : Mid w0 bk U t β τ C w) (x : OpD) (hx : OpIn Ops w0 x u) (ht : t + u ≤ U) (hU : U ≤ 1048576) :
    Calls Try.prog 26 #[.pointer (some ⟨bk, 0, none⟩), .agg x.cells] w fun e w' => e = .returned (.bool true) ∧ ∃ β' τ' C', Hid (Mid w0 bk U (t + u) β' τ' C' w') := by
  have h := flat_any M.E M.B M.P x hx M.L ht hU
  rw [M.bk] at h
  refine h.mono ?_
  rintro e w' ⟨rfl, β', τ', C', S, l, hl⟩
  exact ⟨rfl, β', τ', C', Lib.hid (M.step S l hl)⟩

theorem OpsIn.count {w : World} {d : Nat} {a : Option Addr} {n u : Nat} (h : OpsIn w d a n u) : n ≤ u := by
  rcases h.at with h | ⟨d', b, off, -, -, us, h2, h3, h4⟩
  · omega
  · have h5 := sum_ge us 1 (fun v hv => by
      obtain ⟨i, hi⟩ := List.mem_iff_getElem?.1 hv
      obtain ⟨x, -, hx⟩ := h4 i v hi
      have := hx.weigh
      omega)
    omega
set_option maxHeartbeats 8000000 in
set_option maxRecDepth 8000 in
theorem script_any (w : World) (aa sa : Option Addr) (ca sc n d u : Nat) (ar : List Int) (ha : IntsZ (fun _ => True) w aa ca ar) (hl : ar.length ≤ 1048576) (hs : OpsIn w d sa n u) (hu : u ≤ 1048576) :
    Calls Try.prog 8 #[.slice aa ar.length ca, .slice sa n sc] w fun e w' => e = .returned (.bool true) ∧ Below w.heap.size w w' := by
  have HS := Lib.hid hs
  have hn6 : n ≤ 1048576 := Nat.le_trans hs.count hu
  by_cases hok : ArOk ar
  · have cB := Lib.hid (begin_any aa ca ar ha hok)
    clear ha hs hok
    go_enter Try.func8, Try.ntmps8
    go_upto_region 2 with (first | (go_at_call 25; refine cB.out.mono ?_; rintro e W1 ⟨β, τ, C, rfl, hE, hB, hbar, hbn, hbl, sb, rb, hbp⟩))
    have HM := Lib.hid (Mid.begin (U := u) hE hB hbar hbn hbl hbp)
    obtain ⟨bk, hbk⟩ : ∃ b, β.bk = b := ⟨_, rfl⟩
    rw [hbk] at HM ⊢
    clear hE hB hbar hbn hbl hbp hbk cB
    go_wp2_with fail
    go_loopw [8] (fun i wr => ∃ (k : Nat) (us : List Nat) (βr : Book) (τr : Own) (Cr : List Box) (t : Nat), k ≤ n ∧ i = .int .i64 k ∧ t ≤ u ∧ Hid (Mid w bk u t βr τr Cr wr) ∧ Hid (t = (us.take k).sum ∧ (n = 0 ∨ ∃ d' b off, sa = some ⟨b, off, none⟩ ∧ us.length = n ∧ us.sum ≤ u ∧ ∀ (i v : Nat), us[i]? = some v → ∃ x : OpD, (∀ (j : Nat) y, x.cells[j]? = some y → w.cell? ⟨b, off + i * 8 + j, none⟩ = some y) ∧ OpIn (OpsIn w d') w x v))) (fun i _ => n - (intOf i).toNat)
    case atStart =>
      rcases HS.out.at with h | ⟨d', b, off, -, h1, us, h2, h3, h4⟩
      · exact ⟨0, [], β, τ, C, 0, Nat.zero_le _, rfl, Nat.zero_le _, HM, Lib.hid ⟨by simp, .inl h⟩⟩
      · exact ⟨0, us, β, τ, C, 0, Nat.zero_le _, rfl, Nat.zero_le _, HM, Lib.hid ⟨by simp, .inr ⟨d', b, off, h1, h2, h3, h4⟩⟩⟩
    case round =>
      obtain ⟨k, us, βr, τr, Cr, t, hk, rfl, htu, HMr, HU⟩ := hrel
      by_cases hlt : k < n
      · obtain ⟨ht, hn0 | ⟨d', b, off, rfl, hul, hus, hall⟩⟩ := HU.out
        · omega
        · obtain ⟨v, hv⟩ : ∃ v, us[k]? = some v := ⟨_, List.getElem?_eq_getElem (by omega)⟩
          obtain ⟨x, hc, hin⟩ := hall k v hv
          have hsum := take_sum_succ hv
          have hle := take_sum_le us (k + 1)
          have cF := Lib.hid (HMr.out.flat x hin (by omega) hu)
          obtain ⟨kind, on, ra, rc, l, nn, place, id, ia, inn, ic, say⟩ := x
          have c0 := on_cell HMr.out.E.below (hc 0 _ rfl)
          have c1 := on_cell HMr.out.E.below (hc 1 _ rfl)
          have c2 := on_cell HMr.out.E.below (hc 2 _ rfl)
          have c3 := on_cell HMr.out.E.below (hc 3 _ rfl)
          have c4 := on_cell HMr.out.E.below (hc 4 _ rfl)
          have c5 := on_cell HMr.out.E.below (hc 5 _ rfl)
          have c6 := on_cell HMr.out.E.below (hc 6 _ rfl)
          have c7 := on_cell HMr.out.E.below (hc 7 _ rfl)
          unfold OpD.cells opCells at cF c0 c1 c2 c3 c4 c5 c6 c7
          simp only [List.getElem_toArray, List.getElem_cons_zero, List.getElem_cons_succ] at c0 c1 c2 c3 c4 c5 c6 c7
          simp only at cF
          rw [Nat.add_zero] at c0
          have htv : t + v ≤ u := by omega
          have HT : Hid (t + v = (us.take (k + 1)).sum ∧ (n = 0 ∨ ∃ d' b' off', (some ⟨b, off, none⟩ : Option Addr) = some ⟨b', off', none⟩ ∧ us.length = n ∧ us.sum ≤ u ∧ ∀ (i v : Nat), us[i]? = some v → ∃ x : OpD, (∀ (j : Nat) y, x.cells[j]? = some y → w.cell? ⟨b', off' + i * 8 + j, none⟩ = some y) ∧ OpIn (OpsIn w d') w x v)) := Lib.hid ⟨by omega, .inr ⟨d', b, off, rfl, hul, hus, hall⟩⟩
          have hln : (us.take k).sum ≤ u := by omega
          clear hall hc hin hv hsum hle ht hul hus HU
          go_wp2_with (first
            | (go_at_call 26; refine cF.out.mono ?_; rintro e W2 ⟨rfl, β2, τ2, C2, HM2⟩; have cK := Lib.hid (HM2.out.kept htv hu))
            | (go_at_call 27; refine cK.out.mono ?_; rintro e W3 ⟨rfl, hb3⟩))
          go_roundw
          case rel => exact ⟨k + 1, us, β2, τ2, C2, t + v, by omega, by go_num, htv, Lib.hid (HM2.out.stay hb3), HT⟩
          case measure => simp [intOf]; omega
      · have cW := Lib.hid (HMr.out.whole htu hu)
        go_wp2_with (first | (go_at_call 28; refine cW.out.mono ?_; rintro e W4 ⟨rfl, hb4⟩))
        go_ret
        exact ⟨rfl, hb4⟩
  · have cB := Lib.hid (begin_bad aa ca ar ha (by omega) hok)
    clear ha hs hok
    go_enter Try.func8, Try.ntmps8
    go_wp2_with (first | (go_at_call 25; refine cB.out.mono ?_; rintro e W1 ⟨rfl, hb1⟩))
    go_ret
    exact ⟨rfl, hb1⟩
end Go.Proofs.Ytgodidoibcomcaa.Bk

namespace Go.Proofs.Ytgodidoibcomcaa.Bk
open Go.RowKit Go.Proofs.Ytgodidoibcomcaa

theorem idxL_at {q : Row → Prop} {rows : List Row} {x : Int} (h : x ∈ idxL q rows) : ∃ (i : Nat) (r : Row), x = (i : Int) ∧ rows[i]? = some r ∧ q r := by
  unfold idxL at h
  rw [List.mem_filterMap] at h
  obtain ⟨⟨r, i⟩, hm, hx⟩ := h
  rw [List.mem_zipIdx_iff_getElem?] at hm
  simp only at hx hm
  split at hx
  · cases hx
    exact ⟨i, r, rfl, hm, by assumption⟩
  · cases hx
/-- the turns that Each notes: a row's number, and when it came -/
noncomputable def turnsOf (σ : St) (p : Int) : List (Int × Int) := (ofK σ.rows (.int .i64 p)).map fun i => (i, (σ.bs[i.toNat]?).getD 0)
theorem turnsOf_at {s sb : Nat} {σ : St} {h : Hd} {τ : Own} {w : World} (hs : StoreAt s sb σ h τ w) {p : Int} {k : Nat} {x : Int × Int} (hx : (turnsOf σ p)[k]? = some x) :
    (ofK σ.rows (.int .i64 p))[k]? = some x.1 ∧ ∃ (i : Nat) (r : Row), x.1 = (i : Int) ∧ σ.rows[i]? = some r ∧ r.1 = p ∧ σ.bs[i]? = some x.2 := by
  unfold turnsOf at hx
  rw [List.getElem?_map] at hx
  cases hk : (ofK σ.rows (.int .i64 p))[k]? with
  | none => rw [hk] at hx; cases hx
  | some i0 =>
    rw [hk] at hx
    simp only [Option.map_some, Option.some.injEq] at hx
    subst hx
    obtain ⟨i, r, hi, hr, hq⟩ := idxL_at (List.mem_of_getElem? hk)
    refine ⟨rfl, i, r, hi, hr, ?_, ?_⟩
    · have : Value.int .i64 p = Value.int .i64 r.1 := hq
      simp at this
      exact this.symm
    · have hlt := (List.getElem?_eq_some_iff.1 hr).1
      rw [hi, Int.toNat_natCast]
      rw [List.getElem?_eq_getElem (by rw [hs.sound.born]; exact hlt)]
      rfl
def turnCells (T : List (Int × Int)) : List Value := T.flatMap fun x => [.int .i64 x.1, .int .i64 x.2]
theorem turnCells_snoc (T : List (Int × Int)) (x : Int × Int) : turnCells (T ++ [x]) = turnCells T ++ [.int .i64 x.1, .int .i64 x.2] := by simp [turnCells]
theorem turnCells_length (T : List (Int × Int)) : (turnCells T).length = T.length * 2 := by
  induction T with
  | nil => rfl
  | cons x T ih =>
    show ([Value.int .i64 x.1, .int .i64 x.2] ++ turnCells T).length = _
    rw [List.length_append, ih]
    simp
    omega
theorem turnCells_at {T : List (Int × Int)} {k : Nat} {x : Int × Int} (h : T[k]? = some x) : (turnCells T)[k * 2]? = some (.int .i64 x.1) ∧ (turnCells T)[k * 2 + 1]? = some (.int .i64 x.2) := by
  induction T generalizing k with
  | nil => simp at h
  | cons y T ih =>
    have e : turnCells (y :: T) = .int .i64 y.1 :: .int .i64 y.2 :: turnCells T := rfl
    cases k with
    | zero =>
      simp at h
      subst h
      exact ⟨rfl, rfl⟩
    | succ k =>
      have := ih (k := k) (by simpa using h)
      rw [e, show (k + 1) * 2 = k * 2 + 1 + 1 from by omega]
      exact ⟨by simpa using this.1, by simpa using this.2⟩
theorem infoTurn : (Try.prog.info? 108).map (fun i => (i.zero, i.size, i.bytes)) = some (some (.agg #[.int .i64 0, .int .i64 0]), 2, 16) := by kernel_rfl
theorem elemTurn : Elem Try.prog 106 108 (.agg #[.int .i64 0, .int .i64 0]) 2 16 := ⟨Try.underlying106, infoTurn, rfl, by decide⟩

/-- the function that Each is handed, and what stands between its calls -/
structure EachFn (s sb F : Nat) (caps : Array Value) (T : List (Int × Int)) (Inv : Nat → List Box → Own → World → St → Prop) (Fin : Own → World → Prop) : Prop where
  stay : ∀ k X τ (w w' : World) σ, Inv k X τ w σ → Below w.heap.size w w' → Inv k X τ w' σ
  store : ∀ k X τ (w : World) σ, Inv k X τ w σ → ∃ h, StoreAt s sb σ h τ w ∧ σ.rows.length ≤ 100000000000
  boxes : ∀ k X τ (w : World) σ, Inv k X τ w σ → ∀ x ∈ X, w.heap[x.1]? = some x.2
  skip : ∀ k X τ (w : World) σ x, Inv k X τ w σ → T[k]? = some x → σ.bs[x.1.toNat]? ≠ some x.2 → Inv (k + 1) X τ w σ
  call : ∀ k X τ (wb w : World) σ x r a c, Inv k X τ wb σ → Below wb.heap.size wb w → T[k]? = some x → σ.bs[x.1.toNat]? = some x.2 → σ.rows[x.1.toNat]? = some r → w.ownsRow wb.heap.size 3 1 (.slice a r.2.length c) r.2.length (r.2.map (Value.int .i64)) →
    Calls Try.prog F (#[.int .i64 x.1, .agg #[.int .i64 r.1, .slice a r.2.length c]] ++ caps) w fun e w' => ∃ more τ' σ', e = .returned (.bool more) ∧ ((more = true ∧ Inv (k + 1) X τ' w' σ') ∨ (more = false ∧ Fin τ' w'))
  last : ∀ X τ (w : World) σ, Inv T.length X τ w σ → Fin τ w
  enters : ∀ (x y : Value) (w : World), (callFunc F (#[x, y] ++ caps)).run Try.prog w = .ok (.enter F (#[x, y] ++ caps)) w

def EachEnd (Fin : Own → World → Prop) (e : Ending) (w' : World) : Prop := e = .returned (.tuple #[]) ∧ ∃ τ', Fin τ' w'

set_option linter.unusedSimpArgs false in
set_option maxHeartbeats 16000000 in
set_option maxRecDepth 8000 in
theorem each_own {s sb : Nat} {σ : St} {h : Hd} {τ : Own} {w : World} (hs : StoreAt s sb σ h τ w) (p : Int) (hp : Rng p) (hl : σ.rows.length ≤ 100000000000) (F : Nat) (caps : Array Value) {Inv : Nat → List Box → Own → World → St → Prop} {Fin : Own → World → Prop} (H : EachFn s sb F caps (turnsOf σ p) Inv Fin)
    (hi0 : ∀ w1, Below w.heap.size w w1 → Inv 0 [] τ w1 σ) (hi1 : ∀ w1 g o, Below w.heap.size w w1 → w.heap.size ≤ g → w1.heap[g]? = some o → Inv 0 [(g, o)] (adopted boxS .still g (g + 1) τ) w1 σ) :
    Calls Try.prog 32 #[.pointer (some ⟨sb, 0, none⟩), .int .i64 p, .func (.func F) #[] caps] w (EachEnd Fin) := by
  obtain ⟨a, c, hrun, hI⟩ := look_of hs hp
  obtain ⟨c0, c1, c2, c3, c4, c5, c6, c7⟩ := hs.head.cells
  have hlen : (ofK σ.rows (.int .i64 p)).length ≤ σ.rows.length := idxL_length (fun r => Value.int .i64 p = .int .i64 r.1) σ.rows
  have hT : (turnsOf σ p).length = (ofK σ.rows (.int .i64 p)).length := by simp [turnsOf]
  obtain ⟨aR, cR, hvR, hnR⟩ := hs.vR
  rw [hvR] at c1
  have HS := Lib.hid hs
  have HH := Lib.hid H
  have HI := Lib.hid hI
  have H0 := Lib.hid hi0
  have H1 := Lib.hid hi1
  have HVR := Lib.hid hvR
  obtain ⟨T, hTe⟩ : ∃ T, turnsOf σ p = T := ⟨_, rfl⟩
  obtain ⟨P, hPe⟩ : ∃ P, ofK σ.rows (.int .i64 p) = P := ⟨_, rfl⟩
  rw [hTe] at hT HH
  rw [hPe] at hT hlen hrun HI
  have HT := Lib.hid hT
  have HTe := Lib.hid hTe
  have HPe := Lib.hid hPe
  have hTl : T.length ≤ 100000000000 := by omega
  have hPl : P.length ≤ 100000000000 := by omega
  have hnf : ∀ w : World, (binOp .eql 60 (.func (.func F) #[] caps) .nilFunc).run Try.prog w = .ok (.bool false) w := fun w => by kernel_rfl
  clear hs H hI hi0 hi1 hvR hnR c0 c2 c3 c5 c6 c7 hTe hPe hT
  go_enter Try.func32, Try.ntmps32
  go_wp2_with fail
  go_loopw [6, 24] (fun v i wr => ∃ j : Nat, j ≤ P.length ∧ i = .int .i64 j ∧ wr.ownsRow w.heap.size 108 2 v j (turnCells (T.take j)) ∧ Below w.heap.size w wr) (fun _ i _ => P.length - (intOf i).toNat)
  case atStart => exact ⟨0, Nat.zero_le _, rfl, World.ownsRow_nil _ _ _ _, Below.refl _ _⟩
  case round =>
    obtain ⟨j, hj, rfl, hown, hbel⟩ := hrel
    by_cases hlt : j < P.length
    · obtain ⟨x, hx⟩ : ∃ x, T[j]? = some x := ⟨_, List.getElem?_eq_getElem (by rw [HT.out]; exact hlt)⟩
      obtain ⟨hx1, i, r, hxi, hr, hrp, hbs⟩ := turnsOf_at HS.out (by rw [HTe.out]; exact hx)
      rw [HPe.out] at hx1
      obtain ⟨g, cg, ar, ca, bt, hv, hbt, d0, d1, d2, _⟩ := RowsPart.at3 HS.out hr
      rw [hbs] at hbt
      cases hbt
      rw [HVR.out] at hv
      simp only [Value.slice.injEq] at hv
      obtain ⟨rfl, _, rfl⟩ := hv
      rcases HI.out.1 with hn | ⟨b1, o1, rfl, _, hc1⟩
      · rw [hn] at hlt; simp at hlt
      · have y1 := hc1 j hlt
        rw [show P[j] = x.1 from (List.getElem?_eq_some_iff.1 hx1).2] at y1
        have e1 := (hbel.cell (World.block_lt_of_cell? _ _ y1)).trans y1
        have e2 := (hbel.cell (World.block_lt_of_cell? _ _ d2)).trans d2
        have e3 := (hbel.cell (World.block_lt_of_cell? _ _ c1)).trans c1
        have hil := (List.getElem?_eq_some_iff.1 hr).1
        obtain ⟨x1, x2⟩ := x
        simp only at hxi e1 e2 hx1
        subst hxi
        have HX := Lib.hid hx
        have hi0 : (0 : Int) ≤ (i : Int) := by omega
        have hi1 : (i : Int) < (σ.rows.length : Int) := by omega
        clear hc1 y1 d0 d1 d2 hx hx1 hr hrp hbs
        have sz := hbel.size
        go_wp2_with (at_builtin; refine wpList_append_any elemTurn _ rfl _ _ rfl w.heap.size _ j (turnCells (T.take j)) rfl (hown.alloc _) (some ⟨wr.heap.size, 0, none⟩) 1 1 [.int .i64 (i : Int), .int .i64 x2] rfl (source_new _ _ _) rfl (by simp [Value.oneCell']) (by unfold maxLen; omega) (by omega) (by simp; omega) ?_; intro v' w2 hown2 hgrow2 _)
        have hb4 : Below w.heap.size w w2 := (hbel.alloc sz _).grown hgrow2 (by simp; omega) (fun j hj => by have := (hown.lt j hj).1; omega)
        go_roundw
        case rel => exact ⟨j + 1, by omega, by go_num, by rw [take_snoc' HX.out, turnCells_snoc]; exact hown2, hb4⟩
        case measure => simp [intOf]; omega
    · have hje : j = P.length := by omega
      subst hje
      obtain ⟨w1, hw1⟩ : ∃ w1, w1 = wr := ⟨_, rfl⟩
      subst hw1
      rw [← HT.out, List.take_length] at hown
      have hstart : ∃ (av : Option Addr) (cv : Nat) (X : List Box) (τ1 : Own), u6 = .slice av T.length cv ∧ Inv 0 X τ1 w1 σ ∧ ∀ W : World, (∀ x ∈ X, W.heap[x.1]? = some x.2) → ∀ (j : Nat) (x : Int × Int), T[j]? = some x → ∃ g, av = some ⟨g, 0, none⟩ ∧ W.cell? ⟨g, j * 2, none⟩ = some (.int .i64 x.1) ∧ W.cell? ⟨g, j * 2 + 1, none⟩ = some (.int .i64 x.2) := by
        rcases owns_form hown with ⟨e, h0, _⟩ | ⟨g, cap, e, hbg, hg, _, _, _, hcell, _⟩
        · refine ⟨none, 0, [], τ, by rw [e, h0], H0.out w1 hbel, fun W _ j x hx => ?_⟩
          have := (List.getElem?_eq_some_iff.1 hx).1
          omega
        · refine ⟨some ⟨g, 0, none⟩, cap, [(g, w1.heap[g])], _, e, H1.out w1 g w1.heap[g] hbel hbg (Array.getElem?_eq_getElem hg), fun W hW j x hx => ⟨g, rfl, ?_⟩⟩
          have hWg : W.heap[g]? = w1.heap[g]? := (hW (g, w1.heap[g]) (by simp)).trans (Array.getElem?_eq_getElem hg).symm
          obtain ⟨q1, q2⟩ := turnCells_at hx
          exact ⟨(World.cell?_of_block (w := w1) hWg).trans (hcell _ _ q1), (World.cell?_of_block (w := w1) hWg).trans (hcell _ _ q2)⟩
      obtain ⟨av, cv, X, τ1, rfl, hI0, hturn⟩ := hstart
      have HI0 := Lib.hid hI0
      have HTurn := Lib.hid hturn
      clear hown hbel hI0 hturn
      go_wp2_with fail
      go_loopw [44] (fun i wr => ∃ (j : Nat) (τr : Own) (σr : St), j ≤ T.length ∧ i = .int .i64 j ∧ Hid (Inv j X τr wr σr)) (fun i _ => T.length - (intOf i).toNat)
      case atStart => exact ⟨0, τ1, σ, Nat.zero_le _, rfl, HI0⟩
      case round =>
        obtain ⟨j, τr, σ', hj, rfl, HIn⟩ := hrel
        by_cases hlt2 : j < T.length
        · obtain ⟨x, hx⟩ : ∃ x, T[j]? = some x := ⟨_, List.getElem?_eq_getElem hlt2⟩
          obtain ⟨_, i, r, hxi, hr, hrp, hbs⟩ := turnsOf_at HS.out (by rw [HTe.out]; exact hx)
          obtain ⟨g, rfl, e0, e1⟩ := HTurn.out wr (HH.out.boxes _ _ _ _ _ HIn.out) j x hx
          obtain ⟨x1, x2⟩ := x
          simp only at hxi e0 e1
          subst hxi
          have hil := (List.getElem?_eq_some_iff.1 hr).1
          have HX := Lib.hid hx
          clear hx hr hrp hbs c1 c4 hrun
          obtain ⟨W, hW⟩ : ∃ W, W = wr.alloc (.cells #[.int .i64 (i : Int), .int .i64 x2] 108) := ⟨_, rfl⟩
          obtain ⟨b, hb⟩ : ∃ b, b = wr.heap.size := ⟨_, rfl⟩
          have hbel2 : Below wr.heap.size wr W := by rw [hW]; exact (Below.refl _ _).alloc (Nat.le_refl _) _
          have HIW := Lib.hid (HH.out.stay _ _ _ _ _ _ HIn.out hbel2)
          have q0 : W.cell? ⟨b, 0, none⟩ = some (.int .i64 (i : Int)) := by rw [hW, hb]; simp
          have q1 : W.cell? ⟨b, 1, none⟩ = some (.int .i64 x2) := by rw [hW, hb]; simp
          obtain ⟨h', hs', hlr⟩ := HH.out.store _ _ _ _ _ HIW.out
          obtain ⟨aR', cR', hvR', _⟩ := hs'.vR
          have c1' := hs'.head.cells.2.1
          rw [hvR'] at c1'
          have HS' := Lib.hid hs'
          have HVR' := Lib.hid hvR'
          have HW := Lib.hid hW
          have HB := Lib.hid hb
          clear hW hb hbel2 hs' hvR'
          go_upto_region 10 with fail
          rw [← HW.out, ← HB.out]
          by_cases hin : i < σ'.rows.length
          · obtain ⟨⟨p', xs⟩, hrow⟩ : ∃ r, σ'.rows[i]? = some r := ⟨_, List.getElem?_eq_getElem hin⟩
            obtain ⟨gR, cg, ar, ca, bt, hv, hbt, d0, d1, d2, hI⟩ := RowsPart.at3 HS'.out hrow
            rw [HVR'.out] at hv
            simp only [Value.slice.injEq] at hv
            obtain ⟨rfl, _, rfl⟩ := hv
            have hx8 : xs.length ≤ 8 := (HS'.out.sound.fits _ (List.mem_of_getElem? hrow)).2.2.2.1
            have HRow := Lib.hid hrow
            have HBt := Lib.hid hbt
            have HI2 := Lib.hid hI
            simp only at d0 d1
            have hd2 : decide ((σ'.rows.length : Int) ≤ (i : Int)) = false := by simp; omega
            have hd3 : (i : Int) < (σ'.rows.length : Int) := by omega
            have hd4 : (0 : Int) ≤ (i : Int) := by omega
            clear hrow hbt hI
            by_cases hbirth : bt = x2
            · subst hbirth
              go_quiet (fail)
              obtain ⟨W3, hW3⟩ : ∃ V, V = W.drewN nq := ⟨_, rfl⟩
              have hb3 : Below W.heap.size W W3 := by rw [hW3]; exact below_drewN (Below.refl _ _) nq
              have q0 := on_cell hb3 q0
              have c1' := on_cell hb3 c1'
              have d0 := on_cell hb3 d0
              have d1 := on_cell hb3 d1
              have HI3 := Lib.hid (HI2.out.below hb3 (Nat.le_refl _))
              have HS3 := Lib.hid (HS'.out.below hb3)
              have HIW3 := Lib.hid (HH.out.stay _ _ _ _ _ _ HIW.out hb3)
              have henter := HH.out.enters
              rw [← hW3]
              clear hW3 hb3 d2 q1
              go_upto_region 11 with fail
              refine wp_region_noPanic ?_
              refine wp_region_held_drew (S := (fun _ => True)) (by kernel_rfl) ?_ (fun hHeld => ?_)
              · exact trivial
              refine wpAnyH_take (i := 0) (oi := ⟨some 70, _, _, _, _, _⟩) (v := ?_) rfl (by kernel_rfl) (by kernel_rfl) (by kernel_rfl) (fun _ _ _ h => h) (Or.inl ⟨by rfl, ?_⟩) (by assumption) ?_
              rotate_left 1
              · intro w hSw
                (try dsimp only at hSw)
                go_simp
                all_goals with_reducible rfl
              (try simp only [Act.put, List.setIfInBounds_toArray, List.set_cons_zero, List.set_cons_succ])
              refine wpAnyH_take (i := 1) (oi := ⟨some 71, _, _, _, _, _⟩) (v := ?_) rfl (by kernel_rfl) (by kernel_rfl) (by kernel_rfl) (fun _ _ _ h => h) (Or.inl ⟨by rfl, ?_⟩) (by assumption) ?_
              rotate_left 1
              · intro w hSw
                (try dsimp only at hSw)
                go_simp
                all_goals with_reducible rfl
              (try simp only [Act.put, List.setIfInBounds_toArray, List.set_cons_zero, List.set_cons_succ])
              refine wpAnyH_take (i := 3) (oi := ⟨some 73, _, _, _, _, _⟩) (v := ?_) rfl (by kernel_rfl) (by kernel_rfl) (by kernel_rfl) (fun _ _ _ h => h) (Or.inl ⟨by rfl, ?_⟩) (by assumption) ?_
              rotate_left 1
              · intro w hSw
                (try dsimp only at hSw)
                go_simp
                all_goals with_reducible rfl
              (try simp only [Act.put, List.setIfInBounds_toArray, List.set_cons_zero, List.set_cons_succ])
              refine wpAnyH_take (i := 4) (oi := ⟨some 74, _, _, _, _, _⟩) (v := ?_) rfl (by kernel_rfl) (by kernel_rfl) (by kernel_rfl) (fun _ _ _ h => h) (Or.inl ⟨by rfl, ?_⟩) (by assumption) ?_
              rotate_left 1
              · intro w hSw
                (try dsimp only at hSw)
                go_simp
                all_goals with_reducible rfl
              (try simp only [Act.put, List.setIfInBounds_toArray, List.set_cons_zero, List.set_cons_succ])
              refine wpAnyH_take (i := 5) (oi := ⟨some 75, _, _, _, _, _⟩) (v := ?_) rfl (by kernel_rfl) (by kernel_rfl) (by kernel_rfl) (fun _ _ _ h => h) (Or.inl ⟨by rfl, ?_⟩) (by assumption) ?_
              rotate_left 1
              · intro w hSw
                (try dsimp only at hSw)
                go_simp
                all_goals with_reducible rfl
              (try simp only [Act.put, List.setIfInBounds_toArray, List.set_cons_zero, List.set_cons_succ])
              refine wpAnyH_take (i := 7) (oi := ⟨some 77, _, _, _, _, _⟩) (v := ?_) rfl (by kernel_rfl) (by kernel_rfl) (by kernel_rfl) (fun _ _ _ h => h) (Or.inl ⟨by rfl, ?_⟩) (by assumption) ?_
              rotate_left 1
              · intro w hSw
                (try dsimp only at hSw)
                go_simp
                all_goals with_reducible rfl
              (try simp only [Act.put, List.setIfInBounds_toArray, List.set_cons_zero, List.set_cons_succ])
              refine wpAnyH_ready (rs := [2, 6, 8]) (by kernel_rfl) (by simp) ?_
              refine AllReadyH.cons (o := _) rfl (fun K hK => ?_) ?_
              · go_simp
                refine hK.out _ _ ?_ (fun hHeld => ?_)
                · exact trivial
                clear hK K
                (try simp only [Act.put, List.setIfInBounds_toArray, List.set_cons_zero, List.set_cons_succ])
                refine wpAnyH_ready (rs := [6, 8]) (by kernel_rfl) (by simp) ?_
                refine AllReadyH.cons (o := _) rfl (fun K hK => ?_) ?_
                · go_simp
                  refine hK.out _ _ ?_ (fun hHeld => ?_)
                  · exact trivial
                  clear hK K
                  (try simp only [Act.put, List.setIfInBounds_toArray, List.set_cons_zero, List.set_cons_succ])
                  refine wpAnyH_ready (rs := [8]) (by kernel_rfl) (by simp) ?_
                  refine AllReadyH.cons (o := _) rfl (fun K hK => ?_) ?_
                  · go_simp
                    refine hK.out _ _ ?_ (fun hHeld => ?_)
                    · exact trivial
                    clear hK K
                    (try simp only [Act.put, List.setIfInBounds_toArray, List.set_cons_zero, List.set_cons_succ])
                    refine wpAnyH_take (i := 9) (oi := ⟨some 79, _, _, _, _, _⟩) (v := ?_) rfl (by kernel_rfl) (by kernel_rfl) (by kernel_rfl) (fun _ _ _ h => h) (Or.inl ⟨by rfl, ?_⟩) (by assumption) ?_
                    rotate_left 1
                    · intro w hSw
                      (try dsimp only at hSw)
                      go_simp
                      all_goals with_reducible rfl
                    (try simp only [Act.put, List.setIfInBounds_toArray, List.set_cons_zero, List.set_cons_succ])
                    refine wpAnyH_take (i := 10) (oi := ⟨some 80, _, _, _, _, _⟩) (v := ?_) rfl (by kernel_rfl) (by kernel_rfl) (by kernel_rfl) (fun _ _ _ h => h) (Or.inl ⟨by rfl, ?_⟩) (by assumption) ?_
                    rotate_left 1
                    · intro w hSw
                      (try dsimp only at hSw)
                      go_simp
                      all_goals with_reducible rfl
                    (try simp only [Act.put, List.setIfInBounds_toArray, List.set_cons_zero, List.set_cons_succ])
                    refine wpAnyH_ready (rs := [11]) (by kernel_rfl) (by simp) ?_
                    refine AllReadyH.cons (o := _) rfl (fun K hK => ?_) ?_
                    · go_simp
                      refine hK.out _ _ ?_ (fun hHeld => ?_)
                      · exact trivial
                      clear hK K
                      (try simp only [Act.put, List.setIfInBounds_toArray, List.set_cons_zero, List.set_cons_succ])
                      refine wpAnyH_ready (rs := [12]) (by kernel_rfl) (by simp) ?_
                      refine AllReadyH.cons (o := _) rfl (fun K hK => ?_) ?_
                      · have cK := Lib.hid (copied_own p' ar ca xs W3.drew (HI3.out.below (Below.refl _ _).drew (Nat.le_refl _)) (by omega))
                        go_simp
                        with_reducible refine cK.out.mono ?_
                        rintro e w5 ⟨a5, c5, rfl, hI5, hb5⟩
                        have hb35 : Below W3.heap.size W3 w5 := (Below.refl _ _).drew.trans hb5
                        have q0 := on_cell hb35 q0
                        have cY := Lib.hid (HH.out.call j X τr W3 w5 _ ((i : Int), bt) (p', xs) a5 c5 HIW3.out hb35 HX.out (by simp only [Int.toNat_natCast]; exact HBt.out) (by simp only [Int.toNat_natCast]; exact HRow.out) hI5)
                        clear cK hI5 hb5 hb35
                        refine hK.out _ _ ?_ (fun hHeld => ?_)
                        · exact trivial
                        clear hK K
                        (try simp only [Act.put, List.setIfInBounds_toArray, List.set_cons_zero, List.set_cons_succ])
                        refine wpAnyH_ready (rs := [13]) (by kernel_rfl) (by simp) ?_
                        refine AllReadyH.cons (o := _) rfl (fun K hK => ?_) ?_
                        · go_simp
                          with_reducible refine cY.out.mono ?_
                          rintro e w6 ⟨more, τ6, σ6, rfl, hmore⟩
                          have HM := Lib.hid hmore
                          clear hmore cY
                          refine hK.out _ _ ?_ (fun hHeld => ?_)
                          · exact trivial
                          clear hK K
                          (try simp only [Act.put, List.setIfInBounds_toArray, List.set_cons_zero, List.set_cons_succ])
                          refine wpAnyH_take (i := 14) (oi := ⟨some 84, _, _, _, _, _⟩) (v := ?_) rfl (by kernel_rfl) (by kernel_rfl) (by kernel_rfl) (fun _ _ _ h => h) (Or.inl ⟨by rfl, ?_⟩) (by assumption) ?_
                          rotate_left 1
                          · intro w hSw
                            (try dsimp only at hSw)
                            go_simp
                            all_goals with_reducible rfl
                          (try simp only [Act.put, List.setIfInBounds_toArray, List.set_cons_zero, List.set_cons_succ])
                          refine wpAnyH_done (by kernel_rfl) ?_ _
                          refine NoPanic.normal ?_
                          have hM := HM.out
                          rcases hM with ⟨rfl, hM⟩ | ⟨rfl, hM⟩
                          · have HM2 := Lib.hid hM
                            clear hM HM
                            go_wp2_with fail
                            go_roundw
                            case rel => exact ⟨j + 1, τ6, σ6, by omega, by go_num, HM2⟩
                            case measure => simp [intOf]; omega
                          · have HM2 := Lib.hid hM
                            clear hM HM
                            go_wp2_with fail
                            first
                              | refine bodyPost_end (v := .tuple #[]) (results_none Try.results32 _ _ _) rfl ?_
                              | refine bodyPost_ret (v := .tuple #[]) (results_none Try.results32 _ _ _) rfl ?_
                            exact ⟨rfl, τ6, HM2.out⟩
                        exact AllReadyH.nil
                      exact AllReadyH.nil
                    exact AllReadyH.nil
                  exact AllReadyH.nil
                refine AllReadyH.cons (o := _) rfl (fun K hK => ?_) ?_
                · go_simp
                  refine hK.out _ _ ?_ (fun hHeld => ?_)
                  · exact trivial
                  clear hK K
                  (try simp only [Act.put, List.setIfInBounds_toArray, List.set_cons_zero, List.set_cons_succ])
                  refine wpAnyH_ready (rs := [6]) (by kernel_rfl) (by simp) ?_
                  refine AllReadyH.cons (o := _) rfl (fun K hK => ?_) ?_
                  · go_simp
                    refine hK.out _ _ ?_ (fun hHeld => ?_)
                    · exact trivial
                    clear hK K
                    (try simp only [Act.put, List.setIfInBounds_toArray, List.set_cons_zero, List.set_cons_succ])
                    refine wpAnyH_take (i := 9) (oi := ⟨some 79, _, _, _, _, _⟩) (v := ?_) rfl (by kernel_rfl) (by kernel_rfl) (by kernel_rfl) (fun _ _ _ h => h) (Or.inl ⟨by rfl, ?_⟩) (by assumption) ?_
                    rotate_left 1
                    · intro w hSw
                      (try dsimp only at hSw)
                      go_simp
                      all_goals with_reducible rfl
                    (try simp only [Act.put, List.setIfInBounds_toArray, List.set_cons_zero, List.set_cons_succ])
                    refine wpAnyH_take (i := 10) (oi := ⟨some 80, _, _, _, _, _⟩) (v := ?_) rfl (by kernel_rfl) (by kernel_rfl) (by kernel_rfl) (fun _ _ _ h => h) (Or.inl ⟨by rfl, ?_⟩) (by assumption) ?_
                    rotate_left 1
                    · intro w hSw
                      (try dsimp only at hSw)
                      go_simp
                      all_goals with_reducible rfl
                    (try simp only [Act.put, List.setIfInBounds_toArray, List.set_cons_zero, List.set_cons_succ])
                    refine wpAnyH_ready (rs := [11]) (by kernel_rfl) (by simp) ?_
                    refine AllReadyH.cons (o := _) rfl (fun K hK => ?_) ?_
                    · go_simp
                      refine hK.out _ _ ?_ (fun hHeld => ?_)
                      · exact trivial
                      clear hK K
                      (try simp only [Act.put, List.setIfInBounds_toArray, List.set_cons_zero, List.set_cons_succ])
                      refine wpAnyH_ready (rs := [12]) (by kernel_rfl) (by simp) ?_
                      refine AllReadyH.cons (o := _) rfl (fun K hK => ?_) ?_
                      · have cK := Lib.hid (copied_own p' ar ca xs W3.drew (HI3.out.below (Below.refl _ _).drew (Nat.le_refl _)) (by omega))
                        go_simp
                        with_reducible refine cK.out.mono ?_
                        rintro e w5 ⟨a5, c5, rfl, hI5, hb5⟩
                        have hb35 : Below W3.heap.size W3 w5 := (Below.refl _ _).drew.trans hb5
                        have q0 := on_cell hb35 q0
                        have cY := Lib.hid (HH.out.call j X τr W3 w5 _ ((i : Int), bt) (p', xs) a5 c5 HIW3.out hb35 HX.out (by simp only [Int.toNat_natCast]; exact HBt.out) (by simp only [Int.toNat_natCast]; exact HRow.out) hI5)
                        clear cK hI5 hb5 hb35
                        refine hK.out _ _ ?_ (fun hHeld => ?_)
                        · exact trivial
                        clear hK K
                        (try simp only [Act.put, List.setIfInBounds_toArray, List.set_cons_zero, List.set_cons_succ])
                        refine wpAnyH_ready (rs := [13]) (by kernel_rfl) (by simp) ?_
                        refine AllReadyH.cons (o := _) rfl (fun K hK => ?_) ?_
                        · go_simp
                          with_reducible refine cY.out.mono ?_
                          rintro e w6 ⟨more, τ6, σ6, rfl, hmore⟩
                          have HM := Lib.hid hmore
                          clear hmore cY
                          refine hK.out _ _ ?_ (fun hHeld => ?_)
                          · exact trivial
                          clear hK K
                          (try simp only [Act.put, List.setIfInBounds_toArray, List.set_cons_zero, List.set_cons_succ])
                          refine wpAnyH_take (i := 14) (oi := ⟨some 84, _, _, _, _, _⟩) (v := ?_) rfl (by kernel_rfl) (by kernel_rfl) (by kernel_rfl) (fun _ _ _ h => h) (Or.inl ⟨by rfl, ?_⟩) (by assumption) ?_
                          rotate_left 1
                          · intro w hSw
                            (try dsimp only at hSw)
                            go_simp
                            all_goals with_reducible rfl
                          (try simp only [Act.put, List.setIfInBounds_toArray, List.set_cons_zero, List.set_cons_succ])
                          refine wpAnyH_done (by kernel_rfl) ?_ _
                          refine NoPanic.normal ?_
                          have hM := HM.out
                          rcases hM with ⟨rfl, hM⟩ | ⟨rfl, hM⟩
                          · have HM2 := Lib.hid hM
                            clear hM HM
                            go_wp2_with fail
                            go_roundw
                            case rel => exact ⟨j + 1, τ6, σ6, by omega, by go_num, HM2⟩
                            case measure => simp [intOf]; omega
                          · have HM2 := Lib.hid hM
                            clear hM HM
                            go_wp2_with fail
                            first
                              | refine bodyPost_end (v := .tuple #[]) (results_none Try.results32 _ _ _) rfl ?_
                              | refine bodyPost_ret (v := .tuple #[]) (results_none Try.results32 _ _ _) rfl ?_
                            exact ⟨rfl, τ6, HM2.out⟩
                        exact AllReadyH.nil
                      exact AllReadyH.nil
                    exact AllReadyH.nil
                  exact AllReadyH.nil
                exact AllReadyH.nil
              refine AllReadyH.cons (o := _) rfl (fun K hK => ?_) ?_
              · go_simp
                refine hK.out _ _ ?_ (fun hHeld => ?_)
                · exact trivial
                clear hK K
                (try simp only [Act.put, List.setIfInBounds_toArray, List.set_cons_zero, List.set_cons_succ])
                refine wpAnyH_ready (rs := [2, 8]) (by kernel_rfl) (by simp) ?_
                refine AllReadyH.cons (o := _) rfl (fun K hK => ?_) ?_
                · go_simp
                  refine hK.out _ _ ?_ (fun hHeld => ?_)
                  · exact trivial
                  clear hK K
                  (try simp only [Act.put, List.setIfInBounds_toArray, List.set_cons_zero, List.set_cons_succ])
                  refine wpAnyH_ready (rs := [8]) (by kernel_rfl) (by simp) ?_
                  refine AllReadyH.cons (o := _) rfl (fun K hK => ?_) ?_
                  · go_simp
                    refine hK.out _ _ ?_ (fun hHeld => ?_)
                    · exact trivial
                    clear hK K
                    (try simp only [Act.put, List.setIfInBounds_toArray, List.set_cons_zero, List.set_cons_succ])
                    refine wpAnyH_take (i := 9) (oi := ⟨some 79, _, _, _, _, _⟩) (v := ?_) rfl (by kernel_rfl) (by kernel_rfl) (by kernel_rfl) (fun _ _ _ h => h) (Or.inl ⟨by rfl, ?_⟩) (by assumption) ?_
                    rotate_left 1
                    · intro w hSw
                      (try dsimp only at hSw)
                      go_simp
                      all_goals with_reducible rfl
                    (try simp only [Act.put, List.setIfInBounds_toArray, List.set_cons_zero, List.set_cons_succ])
                    refine wpAnyH_take (i := 10) (oi := ⟨some 80, _, _, _, _, _⟩) (v := ?_) rfl (by kernel_rfl) (by kernel_rfl) (by kernel_rfl) (fun _ _ _ h => h) (Or.inl ⟨by rfl, ?_⟩) (by assumption) ?_
                    rotate_left 1
                    · intro w hSw
                      (try dsimp only at hSw)
                      go_simp
                      all_goals with_reducible rfl
                    (try simp only [Act.put, List.setIfInBounds_toArray, List.set_cons_zero, List.set_cons_succ])
                    refine wpAnyH_ready (rs := [11]) (by kernel_rfl) (by simp) ?_
                    refine AllReadyH.cons (o := _) rfl (fun K hK => ?_) ?_
                    · go_simp
                      refine hK.out _ _ ?_ (fun hHeld => ?_)
                      · exact trivial
                      clear hK K
                      (try simp only [Act.put, List.setIfInBounds_toArray, List.set_cons_zero, List.set_cons_succ])
                      refine wpAnyH_ready (rs := [12]) (by kernel_rfl) (by simp) ?_
                      refine AllReadyH.cons (o := _) rfl (fun K hK => ?_) ?_
                      · have cK := Lib.hid (copied_own p' ar ca xs W3.drew (HI3.out.below (Below.refl _ _).drew (Nat.le_refl _)) (by omega))
                        go_simp
                        with_reducible refine cK.out.mono ?_
                        rintro e w5 ⟨a5, c5, rfl, hI5, hb5⟩
                        have hb35 : Below W3.heap.size W3 w5 := (Below.refl _ _).drew.trans hb5
                        have q0 := on_cell hb35 q0
                        have cY := Lib.hid (HH.out.call j X τr W3 w5 _ ((i : Int), bt) (p', xs) a5 c5 HIW3.out hb35 HX.out (by simp only [Int.toNat_natCast]; exact HBt.out) (by simp only [Int.toNat_natCast]; exact HRow.out) hI5)
                        clear cK hI5 hb5 hb35
                        refine hK.out _ _ ?_ (fun hHeld => ?_)
                        · exact trivial
                        clear hK K
                        (try simp only [Act.put, List.setIfInBounds_toArray, List.set_cons_zero, List.set_cons_succ])
                        refine wpAnyH_ready (rs := [13]) (by kernel_rfl) (by simp) ?_
                        refine AllReadyH.cons (o := _) rfl (fun K hK => ?_) ?_
                        · go_simp
                          with_reducible refine cY.out.mono ?_
                          rintro e w6 ⟨more, τ6, σ6, rfl, hmore⟩
                          have HM := Lib.hid hmore
                          clear hmore cY
                          refine hK.out _ _ ?_ (fun hHeld => ?_)
                          · exact trivial
                          clear hK K
                          (try simp only [Act.put, List.setIfInBounds_toArray, List.set_cons_zero, List.set_cons_succ])
                          refine wpAnyH_take (i := 14) (oi := ⟨some 84, _, _, _, _, _⟩) (v := ?_) rfl (by kernel_rfl) (by kernel_rfl) (by kernel_rfl) (fun _ _ _ h => h) (Or.inl ⟨by rfl, ?_⟩) (by assumption) ?_
                          rotate_left 1
                          · intro w hSw
                            (try dsimp only at hSw)
                            go_simp
                            all_goals with_reducible rfl
                          (try simp only [Act.put, List.setIfInBounds_toArray, List.set_cons_zero, List.set_cons_succ])
                          refine wpAnyH_done (by kernel_rfl) ?_ _
                          refine NoPanic.normal ?_
                          have hM := HM.out
                          rcases hM with ⟨rfl, hM⟩ | ⟨rfl, hM⟩
                          · have HM2 := Lib.hid hM
                            clear hM HM
                            go_wp2_with fail
                            go_roundw
                            case rel => exact ⟨j + 1, τ6, σ6, by omega, by go_num, HM2⟩
                            case measure => simp [intOf]; omega
                          · have HM2 := Lib.hid hM
                            clear hM HM
                            go_wp2_with fail
                            first
                              | refine bodyPost_end (v := .tuple #[]) (results_none Try.results32 _ _ _) rfl ?_
                              | refine bodyPost_ret (v := .tuple #[]) (results_none Try.results32 _ _ _) rfl ?_
                            exact ⟨rfl, τ6, HM2.out⟩
                        exact AllReadyH.nil
                      exact AllReadyH.nil
                    exact AllReadyH.nil
                  exact AllReadyH.nil
                refine AllReadyH.cons (o := _) rfl (fun K hK => ?_) ?_
                · go_simp
                  refine hK.out _ _ ?_ (fun hHeld => ?_)
                  · exact trivial
                  clear hK K
                  (try simp only [Act.put, List.setIfInBounds_toArray, List.set_cons_zero, List.set_cons_succ])
                  refine wpAnyH_take (i := 9) (oi := ⟨some 79, _, _, _, _, _⟩) (v := ?_) rfl (by kernel_rfl) (by kernel_rfl) (by kernel_rfl) (fun _ _ _ h => h) (Or.inl ⟨by rfl, ?_⟩) (by assumption) ?_
                  rotate_left 1
                  · intro w hSw
                    (try dsimp only at hSw)
                    go_simp
                    all_goals with_reducible rfl
                  (try simp only [Act.put, List.setIfInBounds_toArray, List.set_cons_zero, List.set_cons_succ])
                  refine wpAnyH_take (i := 10) (oi := ⟨some 80, _, _, _, _, _⟩) (v := ?_) rfl (by kernel_rfl) (by kernel_rfl) (by kernel_rfl) (fun _ _ _ h => h) (Or.inl ⟨by rfl, ?_⟩) (by assumption) ?_
                  rotate_left 1
                  · intro w hSw
                    (try dsimp only at hSw)
                    go_simp
                    all_goals with_reducible rfl
                  (try simp only [Act.put, List.setIfInBounds_toArray, List.set_cons_zero, List.set_cons_succ])
                  refine wpAnyH_ready (rs := [2, 11]) (by kernel_rfl) (by simp) ?_
                  refine AllReadyH.cons (o := _) rfl (fun K hK => ?_) ?_
                  · go_simp
                    refine hK.out _ _ ?_ (fun hHeld => ?_)
                    · exact trivial
                    clear hK K
                    (try simp only [Act.put, List.setIfInBounds_toArray, List.set_cons_zero, List.set_cons_succ])
                    refine wpAnyH_ready (rs := [11]) (by kernel_rfl) (by simp) ?_
                    refine AllReadyH.cons (o := _) rfl (fun K hK => ?_) ?_
                    · go_simp
                      refine hK.out _ _ ?_ (fun hHeld => ?_)
                      · exact trivial
                      clear hK K
                      (try simp only [Act.put, List.setIfInBounds_toArray, List.set_cons_zero, List.set_cons_succ])
                      refine wpAnyH_ready (rs := [12]) (by kernel_rfl) (by simp) ?_
                      refine AllReadyH.cons (o := _) rfl (fun K hK => ?_) ?_
                      · have cK := Lib.hid (copied_own p' ar ca xs W3.drew (HI3.out.below (Below.refl _ _).drew (Nat.le_refl _)) (by omega))
                        go_simp
                        with_reducible refine cK.out.mono ?_
                        rintro e w5 ⟨a5, c5, rfl, hI5, hb5⟩
                        have hb35 : Below W3.heap.size W3 w5 := (Below.refl _ _).drew.trans hb5
                        have q0 := on_cell hb35 q0
                        have cY := Lib.hid (HH.out.call j X τr W3 w5 _ ((i : Int), bt) (p', xs) a5 c5 HIW3.out hb35 HX.out (by simp only [Int.toNat_natCast]; exact HBt.out) (by simp only [Int.toNat_natCast]; exact HRow.out) hI5)
                        clear cK hI5 hb5 hb35
                        refine hK.out _ _ ?_ (fun hHeld => ?_)
                        · exact trivial
                        clear hK K
                        (try simp only [Act.put, List.setIfInBounds_toArray, List.set_cons_zero, List.set_cons_succ])
                        refine wpAnyH_ready (rs := [13]) (by kernel_rfl) (by simp) ?_
                        refine AllReadyH.cons (o := _) rfl (fun K hK => ?_) ?_
                        · go_simp
                          with_reducible refine cY.out.mono ?_
                          rintro e w6 ⟨more, τ6, σ6, rfl, hmore⟩
                          have HM := Lib.hid hmore
                          clear hmore cY
                          refine hK.out _ _ ?_ (fun hHeld => ?_)
                          · exact trivial
                          clear hK K
                          (try simp only [Act.put, List.setIfInBounds_toArray, List.set_cons_zero, List.set_cons_succ])
                          refine wpAnyH_take (i := 14) (oi := ⟨some 84, _, _, _, _, _⟩) (v := ?_) rfl (by kernel_rfl) (by kernel_rfl) (by kernel_rfl) (fun _ _ _ h => h) (Or.inl ⟨by rfl, ?_⟩) (by assumption) ?_
                          rotate_left 1
                          · intro w hSw
                            (try dsimp only at hSw)
                            go_simp
                            all_goals with_reducible rfl
                          (try simp only [Act.put, List.setIfInBounds_toArray, List.set_cons_zero, List.set_cons_succ])
                          refine wpAnyH_done (by kernel_rfl) ?_ _
                          refine NoPanic.normal ?_
                          have hM := HM.out
                          rcases hM with ⟨rfl, hM⟩ | ⟨rfl, hM⟩
                          · have HM2 := Lib.hid hM
                            clear hM HM
                            go_wp2_with fail
                            go_roundw
                            case rel => exact ⟨j + 1, τ6, σ6, by omega, by go_num, HM2⟩
                            case measure => simp [intOf]; omega
                          · have HM2 := Lib.hid hM
                            clear hM HM
                            go_wp2_with fail
                            first
                              | refine bodyPost_end (v := .tuple #[]) (results_none Try.results32 _ _ _) rfl ?_
                              | refine bodyPost_ret (v := .tuple #[]) (results_none Try.results32 _ _ _) rfl ?_
                            exact ⟨rfl, τ6, HM2.out⟩
                        exact AllReadyH.nil
                      exact AllReadyH.nil
                    exact AllReadyH.nil
                  refine AllReadyH.cons (o := _) rfl (fun K hK => ?_) ?_
                  · go_simp
                    refine hK.out _ _ ?_ (fun hHeld => ?_)
                    · exact trivial
                    clear hK K
                    (try simp only [Act.put, List.setIfInBounds_toArray, List.set_cons_zero, List.set_cons_succ])
                    refine wpAnyH_ready (rs := [2, 12]) (by kernel_rfl) (by simp) ?_
                    refine AllReadyH.cons (o := _) rfl (fun K hK => ?_) ?_
                    · go_simp
                      refine hK.out _ _ ?_ (fun hHeld => ?_)
                      · exact trivial
                      clear hK K
                      (try simp only [Act.put, List.setIfInBounds_toArray, List.set_cons_zero, List.set_cons_succ])
                      refine wpAnyH_ready (rs := [12]) (by kernel_rfl) (by simp) ?_
                      refine AllReadyH.cons (o := _) rfl (fun K hK => ?_) ?_
                      · have cK := Lib.hid (copied_own p' ar ca xs W3.drew (HI3.out.below (Below.refl _ _).drew (Nat.le_refl _)) (by omega))
                        go_simp
                        with_reducible refine cK.out.mono ?_
                        rintro e w5 ⟨a5, c5, rfl, hI5, hb5⟩
                        have hb35 : Below W3.heap.size W3 w5 := (Below.refl _ _).drew.trans hb5
                        have q0 := on_cell hb35 q0
                        have cY := Lib.hid (HH.out.call j X τr W3 w5 _ ((i : Int), bt) (p', xs) a5 c5 HIW3.out hb35 HX.out (by simp only [Int.toNat_natCast]; exact HBt.out) (by simp only [Int.toNat_natCast]; exact HRow.out) hI5)
                        clear cK hI5 hb5 hb35
                        refine hK.out _ _ ?_ (fun hHeld => ?_)
                        · exact trivial
                        clear hK K
                        (try simp only [Act.put, List.setIfInBounds_toArray, List.set_cons_zero, List.set_cons_succ])
                        refine wpAnyH_ready (rs := [13]) (by kernel_rfl) (by simp) ?_
                        refine AllReadyH.cons (o := _) rfl (fun K hK => ?_) ?_
                        · go_simp
                          with_reducible refine cY.out.mono ?_
                          rintro e w6 ⟨more, τ6, σ6, rfl, hmore⟩
                          have HM := Lib.hid hmore
                          clear hmore cY
                          refine hK.out _ _ ?_ (fun hHeld => ?_)
                          · exact trivial
                          clear hK K
                          (try simp only [Act.put, List.setIfInBounds_toArray, List.set_cons_zero, List.set_cons_succ])
                          refine wpAnyH_take (i := 14) (oi := ⟨some 84, _, _, _, _, _⟩) (v := ?_) rfl (by kernel_rfl) (by kernel_rfl) (by kernel_rfl) (fun _ _ _ h => h) (Or.inl ⟨by rfl, ?_⟩) (by assumption) ?_
                          rotate_left 1
                          · intro w hSw
                            (try dsimp only at hSw)
                            go_simp
                            all_goals with_reducible rfl
                          (try simp only [Act.put, List.setIfInBounds_toArray, List.set_cons_zero, List.set_cons_succ])
                          refine wpAnyH_done (by kernel_rfl) ?_ _
                          refine NoPanic.normal ?_
                          have hM := HM.out
                          rcases hM with ⟨rfl, hM⟩ | ⟨rfl, hM⟩
                          · have HM2 := Lib.hid hM
                            clear hM HM
                            go_wp2_with fail
                            go_roundw
                            case rel => exact ⟨j + 1, τ6, σ6, by omega, by go_num, HM2⟩
                            case measure => simp [intOf]; omega
                          · have HM2 := Lib.hid hM
                            clear hM HM
                            go_wp2_with fail
                            first
                              | refine bodyPost_end (v := .tuple #[]) (results_none Try.results32 _ _ _) rfl ?_
                              | refine bodyPost_ret (v := .tuple #[]) (results_none Try.results32 _ _ _) rfl ?_
                            exact ⟨rfl, τ6, HM2.out⟩
                        exact AllReadyH.nil
                      exact AllReadyH.nil
                    refine AllReadyH.cons (o := _) rfl (fun K hK => ?_) ?_
                    · have cK := Lib.hid (copied_own p' ar ca xs W3.drew (HI3.out.below (Below.refl _ _).drew (Nat.le_refl _)) (by omega))
                      go_simp
                      with_reducible refine cK.out.mono ?_
                      rintro e w5 ⟨a5, c5, rfl, hI5, hb5⟩
                      have hb35 : Below W3.heap.size W3 w5 := (Below.refl _ _).drew.trans hb5
                      have q0 := on_cell hb35 q0
                      have cY := Lib.hid (HH.out.call j X τr W3 w5 _ ((i : Int), bt) (p', xs) a5 c5 HIW3.out hb35 HX.out (by simp only [Int.toNat_natCast]; exact HBt.out) (by simp only [Int.toNat_natCast]; exact HRow.out) hI5)
                      clear cK hI5 hb5 hb35
                      refine hK.out _ _ ?_ (fun hHeld => ?_)
                      · exact trivial
                      clear hK K
                      (try simp only [Act.put, List.setIfInBounds_toArray, List.set_cons_zero, List.set_cons_succ])
                      refine wpAnyH_ready (rs := [2]) (by kernel_rfl) (by simp) ?_
                      refine AllReadyH.cons (o := _) rfl (fun K hK => ?_) ?_
                      · go_simp
                        refine hK.out _ _ ?_ (fun hHeld => ?_)
                        · exact trivial
                        clear hK K
                        (try simp only [Act.put, List.setIfInBounds_toArray, List.set_cons_zero, List.set_cons_succ])
                        refine wpAnyH_ready (rs := [13]) (by kernel_rfl) (by simp) ?_
                        refine AllReadyH.cons (o := _) rfl (fun K hK => ?_) ?_
                        · go_simp
                          with_reducible refine cY.out.mono ?_
                          rintro e w6 ⟨more, τ6, σ6, rfl, hmore⟩
                          have HM := Lib.hid hmore
                          clear hmore cY
                          refine hK.out _ _ ?_ (fun hHeld => ?_)
                          · exact trivial
                          clear hK K
                          (try simp only [Act.put, List.setIfInBounds_toArray, List.set_cons_zero, List.set_cons_succ])
                          refine wpAnyH_take (i := 14) (oi := ⟨some 84, _, _, _, _, _⟩) (v := ?_) rfl (by kernel_rfl) (by kernel_rfl) (by kernel_rfl) (fun _ _ _ h => h) (Or.inl ⟨by rfl, ?_⟩) (by assumption) ?_
                          rotate_left 1
                          · intro w hSw
                            (try dsimp only at hSw)
                            go_simp
                            all_goals with_reducible rfl
                          (try simp only [Act.put, List.setIfInBounds_toArray, List.set_cons_zero, List.set_cons_succ])
                          refine wpAnyH_done (by kernel_rfl) ?_ _
                          refine NoPanic.normal ?_
                          have hM := HM.out
                          rcases hM with ⟨rfl, hM⟩ | ⟨rfl, hM⟩
                          · have HM2 := Lib.hid hM
                            clear hM HM
                            go_wp2_with fail
                            go_roundw
                            case rel => exact ⟨j + 1, τ6, σ6, by omega, by go_num, HM2⟩
                            case measure => simp [intOf]; omega
                          · have HM2 := Lib.hid hM
                            clear hM HM
                            go_wp2_with fail
                            first
                              | refine bodyPost_end (v := .tuple #[]) (results_none Try.results32 _ _ _) rfl ?_
                              | refine bodyPost_ret (v := .tuple #[]) (results_none Try.results32 _ _ _) rfl ?_
                            exact ⟨rfl, τ6, HM2.out⟩
                        exact AllReadyH.nil
                      exact AllReadyH.nil
                    exact AllReadyH.nil
                  exact AllReadyH.nil
                exact AllReadyH.nil
              refine AllReadyH.cons (o := _) rfl (fun K hK => ?_) ?_
              · go_simp
                refine hK.out _ _ ?_ (fun hHeld => ?_)
                · exact trivial
                clear hK K
                (try simp only [Act.put, List.setIfInBounds_toArray, List.set_cons_zero, List.set_cons_succ])
                refine wpAnyH_ready (rs := [2, 6]) (by kernel_rfl) (by simp) ?_
                refine AllReadyH.cons (o := _) rfl (fun K hK => ?_) ?_
                · go_simp
                  refine hK.out _ _ ?_ (fun hHeld => ?_)
                  · exact trivial
                  clear hK K
                  (try simp only [Act.put, List.setIfInBounds_toArray, List.set_cons_zero, List.set_cons_succ])
                  refine wpAnyH_ready (rs := [6]) (by kernel_rfl) (by simp) ?_
                  refine AllReadyH.cons (o := _) rfl (fun K hK => ?_) ?_
                  · go_simp
                    refine hK.out _ _ ?_ (fun hHeld => ?_)
                    · exact trivial
                    clear hK K
                    (try simp only [Act.put, List.setIfInBounds_toArray, List.set_cons_zero, List.set_cons_succ])
                    refine wpAnyH_take (i := 9) (oi := ⟨some 79, _, _, _, _, _⟩) (v := ?_) rfl (by kernel_rfl) (by kernel_rfl) (by kernel_rfl) (fun _ _ _ h => h) (Or.inl ⟨by rfl, ?_⟩) (by assumption) ?_
                    rotate_left 1
                    · intro w hSw
                      (try dsimp only at hSw)
                      go_simp
                      all_goals with_reducible rfl
                    (try simp only [Act.put, List.setIfInBounds_toArray, List.set_cons_zero, List.set_cons_succ])
                    refine wpAnyH_take (i := 10) (oi := ⟨some 80, _, _, _, _, _⟩) (v := ?_) rfl (by kernel_rfl) (by kernel_rfl) (by kernel_rfl) (fun _ _ _ h => h) (Or.inl ⟨by rfl, ?_⟩) (by assumption) ?_
                    rotate_left 1
                    · intro w hSw
                      (try dsimp only at hSw)
                      go_simp
                      all_goals with_reducible rfl
                    (try simp only [Act.put, List.setIfInBounds_toArray, List.set_cons_zero, List.set_cons_succ])
                    refine wpAnyH_ready (rs := [11]) (by kernel_rfl) (by simp) ?_
                    refine AllReadyH.cons (o := _) rfl (fun K hK => ?_) ?_
                    · go_simp
                      refine hK.out _ _ ?_ (fun hHeld => ?_)
                      · exact trivial
                      clear hK K
                      (try simp only [Act.put, List.setIfInBounds_toArray, List.set_cons_zero, List.set_cons_succ])
                      refine wpAnyH_ready (rs := [12]) (by kernel_rfl) (by simp) ?_
                      refine AllReadyH.cons (o := _) rfl (fun K hK => ?_) ?_
                      · have cK := Lib.hid (copied_own p' ar ca xs W3.drew (HI3.out.below (Below.refl _ _).drew (Nat.le_refl _)) (by omega))
                        go_simp
                        with_reducible refine cK.out.mono ?_
                        rintro e w5 ⟨a5, c5, rfl, hI5, hb5⟩
                        have hb35 : Below W3.heap.size W3 w5 := (Below.refl _ _).drew.trans hb5
                        have q0 := on_cell hb35 q0
                        have cY := Lib.hid (HH.out.call j X τr W3 w5 _ ((i : Int), bt) (p', xs) a5 c5 HIW3.out hb35 HX.out (by simp only [Int.toNat_natCast]; exact HBt.out) (by simp only [Int.toNat_natCast]; exact HRow.out) hI5)
                        clear cK hI5 hb5 hb35
                        refine hK.out _ _ ?_ (fun hHeld => ?_)
                        · exact trivial
                        clear hK K
                        (try simp only [Act.put, List.setIfInBounds_toArray, List.set_cons_zero, List.set_cons_succ])
                        refine wpAnyH_ready (rs := [13]) (by kernel_rfl) (by simp) ?_
                        refine AllReadyH.cons (o := _) rfl (fun K hK => ?_) ?_
                        · go_simp
                          with_reducible refine cY.out.mono ?_
                          rintro e w6 ⟨more, τ6, σ6, rfl, hmore⟩
                          have HM := Lib.hid hmore
                          clear hmore cY
                          refine hK.out _ _ ?_ (fun hHeld => ?_)
                          · exact trivial
                          clear hK K
                          (try simp only [Act.put, List.setIfInBounds_toArray, List.set_cons_zero, List.set_cons_succ])
                          refine wpAnyH_take (i := 14) (oi := ⟨some 84, _, _, _, _, _⟩) (v := ?_) rfl (by kernel_rfl) (by kernel_rfl) (by kernel_rfl) (fun _ _ _ h => h) (Or.inl ⟨by rfl, ?_⟩) (by assumption) ?_
                          rotate_left 1
                          · intro w hSw
                            (try dsimp only at hSw)
                            go_simp
                            all_goals with_reducible rfl
                          (try simp only [Act.put, List.setIfInBounds_toArray, List.set_cons_zero, List.set_cons_succ])
                          refine wpAnyH_done (by kernel_rfl) ?_ _
                          refine NoPanic.normal ?_
                          have hM := HM.out
                          rcases hM with ⟨rfl, hM⟩ | ⟨rfl, hM⟩
                          · have HM2 := Lib.hid hM
                            clear hM HM
                            go_wp2_with fail
                            go_roundw
                            case rel => exact ⟨j + 1, τ6, σ6, by omega, by go_num, HM2⟩
                            case measure => simp [intOf]; omega
                          · have HM2 := Lib.hid hM
                            clear hM HM
                            go_wp2_with fail
                            first
                              | refine bodyPost_end (v := .tuple #[]) (results_none Try.results32 _ _ _) rfl ?_
                              | refine bodyPost_ret (v := .tuple #[]) (results_none Try.results32 _ _ _) rfl ?_
                            exact ⟨rfl, τ6, HM2.out⟩
                        exact AllReadyH.nil
                      exact AllReadyH.nil
                    exact AllReadyH.nil
                  exact AllReadyH.nil
                refine AllReadyH.cons (o := _) rfl (fun K hK => ?_) ?_
                · go_simp
                  refine hK.out _ _ ?_ (fun hHeld => ?_)
                  · exact trivial
                  clear hK K
                  (try simp only [Act.put, List.setIfInBounds_toArray, List.set_cons_zero, List.set_cons_succ])
                  refine wpAnyH_take (i := 9) (oi := ⟨some 79, _, _, _, _, _⟩) (v := ?_) rfl (by kernel_rfl) (by kernel_rfl) (by kernel_rfl) (fun _ _ _ h => h) (Or.inl ⟨by rfl, ?_⟩) (by assumption) ?_
                  rotate_left 1
                  · intro w hSw
                    (try dsimp only at hSw)
                    go_simp
                    all_goals with_reducible rfl
                  (try simp only [Act.put, List.setIfInBounds_toArray, List.set_cons_zero, List.set_cons_succ])
                  refine wpAnyH_take (i := 10) (oi := ⟨some 80, _, _, _, _, _⟩) (v := ?_) rfl (by kernel_rfl) (by kernel_rfl) (by kernel_rfl) (fun _ _ _ h => h) (Or.inl ⟨by rfl, ?_⟩) (by assumption) ?_
                  rotate_left 1
                  · intro w hSw
                    (try dsimp only at hSw)
                    go_simp
                    all_goals with_reducible rfl
                  (try simp only [Act.put, List.setIfInBounds_toArray, List.set_cons_zero, List.set_cons_succ])
                  refine wpAnyH_ready (rs := [2, 11]) (by kernel_rfl) (by simp) ?_
                  refine AllReadyH.cons (o := _) rfl (fun K hK => ?_) ?_
                  · go_simp
                    refine hK.out _ _ ?_ (fun hHeld => ?_)
                    · exact trivial
                    clear hK K
                    (try simp only [Act.put, List.setIfInBounds_toArray, List.set_cons_zero, List.set_cons_succ])
                    refine wpAnyH_ready (rs := [11]) (by kernel_rfl) (by simp) ?_
                    refine AllReadyH.cons (o := _) rfl (fun K hK => ?_) ?_
                    · go_simp
                      refine hK.out _ _ ?_ (fun hHeld => ?_)
                      · exact trivial
                      clear hK K
                      (try simp only [Act.put, List.setIfInBounds_toArray, List.set_cons_zero, List.set_cons_succ])
                      refine wpAnyH_ready (rs := [12]) (by kernel_rfl) (by simp) ?_
                      refine AllReadyH.cons (o := _) rfl (fun K hK => ?_) ?_
                      · have cK := Lib.hid (copied_own p' ar ca xs W3.drew (HI3.out.below (Below.refl _ _).drew (Nat.le_refl _)) (by omega))
                        go_simp
                        with_reducible refine cK.out.mono ?_
                        rintro e w5 ⟨a5, c5, rfl, hI5, hb5⟩
                        have hb35 : Below W3.heap.size W3 w5 := (Below.refl _ _).drew.trans hb5
                        have q0 := on_cell hb35 q0
                        have cY := Lib.hid (HH.out.call j X τr W3 w5 _ ((i : Int), bt) (p', xs) a5 c5 HIW3.out hb35 HX.out (by simp only [Int.toNat_natCast]; exact HBt.out) (by simp only [Int.toNat_natCast]; exact HRow.out) hI5)
                        clear cK hI5 hb5 hb35
                        refine hK.out _ _ ?_ (fun hHeld => ?_)
                        · exact trivial
                        clear hK K
                        (try simp only [Act.put, List.setIfInBounds_toArray, List.set_cons_zero, List.set_cons_succ])
                        refine wpAnyH_ready (rs := [13]) (by kernel_rfl) (by simp) ?_
                        refine AllReadyH.cons (o := _) rfl (fun K hK => ?_) ?_
                        · go_simp
                          with_reducible refine cY.out.mono ?_
                          rintro e w6 ⟨more, τ6, σ6, rfl, hmore⟩
                          have HM := Lib.hid hmore
                          clear hmore cY
                          refine hK.out _ _ ?_ (fun hHeld => ?_)
                          · exact trivial
                          clear hK K
                          (try simp only [Act.put, List.setIfInBounds_toArray, List.set_cons_zero, List.set_cons_succ])
                          refine wpAnyH_take (i := 14) (oi := ⟨some 84, _, _, _, _, _⟩) (v := ?_) rfl (by kernel_rfl) (by kernel_rfl) (by kernel_rfl) (fun _ _ _ h => h) (Or.inl ⟨by rfl, ?_⟩) (by assumption) ?_
                          rotate_left 1
                          · intro w hSw
                            (try dsimp only at hSw)
                            go_simp
                            all_goals with_reducible rfl
                          (try simp only [Act.put, List.setIfInBounds_toArray, List.set_cons_zero, List.set_cons_succ])
                          refine wpAnyH_done (by kernel_rfl) ?_ _
                          refine NoPanic.normal ?_
                          have hM := HM.out
                          rcases hM with ⟨rfl, hM⟩ | ⟨rfl, hM⟩
                          · have HM2 := Lib.hid hM
                            clear hM HM
                            go_wp2_with fail
                            go_roundw
                            case rel => exact ⟨j + 1, τ6, σ6, by omega, by go_num, HM2⟩
                            case measure => simp [intOf]; omega
                          · have HM2 := Lib.hid hM
                            clear hM HM
                            go_wp2_with fail
                            first
                              | refine bodyPost_end (v := .tuple #[]) (results_none Try.results32 _ _ _) rfl ?_
                              | refine bodyPost_ret (v := .tuple #[]) (results_none Try.results32 _ _ _) rfl ?_
                            exact ⟨rfl, τ6, HM2.out⟩
                        exact AllReadyH.nil
                      exact AllReadyH.nil
                    exact AllReadyH.nil
                  refine AllReadyH.cons (o := _) rfl (fun K hK => ?_) ?_
                  · go_simp
                    refine hK.out _ _ ?_ (fun hHeld => ?_)
                    · exact trivial
                    clear hK K
                    (try simp only [Act.put, List.setIfInBounds_toArray, List.set_cons_zero, List.set_cons_succ])
                    refine wpAnyH_ready (rs := [2, 12]) (by kernel_rfl) (by simp) ?_
                    refine AllReadyH.cons (o := _) rfl (fun K hK => ?_) ?_
                    · go_simp
                      refine hK.out _ _ ?_ (fun hHeld => ?_)
                      · exact trivial
                      clear hK K
                      (try simp only [Act.put, List.setIfInBounds_toArray, List.set_cons_zero, List.set_cons_succ])
                      refine wpAnyH_ready (rs := [12]) (by kernel_rfl) (by simp) ?_
                      refine AllReadyH.cons (o := _) rfl (fun K hK => ?_) ?_
                      · have cK := Lib.hid (copied_own p' ar ca xs W3.drew (HI3.out.below (Below.refl _ _).drew (Nat.le_refl _)) (by omega))
                        go_simp
                        with_reducible refine cK.out.mono ?_
                        rintro e w5 ⟨a5, c5, rfl, hI5, hb5⟩
                        have hb35 : Below W3.heap.size W3 w5 := (Below.refl _ _).drew.trans hb5
                        have q0 := on_cell hb35 q0
                        have cY := Lib.hid (HH.out.call j X τr W3 w5 _ ((i : Int), bt) (p', xs) a5 c5 HIW3.out hb35 HX.out (by simp only [Int.toNat_natCast]; exact HBt.out) (by simp only [Int.toNat_natCast]; exact HRow.out) hI5)
                        clear cK hI5 hb5 hb35
                        refine hK.out _ _ ?_ (fun hHeld => ?_)
                        · exact trivial
                        clear hK K
                        (try simp only [Act.put, List.setIfInBounds_toArray, List.set_cons_zero, List.set_cons_succ])
                        refine wpAnyH_ready (rs := [13]) (by kernel_rfl) (by simp) ?_
                        refine AllReadyH.cons (o := _) rfl (fun K hK => ?_) ?_
                        · go_simp
                          with_reducible refine cY.out.mono ?_
                          rintro e w6 ⟨more, τ6, σ6, rfl, hmore⟩
                          have HM := Lib.hid hmore
                          clear hmore cY
                          refine hK.out _ _ ?_ (fun hHeld => ?_)
                          · exact trivial
                          clear hK K
                          (try simp only [Act.put, List.setIfInBounds_toArray, List.set_cons_zero, List.set_cons_succ])
                          refine wpAnyH_take (i := 14) (oi := ⟨some 84, _, _, _, _, _⟩) (v := ?_) rfl (by kernel_rfl) (by kernel_rfl) (by kernel_rfl) (fun _ _ _ h => h) (Or.inl ⟨by rfl, ?_⟩) (by assumption) ?_
                          rotate_left 1
                          · intro w hSw
                            (try dsimp only at hSw)
                            go_simp
                            all_goals with_reducible rfl
                          (try simp only [Act.put, List.setIfInBounds_toArray, List.set_cons_zero, List.set_cons_succ])
                          refine wpAnyH_done (by kernel_rfl) ?_ _
                          refine NoPanic.normal ?_
                          have hM := HM.out
                          rcases hM with ⟨rfl, hM⟩ | ⟨rfl, hM⟩
                          · have HM2 := Lib.hid hM
                            clear hM HM
                            go_wp2_with fail
                            go_roundw
                            case rel => exact ⟨j + 1, τ6, σ6, by omega, by go_num, HM2⟩
                            case measure => simp [intOf]; omega
                          · have HM2 := Lib.hid hM
                            clear hM HM
                            go_wp2_with fail
                            first
                              | refine bodyPost_end (v := .tuple #[]) (results_none Try.results32 _ _ _) rfl ?_
                              | refine bodyPost_ret (v := .tuple #[]) (results_none Try.results32 _ _ _) rfl ?_
                            exact ⟨rfl, τ6, HM2.out⟩
                        exact AllReadyH.nil
                      exact AllReadyH.nil
                    refine AllReadyH.cons (o := _) rfl (fun K hK => ?_) ?_
                    · have cK := Lib.hid (copied_own p' ar ca xs W3.drew (HI3.out.below (Below.refl _ _).drew (Nat.le_refl _)) (by omega))
                      go_simp
                      with_reducible refine cK.out.mono ?_
                      rintro e w5 ⟨a5, c5, rfl, hI5, hb5⟩
                      have hb35 : Below W3.heap.size W3 w5 := (Below.refl _ _).drew.trans hb5
                      have q0 := on_cell hb35 q0
                      have cY := Lib.hid (HH.out.call j X τr W3 w5 _ ((i : Int), bt) (p', xs) a5 c5 HIW3.out hb35 HX.out (by simp only [Int.toNat_natCast]; exact HBt.out) (by simp only [Int.toNat_natCast]; exact HRow.out) hI5)
                      clear cK hI5 hb5 hb35
                      refine hK.out _ _ ?_ (fun hHeld => ?_)
                      · exact trivial
                      clear hK K
                      (try simp only [Act.put, List.setIfInBounds_toArray, List.set_cons_zero, List.set_cons_succ])
                      refine wpAnyH_ready (rs := [2]) (by kernel_rfl) (by simp) ?_
                      refine AllReadyH.cons (o := _) rfl (fun K hK => ?_) ?_
                      · go_simp
                        refine hK.out _ _ ?_ (fun hHeld => ?_)
                        · exact trivial
                        clear hK K
                        (try simp only [Act.put, List.setIfInBounds_toArray, List.set_cons_zero, List.set_cons_succ])
                        refine wpAnyH_ready (rs := [13]) (by kernel_rfl) (by simp) ?_
                        refine AllReadyH.cons (o := _) rfl (fun K hK => ?_) ?_
                        · go_simp
                          with_reducible refine cY.out.mono ?_
                          rintro e w6 ⟨more, τ6, σ6, rfl, hmore⟩
                          have HM := Lib.hid hmore
                          clear hmore cY
                          refine hK.out _ _ ?_ (fun hHeld => ?_)
                          · exact trivial
                          clear hK K
                          (try simp only [Act.put, List.setIfInBounds_toArray, List.set_cons_zero, List.set_cons_succ])
                          refine wpAnyH_take (i := 14) (oi := ⟨some 84, _, _, _, _, _⟩) (v := ?_) rfl (by kernel_rfl) (by kernel_rfl) (by kernel_rfl) (fun _ _ _ h => h) (Or.inl ⟨by rfl, ?_⟩) (by assumption) ?_
                          rotate_left 1
                          · intro w hSw
                            (try dsimp only at hSw)
                            go_simp
                            all_goals with_reducible rfl
                          (try simp only [Act.put, List.setIfInBounds_toArray, List.set_cons_zero, List.set_cons_succ])
                          refine wpAnyH_done (by kernel_rfl) ?_ _
                          refine NoPanic.normal ?_
                          have hM := HM.out
                          rcases hM with ⟨rfl, hM⟩ | ⟨rfl, hM⟩
                          · have HM2 := Lib.hid hM
                            clear hM HM
                            go_wp2_with fail
                            go_roundw
                            case rel => exact ⟨j + 1, τ6, σ6, by omega, by go_num, HM2⟩
                            case measure => simp [intOf]; omega
                          · have HM2 := Lib.hid hM
                            clear hM HM
                            go_wp2_with fail
                            first
                              | refine bodyPost_end (v := .tuple #[]) (results_none Try.results32 _ _ _) rfl ?_
                              | refine bodyPost_ret (v := .tuple #[]) (results_none Try.results32 _ _ _) rfl ?_
                            exact ⟨rfl, τ6, HM2.out⟩
                        exact AllReadyH.nil
                      exact AllReadyH.nil
                    exact AllReadyH.nil
                  exact AllReadyH.nil
                exact AllReadyH.nil
              exact AllReadyH.nil
            · have hne : (bt != x2) = true := by simpa using hbirth
              go_quiet (fail)
              go_wp2_with fail
              go_roundw
              case rel => exact ⟨j + 1, τr, σ', by omega, by go_num, Lib.hid (HH.out.stay _ _ _ _ _ _ (HH.out.skip _ _ _ _ _ _ HIW.out HX.out (by simp only [Int.toNat_natCast]; rw [HBt.out]; simpa using hbirth)) (below_drewN (Below.refl _ _) nq))⟩
              case measure => simp [intOf]; omega
          · have hd : decide ((i : Int) < (σ'.rows.length : Int)) = false := by simpa using hin
            have hd2 : decide ((σ'.rows.length : Int) ≤ (i : Int)) = true := by simp; omega
            have hd3 : (σ'.rows.length : Int) ≤ (i : Int) := by omega
            go_quiet (fail)
            go_wp2_with fail
            go_roundw
            case rel => exact ⟨j + 1, τr, σ', by omega, by go_num, Lib.hid (HH.out.stay _ _ _ _ _ _ (HH.out.skip _ _ _ _ _ _ HIW.out HX.out (by
              simp only [Int.toNat_natCast]
              rw [List.getElem?_eq_none (by rw [HS'.out.sound.born]; omega)]
              simp)) (below_drewN (Below.refl _ _) nq))⟩
            case measure => simp [intOf]; omega
        · have hje : j = T.length := by omega
          subst hje
          go_wp2_with fail
          first
            | refine bodyPost_end (v := .tuple #[]) (results_none Try.results32 _ _ _) rfl ?_
            | refine bodyPost_ret (v := .tuple #[]) (results_none Try.results32 _ _ _) rfl ?_
          exact ⟨rfl, τr, HH.out.last _ _ _ _ HIn.out⟩
end Go.Proofs.Ytgodidoibcomcaa.Bk

namespace Go.Proofs.Ytgodidoibcomcaa.Bk
open Go.RowKit Go.Proofs.Ytgodidoibcomcaa

/-- n steps from the address a on, of nesting d, that weigh u, the list itself one -/
def OpsE (w : World) : Nat → Option Addr → Nat → Nat → Prop
  | 0, _, n, u => n = 0 ∧ 1 ≤ u
  | d + 1, a, n, u => (n = 0 ∧ 1 ≤ u) ∨ ∃ b off, a = some ⟨b, off, none⟩ ∧ ∃ us : List Nat, us.length = n ∧ us.sum + 1 ≤ u ∧ ∀ (i v : Nat), us[i]? = some v → ∃ x : OpD, (∀ (j : Nat) y, x.cells[j]? = some y → w.cell? ⟨b, off + i * 8 + j, none⟩ = some y) ∧ OpIn (OpsE w d) w x v
theorem OpsE.one {w : World} {d : Nat} {a : Option Addr} {n u : Nat} (h : OpsE w d a n u) : 1 ≤ u := by
  cases d with
  | zero => exact h.2
  | succ d =>
    rcases h with h | ⟨b, off, ha, us, h1, h2, h3⟩
    · exact h.2
    · omega
theorem OpsE.at {w : World} {d : Nat} {a : Option Addr} {n u : Nat} (h : OpsE w d a n u) : n = 0 ∨ ∃ d' b off, a = some ⟨b, off, none⟩ ∧ ∃ us : List Nat, us.length = n ∧ us.sum + 1 ≤ u ∧ ∀ (i v : Nat), us[i]? = some v → ∃ x : OpD, (∀ (j : Nat) y, x.cells[j]? = some y → w.cell? ⟨b, off + i * 8 + j, none⟩ = some y) ∧ OpIn (OpsE w d') w x v := by
  cases d with
  | zero => exact .inl h.1
  | succ d =>
    rcases h with h | ⟨b, off, ha, us, h1, h2, h3⟩
    · exact .inl h.1
    · exact .inr ⟨d, b, off, ha, us, h1, h2, h3⟩
/-- a step's own weight is 9 at least: as a flat step it needs one less -/
theorem OpIn.less {w w' : World} {d : Nat} {x : OpD} {v : Nat} (h : OpIn (OpsE w d) w' x v) : 9 ≤ v ∧ OpIn (fun _ _ _ => True) w' x (v - 1) := by
  obtain ⟨h1, h0, h2, h3, h4, h5, h6, h7, u, hv, hl⟩ := h
  have := hv.one
  exact ⟨by omega, h1, h0, h2, h3, h4, h5, h6, h7, 0, trivial, by omega⟩
theorem OpsE.count {w : World} {d : Nat} {a : Option Addr} {n u : Nat} (h : OpsE w d a n u) : n ≤ u := by
  rcases h.at with h | ⟨d', b, off, -, us, h2, h3, h4⟩
  · omega
  · have h5 := sum_ge us 1 (fun v hv => by
      obtain ⟨i, hi⟩ := List.mem_iff_getElem?.1 hv
      obtain ⟨x, -, hx⟩ := h4 i v hi
      have := hx.less.1
      omega)
    omega
end Go.Proofs.Ytgodidoibcomcaa.Bk

namespace Go.Proofs.Ytgodidoibcomcaa.Bk
open Go.RowKit Go.Proofs.Ytgodidoibcomcaa

/-- a block that is none of the book's own, nor of the lists that it handed out -/
structure Far (β : Book) (g : Nat) : Prop where
  bk : g ≠ β.bk
  s : β.vS.ownBlock ≠ some g
  r : β.vR.ownBlock ≠ some g
  l : β.vL.ownBlock ≠ some g
  off : Off β (.slice (some ⟨g, 0, none⟩) 1 1)

section
variable {w0 : World} {β β' : Book} {C C' : List Box} {w w' w'' : World} {τ τ' : Own} {S : List Ent} {g : Nat}
theorem BookOk.more (B : BookOk β C) (h : ∀ x ∈ C, x ∈ C') : BookOk β C' :=
  ⟨h _ B.head, B.st.mono fun x hx _ => h x hx, B.rf.mono fun x hx _ => h x hx, B.ls.mono fun x hx _ => h x hx, fun x hx => by
    obtain ⟨xs, h1, h2⟩ := B.kept x hx
    exact ⟨xs, h1.mono fun x hx _ => h x hx, h2.mono fun x hx _ => h x hx⟩, B.many, B.pos⟩
theorem upd_same {g : Nat} {o : Obj} (hk : (C.map (·.1)).Nodup) (hx : (g, o) ∈ C) : upd C g o = C := by
  unfold upd
  conv => rhs; rw [← List.map_id C]
  apply List.map_congr_left
  intro x hxC
  split
  · rename_i e
    obtain ⟨i, hi⟩ := List.mem_iff_getElem?.1 hxC
    obtain ⟨j, hj⟩ := List.mem_iff_getElem?.1 hx
    have h1 : (C.map (·.1))[i]? = some g := by rw [List.getElem?_map, hi]; simp [e]
    have h2 : (C.map (·.1))[j]? = some g := by rw [List.getElem?_map, hj]; rfl
    have hlt : i < (C.map (·.1)).length := (List.getElem?_eq_some_iff.1 h1).1
    have := (List.getElem?_inj hlt hk).1 (h1.trans h2.symm)
    subst this
    rw [hi] at hj
    simp only [Option.some.injEq] at hj
    rw [hj]
    rfl
  · rfl
/-- a variable is written as it was -/
theorem Env.again {L : List RSl} (E : Env w0 τ w S L C) (hs : ∀ z ∈ S, z.s ≠ boxS) {g : Nat} {v : Value} {T : TypeId} (hx : (g, Obj.cells #[v] T (0, 0)) ∈ C) : Env w0 τ (w.setCell ⟨g, 0, none⟩ v) S L C := by
  have h := E.setAt hs hx 0 v
  rw [show (#[v] : Array Value).setIfInBounds 0 v = #[v] from rfl, upd_same E.keys hx] at h
  exact h
theorem Step.world (St : Step w0 β C w β' τ' C' w') (E : Env w0 τ' w'' (ents β'.ar β'.ps) [] C') (hs : w'.heap.size = w''.heap.size) : Step w0 β C w β' τ' C' w'' :=
  ⟨E, St.ok, St.bk, St.ar, hs ▸ St.size, St.old, St.gS, St.gR, St.gL, St.off⟩
theorem Far.new (E : Env w0 τ w S [] C) (B : BookOk β C) (hg : w.heap.size ≤ g) : Far β g := by
  have no : ∀ {e : TypeId} {sz n : Nat} {v : Value} {xs : List Value}, BoxRow C e sz v n xs → v.ownBlock ≠ some g := fun {e sz n v xs} h e => by
    obtain ⟨cur, hc⟩ := h.box e
    have := E.lt hc
    simp only at this
    omega
  refine ⟨fun e => ?_, no B.st, no B.rf, no B.ls, off_new E B (fun g' e => by cases e; exact hg)⟩
  have := E.lt B.head
  simp only at this
  omega
theorem Far.step (F : Far β g) (St : Step w0 β C w β' τ' C' w') (hg : g < w.heap.size) : Far β' g :=
  ⟨by rw [St.bk]; exact F.bk, fun e => (St.gS g e).elim F.s (fun h => by omega), fun e => (St.gR g e).elim F.r (fun h => by omega), fun e => (St.gL g e).elim F.l (fun h => by omega), St.off _ F.off (fun g' e => by cases e; exact hg)⟩
theorem Far.old {x : Box} (F : Far β x.1) (St : Step w0 β C w β' τ' C' w') (hx : x ∈ C) : x ∈ C' := St.old x hx F.bk F.s F.r F.l
theorem BookOk.upd (B : BookOk β C) {o : Obj} (F : Far β g) : BookOk β (upd C g o) :=
  ⟨mem_upd_ne B.head (fun e => F.bk e.symm), B.st.mono fun x hx e => mem_upd_ne hx (fun e' => F.s (e' ▸ e)), B.rf.mono fun x hx e => mem_upd_ne hx (fun e' => F.r (e' ▸ e)), B.ls.mono fun x hx e => mem_upd_ne hx (fun e' => F.l (e' ▸ e)), fun x hx => by
    obtain ⟨xs, h1, h2⟩ := B.kept x hx
    obtain ⟨o1, o2⟩ := F.off x hx g rfl
    exact ⟨xs, h1.mono fun y hy e => mem_upd_ne hy (fun e' => o1 (e' ▸ e)), h2.mono fun y hy e => mem_upd_ne hy (fun e' => o2 (e' ▸ e))⟩, B.many, B.pos⟩
theorem Step.later (St : Step w0 β C w β' τ' C' w') (hb : Below w'.heap.size w' w'') : Step w0 β C w β' τ' C' w'' :=
  ⟨St.E.stay hb, St.ok, St.bk, St.ar, Nat.le_trans St.size hb.size, St.old, St.gS, St.gR, St.gL, St.off⟩
/-- a variable that was made behind C is written -/
theorem Step.setVar (St : Step w0 β C w β' τ' C' w') (hC : ∀ x ∈ C, x.1 < w.heap.size) {g : Nat} {u : Value} {T : TypeId} (hx : (g, Obj.cells #[u] T (0, 0)) ∈ C') (F : Far β' g) (hg : w.heap.size ≤ g) (v : Value) :
    Step w0 β C w β' τ' (upd C' g (.cells #[v] T (0, 0))) (w'.setCell ⟨g, 0, none⟩ v) :=
  ⟨St.E.setAt ents_ne hx 0 v, St.ok.upd F, St.bk, St.ar, by simpa using St.size, fun x hx a b c d => mem_upd_ne (St.old x hx a b c d) (by have := hC x hx; omega), St.gS, St.gR, St.gL, St.off⟩
end

/-- the book between yield's calls: the boxes K stand, and three variables with them -/
structure EMid (w0 : World) (β : Book) (C : List Box) (w : World) (K : List Box) (ab cb sb : Nat) (an cn : Nat) (stop : Bool) (βr : Book) (τr : Own) (Cr : List Box) (wr : World) : Prop where
  base : ∃ τ0 S0, Env w0 τ0 w S0 [] C
  P : ∀ p ∈ β.ps, PrOk p
  st : Step w0 β C w βr τr Cr wr
  l : BLater β βr
  con : ∀ x ∈ K, x ∈ Cr ∧ Far βr x.1 ∧ x.1 ≠ ab ∧ x.1 ≠ cb ∧ x.1 ≠ sb
  new : w.heap.size ≤ ab ∧ w.heap.size ≤ cb ∧ w.heap.size ≤ sb
  nd : ab ≠ cb ∧ ab ≠ sb ∧ cb ≠ sb
  va : (ab, Obj.cells #[.int .i64 (an : Int)] 3 (0, 0)) ∈ Cr ∧ Far βr ab
  vc : (cb, Obj.cells #[.int .i64 (cn : Int)] 3 (0, 0)) ∈ Cr ∧ Far βr cb
  vs : (sb, Obj.cells #[.bool stop] 4 (0, 0)) ∈ Cr ∧ Far βr sb

section
variable {w0 : World} {β βr β2 : Book} {C K Cr C2 : List Box} {w wr w2 : World} {ab cb sb an cn : Nat} {stop : Bool} {τr τ2 : Own}
theorem EMid.lt (M : EMid w0 β C w K ab cb sb an cn stop βr τr Cr wr) : ∀ x ∈ C, x.1 < w.heap.size := by
  obtain ⟨τ0, S0, E⟩ := M.base
  exact fun x hx => E.lt hx
theorem EMid.below (M : EMid w0 β C w K ab cb sb an cn stop βr τr Cr wr) (hb : Below wr.heap.size wr w2) : EMid w0 β C w K ab cb sb an cn stop βr τr Cr w2 :=
  ⟨M.base, M.P, M.st.later hb, M.l, M.con, M.new, M.nd, M.va, M.vc, M.vs⟩
theorem EMid.sub {K' : List Box} (M : EMid w0 β C w K ab cb sb an cn stop βr τr Cr wr) (h : ∀ x ∈ K', x ∈ K) : EMid w0 β C w K' ab cb sb an cn stop βr τr Cr wr :=
  ⟨M.base, M.P, M.st, M.l, fun x hx => M.con x (h x hx), M.new, M.nd, M.va, M.vc, M.vs⟩
theorem EMid.setA (M : EMid w0 β C w K ab cb sb an cn stop βr τr Cr wr) (v : Nat) : ∃ C', EMid w0 β C w K ab cb sb v cn stop βr τr C' (wr.setCell ⟨ab, 0, none⟩ (.int .i64 (v : Int))) :=
  ⟨_, M.base, M.P, M.st.setVar M.lt M.va.1 M.va.2 M.new.1 _, M.l, fun x hx => ⟨mem_upd_ne (M.con x hx).1 (M.con x hx).2.2.1, (M.con x hx).2⟩, M.new, M.nd, ⟨mem_upd M.va.1, M.va.2⟩, ⟨mem_upd_ne M.vc.1 (fun e => M.nd.1 e.symm), M.vc.2⟩, ⟨mem_upd_ne M.vs.1 (fun e => M.nd.2.1 e.symm), M.vs.2⟩⟩
theorem EMid.setC (M : EMid w0 β C w K ab cb sb an cn stop βr τr Cr wr) (v : Nat) : ∃ C', EMid w0 β C w K ab cb sb an v stop βr τr C' (wr.setCell ⟨cb, 0, none⟩ (.int .i64 (v : Int))) :=
  ⟨_, M.base, M.P, M.st.setVar M.lt M.vc.1 M.vc.2 M.new.2.1 _, M.l, fun x hx => ⟨mem_upd_ne (M.con x hx).1 (M.con x hx).2.2.2.1, (M.con x hx).2⟩, M.new, M.nd, ⟨mem_upd_ne M.va.1 M.nd.1, M.va.2⟩, ⟨mem_upd M.vc.1, M.vc.2⟩, ⟨mem_upd_ne M.vs.1 (fun e => M.nd.2.2 e.symm), M.vs.2⟩⟩
theorem EMid.setS (M : EMid w0 β C w K ab cb sb an cn stop βr τr Cr wr) (v : Bool) : ∃ C', EMid w0 β C w K ab cb sb an cn v βr τr C' (wr.setCell ⟨sb, 0, none⟩ (.bool v)) :=
  ⟨_, M.base, M.P, M.st.setVar M.lt M.vs.1 M.vs.2 M.new.2.2 _, M.l, fun x hx => ⟨mem_upd_ne (M.con x hx).1 (M.con x hx).2.2.2.2, (M.con x hx).2⟩, M.new, M.nd, ⟨mem_upd_ne M.va.1 M.nd.2.1, M.va.2⟩, ⟨mem_upd_ne M.vc.1 M.nd.2.2, M.vc.2⟩, ⟨mem_upd M.vs.1, M.vs.2⟩⟩
/-- one of the boxes that stand is written as it was -/
theorem EMid.again (M : EMid w0 β C w K ab cb sb an cn stop βr τr Cr wr) {g : Nat} {v : Value} {T : TypeId} (hx : (g, Obj.cells #[v] T (0, 0)) ∈ K) : EMid w0 β C w K ab cb sb an cn stop βr τr Cr (wr.setCell ⟨g, 0, none⟩ v) :=
  ⟨M.base, M.P, M.st.world (M.st.E.again ents_ne (M.con _ hx).1) (by simp), M.l, M.con, M.new, M.nd, M.va, M.vc, M.vs⟩
theorem EMid.step (M : EMid w0 β C w K ab cb sb an cn stop βr τr Cr wr) (St : Step w0 βr Cr wr β2 τ2 C2 w2) (l : BLater βr β2) : EMid w0 β C w K ab cb sb an cn stop β2 τ2 C2 w2 := by
  have lt : ∀ {x : Box}, x ∈ Cr → x.1 < wr.heap.size := fun {x} hx => M.st.E.lt hx
  obtain ⟨τ0, S0, E0⟩ := M.base
  exact ⟨⟨τ0, S0, E0⟩, M.P, M.st.trans St E0, M.l.trans M.P l, fun x hx => ⟨(M.con x hx).2.1.old St (M.con x hx).1, (M.con x hx).2.1.step St (lt (M.con x hx).1), (M.con x hx).2.2⟩, M.new, M.nd,
    ⟨Far.old (x := (ab, _)) M.va.2 St M.va.1, M.va.2.step St (lt M.va.1)⟩, ⟨Far.old (x := (cb, _)) M.vc.2 St M.vc.1, M.vc.2.step St (lt M.vc.1)⟩, ⟨Far.old (x := (sb, _)) M.vs.2 St M.vs.1, M.vs.2.step St (lt M.vs.1)⟩⟩
/-- a list of its own that was made becomes one of the boxes -/
theorem EMid.adopt (M : EMid w0 β C w K ab cb sb an cn stop βr τr Cr wr) {B n : Nat} {v : Value} {xs : List Value} (hb : Below wr.heap.size wr w2) (h : w2.ownsRow B 3 1 v n xs) (hB : wr.heap.size ≤ B) :
    ∃ τ' C' LB, EMid w0 β C w (K ++ LB) ab cb sb an cn stop βr τ' C' w2 ∧ BoxRow LB 3 1 v n xs ∧ Off βr v ∧ (∀ g, v.ownBlock = some g → wr.heap.size ≤ g) ∧ ∀ x ∈ LB, v.ownBlock = some x.1 := by
  have lt : ∀ {x : Box}, x ∈ Cr → x.1 < wr.heap.size := fun {x} hx => M.st.E.lt hx
  have la := lt M.va.1
  have lc := lt M.vc.1
  have ls := lt M.vs.1
  simp only at la lc ls
  have hv : ∀ g, v.ownBlock = some g → wr.heap.size ≤ g := fun g e => Nat.le_trans hB (h.lt g e).1
  have hoff := off_new M.st.E M.st.ok hv
  rcases h with ⟨h1, h2 | ⟨g, cap, cur, h3, h4, h5, h6⟩⟩
  · exact ⟨τr, Cr, [], by rw [List.append_nil]; exact M.below hb, ⟨h1, .inl h2⟩, hoff, hv, fun x hx => by cases hx⟩
  · have hg : wr.heap.size ≤ g := Nat.le_trans hB h4
    have E' := M.st.E.adopt hb hg h5
    have F := Far.new M.st.E M.st.ok hg
    refine ⟨_, _, [(g, Obj.cells cur 3 (0, 0))], ⟨M.base, M.P, ⟨E', M.st.ok.more (fun x hx => List.mem_cons_of_mem _ hx), M.st.bk, M.st.ar, Nat.le_trans M.st.size hb.size, fun x hx a b c d => List.mem_cons_of_mem _ (M.st.old x hx a b c d), M.st.gS, M.st.gR, M.st.gL, M.st.off⟩, M.l, fun x hx => ?_, M.new, M.nd, ⟨List.mem_cons_of_mem _ M.va.1, M.va.2⟩, ⟨List.mem_cons_of_mem _ M.vc.1, M.vc.2⟩, ⟨List.mem_cons_of_mem _ M.vs.1, M.vs.2⟩⟩, ⟨h1, .inr ⟨g, cap, cur, h3, List.mem_cons_self .., h6⟩⟩, hoff, hv, fun x hx => ?_⟩
    · rcases List.mem_append.1 hx with hx | hx
      · exact ⟨List.mem_cons_of_mem _ (M.con x hx).1, (M.con x hx).2⟩
      · rw [List.mem_singleton] at hx
        subst hx
        exact ⟨List.mem_cons_self .., F, by show g ≠ ab; omega, by show g ≠ cb; omega, by show g ≠ sb; omega⟩
    · rw [List.mem_singleton] at hx
      subst hx
      rw [h3]
      rfl
/-- a list is kept -/
theorem EMid.keep {LB : List Box} {v : Value} {n : Nat} {xs : List Value} {e : Ending} (M : EMid w0 β C w (K ++ LB) ab cb sb an cn stop βr τr Cr wr) (hv : ∀ g, v.ownBlock = some g → w.heap.size ≤ g) (hr : BoxRow LB 3 1 v n xs) (hdis : ∀ x ∈ K, v.ownBlock ≠ some x.1)
    (h : KeepEnd w0 (ents βr.ar βr.ps) βr Cr v n wr e w2) : e = .returned (.tuple #[]) ∧ ∃ τ' C' vL' lists', lists'.length = βr.lists.length + 2 ∧ EMid w0 β C w K ab cb sb an cn stop { βr with vL := vL', next := βr.next + n + 1, lists := lists' } τ' C' w2 := by
  obtain ⟨τ0, S0, E0⟩ := M.base
  have hnv : ∀ {g : Nat}, (∀ x ∈ LB, x.1 ≠ g) → v.ownBlock ≠ some g := fun {g} hl e => by
    obtain ⟨cur, hc⟩ := hr.box e
    exact hl _ hc rfl
  have va : v.ownBlock ≠ some ab := hnv fun x hx => (M.con x (List.mem_append.2 (.inr hx))).2.2.1
  have vc : v.ownBlock ≠ some cb := hnv fun x hx => (M.con x (List.mem_append.2 (.inr hx))).2.2.2.1
  have vs : v.ownBlock ≠ some sb := hnv fun x hx => (M.con x (List.mem_append.2 (.inr hx))).2.2.2.2
  have lt : ∀ {x : Box}, x ∈ Cr → x.1 < wr.heap.size := fun {x} hx => M.st.E.lt hx
  obtain ⟨τ', C', vL', lists', he, hE, hB, hl, hsz, hold, hgL, hoff⟩ := h
  obtain ⟨-, τa, Ca, vLa, la, St, -, -, -, -⟩ := KeepEnd.after M.st (⟨τ', C', vL', lists', he, hE, hB, hl, hsz, hold, hgL, hoff⟩ : KeepEnd w0 (ents βr.ar βr.ps) βr Cr v n wr e w2) hv E0
  have far : ∀ {g : Nat}, Far βr g → g < wr.heap.size → v.ownBlock ≠ some g → Far { βr with vL := vL', next := βr.next + n + 1, lists := lists' } g := fun {g} F hg hn =>
    ⟨F.bk, F.s, F.r, fun e => by
      have e : vL'.ownBlock = some g := e
      rcases hgL with h | ⟨g', h, h2⟩
      · exact F.l (h ▸ e)
      · rw [h] at e
        cases e
        omega, hoff _ F.off (fun g' e => by cases e; exact ⟨hg, hn⟩)⟩
  have St' : Step w0 β C w { βr with vL := vL', next := βr.next + n + 1, lists := lists' } τ' C' w2 := by
    have lt0 := M.lt
    refine ⟨hE, hB, M.st.bk, M.st.ar, Nat.le_trans M.st.size hsz, fun x hx a b c d => hold x (M.st.old x hx a b c d) (by rw [M.st.bk]; exact a) (fun q => ?_) (fun q => ?_), M.st.gS, M.st.gR, fun g e => ?_, fun u hu hlt => hoff u (M.st.off u hu hlt) (fun g e => ⟨Nat.lt_of_lt_of_le (hlt g e) M.st.size, fun q => ?_⟩)⟩
    · have h1 := hv _ q
      have h2 := lt0 x hx
      omega
    · rcases M.st.gL _ q with q | q
      · exact d q
      · have h2 := lt0 x hx
        omega
    · have e : vL'.ownBlock = some g := e
      rcases hgL with h | ⟨g', h, h2⟩
      · exact M.st.gL g (h ▸ e)
      · rw [h] at e
        cases e
        have := M.st.size
        exact .inr (by omega)
    · have h1 := hv _ q
      have h2 := hlt g e
      omega
  refine ⟨he, τ', C', vL', lists', hl, M.base, M.P, St', M.l.trans M.P (BLater.same M.l.ok rfl), fun x hx => ?_, M.new, M.nd, ?_, ?_, ?_⟩
  · obtain ⟨h1, F, h2⟩ := M.con x (List.mem_append.2 (.inl hx))
    exact ⟨hold x h1 F.bk (hdis x hx) F.l, far F (lt h1) (hdis x hx), h2⟩
  · exact ⟨hold (ab, _) M.va.1 M.va.2.bk va M.va.2.l, far M.va.2 (lt M.va.1) va⟩
  · exact ⟨hold (cb, _) M.vc.1 M.vc.2.bk vc M.vc.2.l, far M.vc.2 (lt M.vc.1) vc⟩
  · exact ⟨hold (sb, _) M.vs.1 M.vs.2.bk vs M.vs.2.l, far M.vs.2 (lt M.vs.1) vs⟩
end

/-- how much a book may hold, e lists kept beyond what the steps weigh -/
structure LimE (U : Nat) (β : Book) (u e : Nat) : Prop where
  ps : 8 * β.ps.length ≤ u + 8
  rs : ∀ p ∈ β.ps, p.rs.length ≤ u ∧ p.n ≤ u ∧ p.clock ≤ u
  next0 : 0 ≤ β.next
  next : 8 * β.next ≤ ((u * (12 * U + 100) + 72 * e : Nat) : Int)
  lists : 8 * β.lists.length ≤ u * (2 * U + 8) + 16 * e
theorem Lim.e {U u : Nat} {β : Book} (h : Lim U β u) : LimE U β u 0 := ⟨h.ps, h.rs, h.next0, by have := h.next; omega, by have := h.lists; omega⟩
theorem LimE.up {U u d e : Nat} {β : Book} (h : LimE U β u e) (h1 : 72 * e ≤ d * (12 * U + 100)) (h2 : 16 * e ≤ d * (2 * U + 8)) : Lim U β (u + d) := by
  have q1 := h.next
  have q2 := h.lists
  have e1 : (u + d) * (12 * U + 100) = u * (12 * U + 100) + d * (12 * U + 100) := Nat.add_mul ..
  have e2 : (u + d) * (2 * U + 8) = u * (2 * U + 8) + d * (2 * U + 8) := Nat.add_mul ..
  refine ⟨by have := h.ps; omega, fun p hp => by have := h.rs p hp; omega, h.next0, ?_, ?_⟩
  · rw [e1]
    omega
  · rw [e2]
    omega
theorem LimE.more {U u v e : Nat} {β : Book} (h : LimE U β u e) (hv : u ≤ v) : LimE U β v e :=
  ⟨by have := h.ps; omega, fun p hp => by have := h.rs p hp; omega, h.next0, by have := h.next; have := Nat.mul_le_mul_right (12 * U + 100) hv; omega, by have := h.lists; have := Nat.mul_le_mul_right (2 * U + 8) hv; omega⟩
theorem LimE.one {U u : Nat} {β : Book} (h : LimE U β u 1) (hU : 8 ≤ U) : Lim U β (u + 1) := h.up (by omega) (by omega)
theorem LimE.fin {U u e : Nat} {β : Book} (h : LimE U β u e) (he : e ≤ U) : Lim U β (u + 8) := h.up (by omega) (by omega)
theorem LimE.keep {U u e n : Nat} {β : Book} (h : LimE U β u e) (hn : n ≤ 8) {vL : Value} {ls : List (Value × Value)} (hl : ls.length = β.lists.length + 2) : LimE U { β with vL := vL, next := β.next + n + 1, lists := ls } u (e + 1) := by
  have q1 := h.next
  have q2 := h.lists
  have q3 := h.next0
  refine ⟨h.ps, h.rs, ?_, ?_, ?_⟩
  · show 0 ≤ β.next + n + 1
    omega
  · show 8 * (β.next + n + 1) ≤ _
    omega
  · show 8 * ls.length ≤ _
    omega

/-- the rows that Each noted, and their times at the reference: a row stands at the store just if it stands at the reference -/
def Turns (βr : Book) (k sb rb : Nat) (T : List (Int × Int)) (bl : List Int) : Prop := ∃ p, βr.ps[k]? = some p ∧ p.sb = sb ∧ p.rb = rb ∧ ∀ (i : Nat) (x : Int × Int) (b : Int), T[i]? = some x → bl[i]? = some b → Alive p x.1.toNat x.2 b
theorem Turns.later {β β' : Book} {k sb rb : Nat} {T : List (Int × Int)} {bl : List Int} (h : Turns β k sb rb T bl) (hP : ∀ p ∈ β.ps, PrOk p) (l : BLater β β') : Turns β' k sb rb T bl := by
  obtain ⟨p, h1, h2, h3, h4⟩ := h
  obtain ⟨p', k1, k2⟩ := l.each k p h1
  exact ⟨p', k1, k2.sb.trans h2, k2.rb.trans h3, fun i x b hx hb => (h4 i x b hx hb).later (hP p (List.mem_of_getElem? h1)) k2⟩
def stOf (ar : List Int) (p : Pr) : St := ⟨ar, p.rows, p.rs.map (·.2), p.n, p.lows⟩
section
variable {w0 : World} {τ : Own} {w : World} {S : List Ent} {L : List RSl} {C : List Box} {ar : List Int} {k : Nat} {p : Pr}
theorem Env.storeOf (E : Env w0 τ w S L C) (hm : stE ar k p ∈ S) (hk : k ≤ 1000000) : ∃ h, StoreAt (2 * k + 1) p.sb (stOf ar p) h τ w := by
  obtain ⟨σ, h1, h2, h3, h4, h, h5⟩ := (E.st _ hm).1 (by show 2 * k + 1 < refS; unfold refS; omega)
  obtain ⟨a, r, b, n, l⟩ := σ
  obtain ⟨h2, h2'⟩ := h2
  simp only [stE] at h1 h2 h2' h3 h4
  subst h1; subst h2; subst h2'; subst h3; subst h4
  exact ⟨h, h5⟩
theorem env_stays_rf (E : Env w0 τ w S L C) (hm : rfE ar k p ∈ S) (i : Nat) (x : Int) : Calls Try.prog 65 #[.pointer (some ⟨p.rb, 0, none⟩), .int .i64 i, .int .i64 x] w fun e w' => e = .returned (.bool (decide (p.born[i]? = some x))) ∧ w' = w := by
  obtain ⟨a, c, v, u, h⟩ := E.ref hm
  exact rstays_any h i x
theorem Env.refRow (E : Env w0 τ w S L C) (hm : rfE ar k p ∈ S) {i : Nat} {r : Row} (hr : p.rows[i]? = some r) : ∃ g c a ca, w.cell? ⟨p.rb, 1, none⟩ = some (.slice (some ⟨g, 0, none⟩) p.rows.length c) ∧ w.cell? ⟨g, i * 2, none⟩ = some (.int .i64 r.1) ∧ w.cell? ⟨g, i * 2 + 1, none⟩ = some (.slice a r.2.length ca) ∧ Ints w a r.2 := by
  obtain ⟨aA, cA, v, u, h⟩ := E.ref hm
  obtain ⟨g, c, a, ca, rfl, h1, h2, h3⟩ := h.rowAt hr
  exact ⟨g, c, a, ca, h.cells.2.1, h1, h2, h3.ints⟩
theorem Env.refBorn (E : Env w0 τ w S L C) (hm : rfE ar k p ∈ S) {i : Nat} {b : Int} (hb : p.born[i]? = some b) : ∃ g o c, w.cell? ⟨p.rb, 2, none⟩ = some (.slice (some ⟨g, o, none⟩) p.rows.length c) ∧ w.cell? ⟨g, o + i, none⟩ = some (.int .i64 b) := by
  obtain ⟨aA, cA, v, u, h⟩ := E.ref hm
  obtain ⟨a, c, rfl, hz, _⟩ := h.bornZ
  have hi := (List.getElem?_eq_some_iff.1 hb).1
  rcases hz with hz | ⟨g, o, rfl, _, hc⟩
  · simp only at hz
    rw [hz] at hi; simp at hi
  · have := hc i hi
    rw [(List.getElem?_eq_some_iff.1 hb).2] at this
    exact ⟨g, o, c, h.cells.2.2.1, this⟩
end
end Go.Proofs.Ytgodidoibcomcaa.Bk

namespace Go.Proofs.Ytgodidoibcomcaa.Bk
open Go.RowKit Go.Proofs.Ytgodidoibcomcaa

/-- the boxes that stand while Each runs -/
def eK (bb ob tb nb hb kb bk rb : Nat) (oc : Array Value) (na ha : Option Addr) (nl nc hc : Nat) (NB : List Box) : List Box :=
  (bb, .cells #[.pointer (some ⟨bk, 0, none⟩)] 49 (0, 0)) :: (ob, .cells oc 54 (0, 0)) :: (tb, .cells #[.pointer (some ⟨rb, 0, none⟩)] 89 (0, 0)) :: (nb, .cells #[.slice na nl nc] 22 (0, 0)) :: (hb, .cells #[.slice ha nl hc] 22 (0, 0)) :: (kb, .cells #[.bool true] 4 (0, 0)) :: NB
section
variable {w0 : World} {β βr : Book} {C K Cr LB : List Box} {w wr : World} {ab cb sb an cn bb ob tb nb hb kb bk rb : Nat} {oc : Array Value} {na ha : Option Addr} {nl nc hc : Nat} {NB : List Box} {stop : Bool} {τr : Own}
theorem EMid.cells (M : EMid w0 β C w (eK bb ob tb nb hb kb bk rb oc na ha nl nc hc NB ++ LB) ab cb sb an cn stop βr τr Cr wr) :
    (wr.cell? ⟨ab, 0, none⟩ = some (.int .i64 (an : Int)) ∧ wr.frozen? ⟨ab, 0, none⟩ = false) ∧ (wr.cell? ⟨cb, 0, none⟩ = some (.int .i64 (cn : Int)) ∧ wr.frozen? ⟨cb, 0, none⟩ = false) ∧ (wr.cell? ⟨sb, 0, none⟩ = some (.bool stop) ∧ wr.frozen? ⟨sb, 0, none⟩ = false) ∧
    wr.cell? ⟨bb, 0, none⟩ = some (.pointer (some ⟨bk, 0, none⟩)) ∧ (∀ j v, oc[j]? = some v → wr.cell? ⟨ob, j, none⟩ = some v) ∧ wr.cell? ⟨tb, 0, none⟩ = some (.pointer (some ⟨rb, 0, none⟩)) ∧ wr.cell? ⟨nb, 0, none⟩ = some (.slice na nl nc) ∧ wr.cell? ⟨hb, 0, none⟩ = some (.slice ha nl hc) ∧ (wr.cell? ⟨kb, 0, none⟩ = some (.bool true) ∧ wr.frozen? ⟨kb, 0, none⟩ = false) := by
  have mem : ∀ {x : Box}, x ∈ eK bb ob tb nb hb kb bk rb oc na ha nl nc hc NB → x ∈ Cr := fun {x} hx => (M.con x (List.mem_append.2 (.inl hx))).1
  exact ⟨M.st.E.cellAt M.va.1 (j := 0) rfl, M.st.E.cellAt M.vc.1 (j := 0) rfl, M.st.E.cellAt M.vs.1 (j := 0) rfl, (M.st.E.cellAt (g := bb) (cs := #[.pointer (some ⟨bk, 0, none⟩)]) (T := 49) (mem (by unfold eK; simp)) (j := 0) rfl).1, fun j v hj => (M.st.E.cellAt (g := ob) (cs := oc) (T := 54) (mem (by unfold eK; simp)) hj).1,
    (M.st.E.cellAt (g := tb) (cs := #[.pointer (some ⟨rb, 0, none⟩)]) (T := 89) (mem (by unfold eK; simp)) (j := 0) rfl).1, (M.st.E.cellAt (g := nb) (cs := #[.slice na nl nc]) (T := 22) (mem (by unfold eK; simp)) (j := 0) rfl).1, (M.st.E.cellAt (g := hb) (cs := #[.slice ha nl hc]) (T := 22) (mem (by unfold eK; simp)) (j := 0) rfl).1, M.st.E.cellAt (g := kb) (cs := #[.bool true]) (T := 4) (mem (by unfold eK; simp)) (j := 0) rfl⟩
theorem EMid.elem (M : EMid w0 β C w (eK bb ob tb nb hb kb bk rb oc na ha nl nc hc NB ++ LB) ab cb sb an cn stop βr τr Cr wr) {a : Option Addr} {c n : Nat} {xs : List Int} (h : BoxRow NB 3 1 (.slice a n c) n (xs.map (Value.int .i64))) {i : Nat} {x : Int} (hx : xs[i]? = some x) : ∃ g, a = some ⟨g, 0, none⟩ ∧ wr.cell? ⟨g, i, none⟩ = some (.int .i64 x) := by
  have h' : BoxRow Cr 3 1 (.slice a n c) n (xs.map (Value.int .i64)) := h.mono fun x hx _ => (M.con x (List.mem_append.2 (.inl (by unfold eK; simp [hx])))).1
  have ho := h'.owns M.st.E
  have hi := (List.getElem?_eq_some_iff.1 hx).1
  rcases owns_form ho with ⟨_, h0, _⟩ | ⟨g, cap, e, _, _, _, _, _, hcell, _⟩
  · have := h'.1
    rw [List.length_map] at this
    omega
  · simp only [Value.slice.injEq] at e
    obtain ⟨rfl, -, -⟩ := e
    exact ⟨g, rfl, hcell i _ (by rw [List.getElem?_map, hx]; rfl)⟩
end
/-- how far each has come -/
def cntAt (ab : Nat) (w : World) : Nat := match w.cell? ⟨ab, 0, none⟩ with | some v => (intOf v).toNat | none => 0

set_option linter.unusedSimpArgs false in
set_option maxHeartbeats 16000000 in
set_option maxRecDepth 8000 in
theorem each1_any {w0 : World} {β βr : Book} {C Cr : List Box} {wv wb w : World} {ab cb sb an cn bb ob tb nb hb kb bk rb k j num U t t' : Nat} {na ha : Option Addr} {nl nc hc : Nat} {NB : List Box} {τr : Own} {p : Pr} {nums bl : List Int} {P b : Int} {a : Option Addr} {c : Nat} {xs : List Int}
    (kind on : Int) (ra : Option Addr) (rl rc : Nat) (nn place id : Int) (ia : Option Addr) (inn ic : Nat) (say : Bool) {Ops : Option Addr → Nat → Nat → Prop}
    (M : EMid w0 β C wv (eK bb ob tb nb hb kb bk rb (opCells kind on (.slice ra rl rc) nn place id (.slice ia inn ic) say) na ha nl nc hc NB) ab cb sb an cn false βr τr Cr wb)
    (hNn : BoxRow NB 3 1 (.slice na nl nc) nl (nums.map (Value.int .i64))) (hNh : BoxRow NB 3 1 (.slice ha nl hc) nl (bl.map (Value.int .i64))) (hnl : nl ≤ 1048576) (hbk : βr.bk = bk)
    (hp : βr.ps[k]? = some p) (hrb : p.rb = rb) (hL : LimE U βr t (cn - inn)) (hcU : cn + 1 ≤ U) (htt : t ≤ t') (hU : t' + 8 ≤ U) (hU2 : U ≤ 1048576)
    (hj : nums[j]? = some (num : Int)) (hbj : bl[j]? = some b) (hnj : j < nl) (hlive : p.born[num]? = some b) (haj : an ≤ j) (hdead : ∀ i, an ≤ i → i < j → ∃ (m : Nat) (y : Int), nums[i]? = some (m : Int) ∧ bl[i]? = some y ∧ p.born[m]? ≠ some y)
    (hr : p.rows[num]? = some (P, xs)) (hx8 : xs.length ≤ 8) (hbel : Below wb.heap.size wb w) (hown : w.ownsRow wb.heap.size 3 1 (.slice a xs.length c) xs.length (xs.map (Value.int .i64)))
    (hin : cn < inn → ∃ (ib io v : Nat) (y : OpD), ia = some ⟨ib, io, none⟩ ∧ (∀ (q : Nat) z, y.cells[q]? = some z → w0.cell? ⟨ib, io + cn * 8 + q, none⟩ = some z) ∧ OpIn Ops w0 y v ∧ t + 1 + v ≤ t') (hinn : inn ≤ 1048576) :
    Calls Try.prog 64 #[.int .i64 (num : Int), .agg #[.int .i64 P, .slice a xs.length c], .pointer (some ⟨ab, 0, none⟩), .pointer (some ⟨nb, 0, none⟩), .pointer (some ⟨tb, 0, none⟩), .pointer (some ⟨hb, 0, none⟩), .pointer (some ⟨sb, 0, none⟩), .pointer (some ⟨kb, 0, none⟩), .pointer (some ⟨bb, 0, none⟩), .pointer (some ⟨cb, 0, none⟩), .pointer (some ⟨ob, 0, none⟩)] w fun e w2 =>
      ∃ (stop : Bool) (β2 : Book) (τ2 : Own) (C2 : List Box), e = .returned (.bool (!stop)) ∧ EMid w0 β C wv (eK bb ob tb nb hb kb bk rb (opCells kind on (.slice ra rl rc) nn place id (.slice ia inn ic) say) na ha nl nc hc NB) ab cb sb (j + 1) (cn + 1) stop β2 τ2 C2 w2 ∧ LimE U β2 t' (cn + 1 - inn) ∧ BLater βr β2 := by
  obtain ⟨oc, hoc⟩ : ∃ oc, oc = opCells kind on (.slice ra rl rc) nn place id (.slice ia inn ic) say := ⟨_, rfl⟩
  rw [← hoc] at M ⊢
  obtain ⟨K, hK⟩ : ∃ K, K = eK bb ob tb nb hb kb bk rb oc na ha nl nc hc NB := ⟨_, rfl⟩
  have hkb : (kb, Obj.cells #[.bool true] 4 (0, 0)) ∈ K := by rw [hK]; unfold eK; simp
  rw [← hK] at M ⊢
  have hk := (List.getElem?_eq_some_iff.1 hp).1
  have hmR : rfE βr.ar k p ∈ ents βr.ar βr.ps := mem_ents.2 ⟨k, p, hp, .inr rfl⟩
  have hltx : ab < wb.heap.size := M.st.E.lt M.va.1
  obtain ⟨τ1, C1, LB, M1, hLB, hoff, hvn, hlb⟩ := M.adopt hbel hown (Nat.le_refl _)
  have hvn0 : ∀ g, (Value.slice a xs.length c).ownBlock = some g → wv.heap.size ≤ g := fun g e => Nat.le_trans M.st.size (hvn g e)
  have hdis : ∀ x ∈ K, (Value.slice a xs.length c).ownBlock ≠ some x.1 := fun x hx e => by
    have h1 := hvn _ e
    have h2 := M.st.E.lt (M.con x hx).1
    omega
  obtain ⟨W0, hW0⟩ : ∃ W, W = w.alloc (.cells #[.int .i64 P, .slice a xs.length c] 28) := ⟨_, rfl⟩
  obtain ⟨br, hbr⟩ : ∃ b, b = w.heap.size := ⟨_, rfl⟩
  have hb0 : Below w.heap.size w W0 := by rw [hW0]; exact (Below.refl _ _).alloc (Nat.le_refl _) _
  have r0 : W0.cell? ⟨br, 0, none⟩ = some (.int .i64 P) := by rw [hW0, hbr]; simp
  have r1 : W0.cell? ⟨br, 1, none⟩ = some (.slice a xs.length c) := by rw [hW0, hbr]; simp
  have hne : ab ≠ br := by have := hbel.size; omega
  have HM0 : Hid (EMid w0 β C wv (K ++ LB) ab cb sb an cn false βr τ1 C1 W0) := Lib.hid (M1.below hb0)
  have hlim := hL.fin (by omega)
  have hn0 := hlim.next0
  have hn1 := hlim.next
  have hn2 := hlim.lists
  have hUn := U_next (v := t + 8) (U := U) (by omega) hU2
  have hUl := U_lists (v := t + 8) (U := U) (by omega) hU2
  have HP0 := Lib.hid M.l.ok
  have HW0 := Lib.hid hW0
  have HBr := Lib.hid hbr
  have HK := Lib.hid hK
  have HOC := Lib.hid hoc
  have HNn := Lib.hid hNn
  have HNh := Lib.hid hNh
  have HL := Lib.hid hL
  have HmR := Lib.hid hmR
  have HJ := Lib.hid hj
  have HBJ := Lib.hid hbj
  have HLive := Lib.hid hlive
  have HDead := Lib.hid hdead
  have HR := Lib.hid hr
  have HLB := Lib.hid hLB
  have HOff := Lib.hid hoff
  have HVn := Lib.hid hvn0
  have HDis := Lib.hid hdis
  have HIn := Lib.hid hin
  have HBk := Lib.hid hbk
  have HRb := Lib.hid hrb
  have HKb := Lib.hid hkb
  clear M M1 hNn hNh hL hmR hj hbj hlive hdead hr hLB hoff hvn hlb hvn0 hdis hin hbk hrb hkb hW0 hbr hb0 hK hoc hown hbel hp hltx hlim
  go_enter Try.func64, Try.ntmps64
  go_upto_region 1 with fail
  rw [← HW0.out, ← HBr.out]
  go_loopw [] (fun wr => ∃ (x : Nat) (Cr : List Box), an ≤ x ∧ x ≤ j ∧ Hid (EMid w0 β C wv (K ++ LB) ab cb sb x cn false βr τ1 Cr wr) ∧ wr.cell? ⟨br, 0, none⟩ = some (.int .i64 P) ∧ wr.cell? ⟨br, 1, none⟩ = some (.slice a xs.length c)) (fun wr => nl - cntAt ab wr)
  case atStart => exact ⟨an, C1, Nat.le_refl _, haj, HM0, r0, r1⟩
  case round =>
    clear r0 r1 HM0 HW0 HBr
    obtain ⟨x, Cx, hax, hxj, HMx, r0, r1⟩ := hrel
    obtain ⟨⟨ya, yaf⟩, ⟨yc, -⟩, ⟨ys, -⟩, yb, yo, yt, yn, yh, ⟨yk, -⟩⟩ := EMid.cells (by rw [← HK.out]; exact HMx.out)
    have HYo := Lib.hid yo
    clear yo
    have hmu : cntAt ab wr = x := by unfold cntAt; rw [ya]; simp [intOf]
    by_cases hlt : x < j
    · obtain ⟨m, y, hm, hy, hmy⟩ := HDead.out x hax hlt
      obtain ⟨gn, rfl, en⟩ := EMid.elem (by rw [← HK.out]; exact HMx.out) HNn.out hm
      obtain ⟨gh, rfl, eh⟩ := EMid.elem (by rw [← HK.out]; exact HMx.out) HNh.out hy
      have cS := env_stays_rf (HMx.out.st.E.stay (Below.refl _ _).drew) HmR.out m y
      rw [HRb.out] at cS
      have hdec : decide (p.born[m]? = some y) = false := by simpa using hmy
      rw [hdec] at cS
      have HcS := Lib.hid cS
      have hxnl : x < nl := by omega
      clear cS hdec hm hy hmy
      go_upto_region 1 with fail
      go_region_held3 (fun w' => w'.cell? ⟨ab, 0, none⟩ = some (.int .i64 (x : Int)) ∧ w'.cell? ⟨nb, 0, none⟩ = some (.slice (some ⟨gn, 0, none⟩) nl nc) ∧ w'.cell? ⟨tb, 0, none⟩ = some (.pointer (some ⟨rb, 0, none⟩)) ∧ w'.cell? ⟨hb, 0, none⟩ = some (.slice (some ⟨gh, 0, none⟩) nl hc) ∧ w'.cell? ⟨gn, x, none⟩ = some (.int .i64 (m : Int)) ∧ w'.cell? ⟨gh, x, none⟩ = some (.int .i64 y)) (first | assumption | exact ⟨ya, yn, yt, yh, en, eh⟩ | go_keep) (first
        | (go_at_call 65
           with_reducible refine HcS.out.mono ?_
           rintro e W ⟨rfl, rfl⟩
           have hS : (wr.drew).cell? ⟨ab, 0, none⟩ = some (.int .i64 (x : Int)) ∧ (wr.drew).cell? ⟨nb, 0, none⟩ = some (.slice (some ⟨gn, 0, none⟩) nl nc) ∧ (wr.drew).cell? ⟨tb, 0, none⟩ = some (.pointer (some ⟨rb, 0, none⟩)) ∧ (wr.drew).cell? ⟨hb, 0, none⟩ = some (.slice (some ⟨gh, 0, none⟩) nl hc) ∧ (wr.drew).cell? ⟨gn, x, none⟩ = some (.int .i64 (m : Int)) ∧ (wr.drew).cell? ⟨gh, x, none⟩ = some (.int .i64 y) := ⟨ya, yn, yt, yh, en, eh⟩))
      go_wp2_with fail
      go_roundw
      case rel =>
        obtain ⟨C', M'⟩ := (HMx.out.below (Below.refl _ _).drew).setA (x + 1)
        exact ⟨x + 1, C', by omega, by omega, Lib.hid M', (World.cell?_setCell_far _ _ _ _ hne).trans r0, (World.cell?_setCell_far _ _ _ _ hne).trans r1⟩
      case measure =>
        have h2 : cntAt ab (wr.setCell ⟨ab, 0, none⟩ (.int .i64 ((x : Int) + 1))).drew = x + 1 := by
          show cntAt ab (wr.setCell ⟨ab, 0, none⟩ (.int .i64 ((x : Int) + 1))) = x + 1
          unfold cntAt
          rw [World.cell?_setCell_same' _ _ _ (by show (wr.cell? ⟨ab, 0, none⟩).isSome = true; rw [ya]; rfl)]
          simp [intOf]
        rw [hmu, h2]
        omega
    · have hxe : x = j := by omega
      subst hxe
      obtain ⟨gn, rfl, en⟩ := EMid.elem (by rw [← HK.out]; exact HMx.out) HNn.out HJ.out
      obtain ⟨gh, rfl, eh⟩ := EMid.elem (by rw [← HK.out]; exact HMx.out) HNh.out HBJ.out
      obtain ⟨gL, cL, ar, ca, l0, l1, l2, hI⟩ := HMx.out.st.E.refRow HmR.out HR.out
      rw [HRb.out] at l0
      simp only at l1 l2 hI
      have hrl : num < p.rows.length := (List.getElem?_eq_some_iff.1 HR.out).1
      have cS := env_stays_rf (HMx.out.st.E.stay (Below.refl _ _).drew) HmR.out num b
      rw [HRb.out, show decide (p.born[num]? = some b) = true by simpa using HLive.out] at cS
      have HcS := Lib.hid cS
      have hbw : Below wr.heap.size wr wr.drew := (Below.refl _ _).drew
      have HMy := Lib.hid (HMx.out.below hbw)
      have HI := Lib.hid (hI.below hbw)
      clear cS hI HMx hmu
      go_upto_region 1 with fail
      go_region_held3 (fun w' => w'.cell? ⟨ab, 0, none⟩ = some (.int .i64 (x : Int)) ∧ w'.cell? ⟨nb, 0, none⟩ = some (.slice (some ⟨gn, 0, none⟩) nl nc) ∧ w'.cell? ⟨tb, 0, none⟩ = some (.pointer (some ⟨rb, 0, none⟩)) ∧ w'.cell? ⟨hb, 0, none⟩ = some (.slice (some ⟨gh, 0, none⟩) nl hc) ∧ w'.cell? ⟨gn, x, none⟩ = some (.int .i64 (num : Int)) ∧ w'.cell? ⟨gh, x, none⟩ = some (.int .i64 b)) (first | assumption | exact ⟨ya, yn, yt, yh, en, eh⟩ | go_keep) (first
        | (go_at_call 65
           with_reducible refine HcS.out.mono ?_
           rintro e W ⟨rfl, rfl⟩
           have hS : (wr.drew).cell? ⟨ab, 0, none⟩ = some (.int .i64 (x : Int)) ∧ (wr.drew).cell? ⟨nb, 0, none⟩ = some (.slice (some ⟨gn, 0, none⟩) nl nc) ∧ (wr.drew).cell? ⟨tb, 0, none⟩ = some (.pointer (some ⟨rb, 0, none⟩)) ∧ (wr.drew).cell? ⟨hb, 0, none⟩ = some (.slice (some ⟨gh, 0, none⟩) nl hc) ∧ (wr.drew).cell? ⟨gn, x, none⟩ = some (.int .i64 (num : Int)) ∧ (wr.drew).cell? ⟨gh, x, none⟩ = some (.int .i64 b) := ⟨ya, yn, yt, yh, en, eh⟩))
      obtain ⟨W1, hW1⟩ : ∃ W, W = wr.drew := ⟨_, rfl⟩
      have z0 : W1.cell? ⟨br, 0, none⟩ = some (.int .i64 P) := by rw [hW1]; exact r0
      have z1 : W1.cell? ⟨br, 1, none⟩ = some (.slice a xs.length c) := by rw [hW1]; exact r1
      have la : W1.cell? ⟨ab, 0, none⟩ = some (.int .i64 (x : Int)) := by rw [hW1]; exact ya
      have ln : W1.cell? ⟨nb, 0, none⟩ = some (.slice (some ⟨gn, 0, none⟩) nl nc) := by rw [hW1]; exact yn
      have lt : W1.cell? ⟨tb, 0, none⟩ = some (.pointer (some ⟨rb, 0, none⟩)) := by rw [hW1]; exact yt
      have le : W1.cell? ⟨gn, x, none⟩ = some (.int .i64 (num : Int)) := by rw [hW1]; exact en
      have ls : W1.cell? ⟨sb, 0, none⟩ = some (.bool false) := by rw [hW1]; exact ys
      have m0 : W1.cell? ⟨rb, 1, none⟩ = some (.slice (some ⟨gL, 0, none⟩) p.rows.length cL) := by rw [hW1]; exact l0
      have m1 : W1.cell? ⟨gL, num * 2, none⟩ = some (.int .i64 P) := by rw [hW1]; exact l1
      have m2 : W1.cell? ⟨gL, num * 2 + 1, none⟩ = some (.slice ar xs.length ca) := by rw [hW1]; exact l2
      rw [← hW1] at HMy HI ⊢
      clear hS hW1 HcS ya yn yt yh en eh ys l0 l1 l2 r0 r1 yb yc yk hbw
      have hown1 : BoxRow _ 3 1 (.slice a xs.length c) xs.length (xs.map (Value.int .i64)) := HLB.out.mono (C' := Cx) fun y hy _ => (HMy.out.con y (List.mem_append.2 (.inr hy))).1
      have hAI : Ints W1 a xs := hown1.ints HMy.out.st.E rfl
      have HRow := Lib.hid hown1
      have cE := requal_any P P a ar c ca xs xs W1.drew hAI (HI.out) (by omega)
      simp only [decide_true] at cE
      have HcE := Lib.hid cE
      clear cE hAI hown1
      have hdn : decide (nl ≤ x) = false := by simp; omega
      go_upto_region 3 with fail
      go_region_held3 (fun w' => w'.cell? ⟨sb, 0, none⟩ = some (.bool false) ∧ w'.cell? ⟨ab, 0, none⟩ = some (.int .i64 (x : Int)) ∧ w'.cell? ⟨nb, 0, none⟩ = some (.slice (some ⟨gn, 0, none⟩) nl nc) ∧ w'.cell? ⟨gn, x, none⟩ = some (.int .i64 (num : Int)) ∧ w'.cell? ⟨br, 0, none⟩ = some (.int .i64 P) ∧ w'.cell? ⟨br, 1, none⟩ = some (.slice a xs.length c) ∧ w'.cell? ⟨tb, 0, none⟩ = some (.pointer (some ⟨rb, 0, none⟩)) ∧ w'.cell? ⟨rb, 1, none⟩ = some (.slice (some ⟨gL, 0, none⟩) p.rows.length cL) ∧ w'.cell? ⟨gL, num * 2, none⟩ = some (.int .i64 P) ∧ w'.cell? ⟨gL, num * 2 + 1, none⟩ = some (.slice ar xs.length ca)) (first | assumption | exact ⟨ls, la, ln, le, z0, z1, lt, m0, m1, m2⟩ | go_keep) (first
        | (go_at_call 53
           with_reducible refine HcE.out.mono ?_
           rintro e W2 ⟨rfl, hb2⟩
           have hb12 : Below W1.heap.size W1 W2 := (Below.refl _ _).drew.trans hb2
           have hS2 : W2.cell? ⟨sb, 0, none⟩ = some (.bool false) ∧ W2.cell? ⟨ab, 0, none⟩ = some (.int .i64 (x : Int)) ∧ W2.cell? ⟨nb, 0, none⟩ = some (.slice (some ⟨gn, 0, none⟩) nl nc) ∧ W2.cell? ⟨gn, x, none⟩ = some (.int .i64 (num : Int)) ∧ W2.cell? ⟨br, 0, none⟩ = some (.int .i64 P) ∧ W2.cell? ⟨br, 1, none⟩ = some (.slice a xs.length c) ∧ W2.cell? ⟨tb, 0, none⟩ = some (.pointer (some ⟨rb, 0, none⟩)) ∧ W2.cell? ⟨rb, 1, none⟩ = some (.slice (some ⟨gL, 0, none⟩) p.rows.length cL) ∧ W2.cell? ⟨gL, num * 2, none⟩ = some (.int .i64 P) ∧ W2.cell? ⟨gL, num * 2 + 1, none⟩ = some (.slice ar xs.length ca) := ⟨on_cell hb12 ls, on_cell hb12 la, on_cell hb12 ln, on_cell hb12 le, on_cell hb12 z0, on_cell hb12 z1, on_cell hb12 lt, on_cell hb12 m0, on_cell hb12 m1, on_cell hb12 m2⟩))
      have z0 := on_cell hb12 z0
      have z1 := on_cell hb12 z1
      have HM2 := Lib.hid (HMy.out.below hb12)
      clear hS2 hb2 hb12 HcE HMy la ln lt le ls m0 m1 m2 HI
      obtain ⟨⟨ya, yaf⟩, -, -, -, -, -, -, -, -⟩ := EMid.cells (by rw [← HK.out]; exact HM2.out)
      obtain ⟨C3, hM3⟩ := HM2.out.setA (x + 1)
      rw [show (((x + 1 : Nat) : Int)) = (x : Int) + 1 from by omega] at hM3
      go_upto_region 7 with fail
      obtain ⟨W3, hW3⟩ : ∃ W, W = W2.setCell ⟨ab, 0, none⟩ (.int .i64 ((x : Int) + 1)) := ⟨_, rfl⟩
      have z1 : W3.cell? ⟨br, 1, none⟩ = some (.slice a xs.length c) := by rw [hW3]; exact (World.cell?_setCell_far _ _ _ _ hne).trans z1
      rw [← hW3] at hM3 ⊢
      have HM3 := Lib.hid hM3
      clear hW3 hM3 HM2 ya yaf z0
      obtain ⟨-, -, -, yb, -, -, -, -, -⟩ := EMid.cells (by rw [← HK.out]; exact HM3.out)
      have cK := keep_any HM3.out.st.E ents_ne HM3.out.st.ok xs (HLB.out.mono fun y hy _ => (HM3.out.con y (List.mem_append.2 (.inr hy))).1) HOff.out (by omega) hn0 (by omega) (by omega)
      rw [HBk.out] at cK
      have HcK := Lib.hid cK
      clear cK
      go_upto_region 8 with (first | (go_at_call 58; with_reducible refine HcK.out.mono ?_; intro e W4 hk4; obtain ⟨rfl, τ4, C4, L4, l4, hl4, M4⟩ := HM3.out.keep HVn.out HLB.out HDis.out hk4))
      have HL4 := Lib.hid (HL.out.keep (n := xs.length) (vL := L4) (ls := l4) hx8 hl4)
      have Hl4 : Hid (BLater βr { βr with vL := L4, next := βr.next + xs.length + 1, lists := l4 }) := Lib.hid (BLater.same HP0.out rfl)
      have hbk4 : ({ βr with vL := L4, next := βr.next + xs.length + 1, lists := l4 } : Book).bk = bk := HBk.out
      generalize ({ βr with vL := L4, next := βr.next + xs.length + 1, lists := l4 } : Book) = β4 at HL4 Hl4 M4 hbk4
      have HM4 := Lib.hid M4
      have HBk4 := Lib.hid hbk4
      clear M4 hk4 HcK HM3 hl4 yb z1 hbk4
      obtain ⟨-, ⟨yc, ycf⟩, -, yb, yo, -, -, -, ⟨yk, ykf⟩⟩ := EMid.cells (LB := []) (by rw [← HK.out, List.append_nil]; exact HM4.out)
      have y4 := yo 4 (.int .i64 place) (by rw [HOC.out]; rfl)
      have y6 := yo 6 (.slice ia inn ic) (by rw [HOC.out]; rfl)
      clear yo
      have hcle : cn ≤ 1048576 := by omega
      by_cases hci : cn < inn
      · obtain ⟨ib, io, v, ⟨kind2, on2, ra2, rc2, l2, nn2, place2, id2, ia2, inn2, ic2, say2⟩, rfl, hc, hop, htv⟩ := HIn.out hci
        have hdc : decide ((cn : Int) < (inn : Int)) = true := by simpa using hci
        have e0 : cn + 1 - inn = 0 := by omega
        have e1 : cn - inn + 1 = 1 := by omega
        have cF := flat_any (HM4.out.st.E.stay (Below.refl _ _).drew) HM4.out.st.ok HM4.out.l.ok _ hop ((e1 ▸ HL4.out).one (by omega)) (by omega) hU2
        rw [HBk4.out] at cF
        have x0 := on_cell HM4.out.st.E.below (hc 0 _ rfl)
        have x1 := on_cell HM4.out.st.E.below (hc 1 _ rfl)
        have x2 := on_cell HM4.out.st.E.below (hc 2 _ rfl)
        have x3 := on_cell HM4.out.st.E.below (hc 3 _ rfl)
        have x4 := on_cell HM4.out.st.E.below (hc 4 _ rfl)
        have x5 := on_cell HM4.out.st.E.below (hc 5 _ rfl)
        have x6 := on_cell HM4.out.st.E.below (hc 6 _ rfl)
        have x7 := on_cell HM4.out.st.E.below (hc 7 _ rfl)
        have HC := Lib.hid hc
        unfold OpD.cells opCells at cF x0 x1 x2 x3 x4 x5 x6 x7 HC
        simp only [List.getElem_toArray, List.getElem_cons_zero, List.getElem_cons_succ] at x0 x1 x2 x3 x4 x5 x6 x7
        simp only at cF
        rw [Nat.add_zero] at x0
        have HcF := Lib.hid cF
        clear cF hc hop
        go_upto_region 9 with fail
        go_region_held3 (fun w' => w'.cell? ⟨bb, 0, none⟩ = some (.pointer (some ⟨bk, 0, none⟩)) ∧ w'.cell? ⟨ob, 6, none⟩ = some (.slice (some ⟨ib, io, none⟩) inn ic) ∧ w'.cell? ⟨cb, 0, none⟩ = some (.int .i64 (cn : Int)) ∧ w'.cell? ⟨kb, 0, none⟩ = some (.bool true) ∧ w'.cell? ⟨ib, io + cn * 8, none⟩ = some (.int .i64 kind2) ∧ w'.cell? ⟨ib, io + cn * 8 + 1, none⟩ = some (.int .i64 on2) ∧ w'.cell? ⟨ib, io + cn * 8 + 2, none⟩ = some (.slice ra2 l2.length rc2) ∧ w'.cell? ⟨ib, io + cn * 8 + 3, none⟩ = some (.int .i64 nn2) ∧ w'.cell? ⟨ib, io + cn * 8 + 4, none⟩ = some (.int .i64 place2) ∧ w'.cell? ⟨ib, io + cn * 8 + 5, none⟩ = some (.int .i64 id2) ∧ w'.cell? ⟨ib, io + cn * 8 + 6, none⟩ = some (.slice ia2 inn2 ic2) ∧ w'.cell? ⟨ib, io + cn * 8 + 7, none⟩ = some (.bool say2)) (first | assumption | exact ⟨yb, y6, yc, yk, x0, x1, x2, x3, x4, x5, x6, x7⟩ | go_keep) (first
          | (go_at_call 26
             with_reducible refine HcF.out.mono ?_
             rintro e W5 ⟨rfl, β5, τ5, C5, ST, hl5, hlim5⟩
             have M5 := HM4.out.step (ST.less (w := W4) (fun _ h => h) (Nat.le_refl _)) hl5
             obtain ⟨-, ⟨yc5, -⟩, -, yb5, yo5, -, -, -, ⟨yk5, ykf5⟩⟩ := EMid.cells (LB := []) (by rw [← HK.out, List.append_nil]; exact M5)
             have y65 := yo5 6 (.slice (some ⟨ib, io, none⟩) inn ic) (by rw [HOC.out]; rfl)
             have hS5 : W5.cell? ⟨bb, 0, none⟩ = some (.pointer (some ⟨bk, 0, none⟩)) ∧ W5.cell? ⟨ob, 6, none⟩ = some (.slice (some ⟨ib, io, none⟩) inn ic) ∧ W5.cell? ⟨cb, 0, none⟩ = some (.int .i64 (cn : Int)) ∧ W5.cell? ⟨kb, 0, none⟩ = some (.bool true) ∧ W5.cell? ⟨ib, io + cn * 8, none⟩ = some (.int .i64 kind2) ∧ W5.cell? ⟨ib, io + cn * 8 + 1, none⟩ = some (.int .i64 on2) ∧ W5.cell? ⟨ib, io + cn * 8 + 2, none⟩ = some (.slice ra2 l2.length rc2) ∧ W5.cell? ⟨ib, io + cn * 8 + 3, none⟩ = some (.int .i64 nn2) ∧ W5.cell? ⟨ib, io + cn * 8 + 4, none⟩ = some (.int .i64 place2) ∧ W5.cell? ⟨ib, io + cn * 8 + 5, none⟩ = some (.int .i64 id2) ∧ W5.cell? ⟨ib, io + cn * 8 + 6, none⟩ = some (.slice ia2 inn2 ic2) ∧ W5.cell? ⟨ib, io + cn * 8 + 7, none⟩ = some (.bool say2) := ⟨yb5, y65, yc5, yk5, on_cell M5.st.E.below (HC.out 0 _ rfl), on_cell M5.st.E.below (HC.out 1 _ rfl), on_cell M5.st.E.below (HC.out 2 _ rfl), on_cell M5.st.E.below (HC.out 3 _ rfl), on_cell M5.st.E.below (HC.out 4 _ rfl), on_cell M5.st.E.below (HC.out 5 _ rfl), on_cell M5.st.E.below (HC.out 6 _ rfl), on_cell M5.st.E.below (HC.out 7 _ rfl)⟩
             have M6 := M5.again HKb.out
             obtain ⟨-, ⟨yc6, -⟩, -, yb6, yo6, -, -, -, ⟨yk6, -⟩⟩ := EMid.cells (LB := []) (by rw [← HK.out, List.append_nil]; exact M6)
             have y66 := yo6 6 (.slice (some ⟨ib, io, none⟩) inn ic) (by rw [HOC.out]; rfl)
             have hS6 : (W5.setCell ⟨kb, 0, none⟩ (.bool true)).cell? ⟨bb, 0, none⟩ = some (.pointer (some ⟨bk, 0, none⟩)) ∧ (W5.setCell ⟨kb, 0, none⟩ (.bool true)).cell? ⟨ob, 6, none⟩ = some (.slice (some ⟨ib, io, none⟩) inn ic) ∧ (W5.setCell ⟨kb, 0, none⟩ (.bool true)).cell? ⟨cb, 0, none⟩ = some (.int .i64 (cn : Int)) ∧ (W5.setCell ⟨kb, 0, none⟩ (.bool true)).cell? ⟨kb, 0, none⟩ = some (.bool true) ∧ (W5.setCell ⟨kb, 0, none⟩ (.bool true)).cell? ⟨ib, io + cn * 8, none⟩ = some (.int .i64 kind2) ∧ (W5.setCell ⟨kb, 0, none⟩ (.bool true)).cell? ⟨ib, io + cn * 8 + 1, none⟩ = some (.int .i64 on2) ∧ (W5.setCell ⟨kb, 0, none⟩ (.bool true)).cell? ⟨ib, io + cn * 8 + 2, none⟩ = some (.slice ra2 l2.length rc2) ∧ (W5.setCell ⟨kb, 0, none⟩ (.bool true)).cell? ⟨ib, io + cn * 8 + 3, none⟩ = some (.int .i64 nn2) ∧ (W5.setCell ⟨kb, 0, none⟩ (.bool true)).cell? ⟨ib, io + cn * 8 + 4, none⟩ = some (.int .i64 place2) ∧ (W5.setCell ⟨kb, 0, none⟩ (.bool true)).cell? ⟨ib, io + cn * 8 + 5, none⟩ = some (.int .i64 id2) ∧ (W5.setCell ⟨kb, 0, none⟩ (.bool true)).cell? ⟨ib, io + cn * 8 + 6, none⟩ = some (.slice ia2 inn2 ic2) ∧ (W5.setCell ⟨kb, 0, none⟩ (.bool true)).cell? ⟨ib, io + cn * 8 + 7, none⟩ = some (.bool say2) := ⟨yb6, y66, yc6, yk6, on_cell M6.st.E.below (HC.out 0 _ rfl), on_cell M6.st.E.below (HC.out 1 _ rfl), on_cell M6.st.E.below (HC.out 2 _ rfl), on_cell M6.st.E.below (HC.out 3 _ rfl), on_cell M6.st.E.below (HC.out 4 _ rfl), on_cell M6.st.E.below (HC.out 5 _ rfl), on_cell M6.st.E.below (HC.out 6 _ rfl), on_cell M6.st.E.below (HC.out 7 _ rfl)⟩
             have HM6 := Lib.hid M6
             have HL6 : Hid (LimE U β5 t' (cn + 1 - inn)) := Lib.hid (e0 ▸ (hlim5.mono htv).e)
             have Hl6 := Lib.hid (Hl4.out.trans HP0.out hl5)
             clear M5 M6 ST hl5 hlim5 yo5 yo6 yc5 yc6 yb5 yb6 yk6 y65 y66))
        obtain ⟨W6, hW6⟩ : ∃ W, W = W5.setCell ⟨kb, 0, none⟩ (.bool true) := ⟨_, rfl⟩
        rw [← hW6] at HM6 ⊢
        clear hW6 hS5 hS6 yc ycf yb yk ykf y4 y6 x0 x1 x2 x3 x4 x5 x6 x7 HcF HM4 HL4 Hl4 yk5 ykf5
        obtain ⟨-, ⟨yc, ycf⟩, ⟨ys, ysf⟩, -, yo, -, -, -, ⟨yk, -⟩⟩ := EMid.cells (LB := []) (by rw [← HK.out, List.append_nil]; exact HM6.out)
        have y4 := yo 4 (.int .i64 place) (by rw [HOC.out]; rfl)
        clear yo
        by_cases hpl : (cn : Int) = place
        · have hd : ((cn : Int) == place) = true := by simpa using hpl
          clear hpl
          obtain ⟨C7, hM7⟩ := HM6.out.setS true
          go_upto_region 11 with fail
          obtain ⟨W7, hW7⟩ : ∃ W, W = W6.setCell ⟨sb, 0, none⟩ (.bool true) := ⟨_, rfl⟩
          rw [← hW7] at hM7 ⊢
          have HM7 := Lib.hid hM7
          clear hW7 hM7 yc ycf ys ysf yk y4 hd
          obtain ⟨-, ⟨yc, ycf⟩, -, -, -, -, -, -, -⟩ := EMid.cells (LB := []) (by rw [← HK.out, List.append_nil]; exact HM7.out)
          obtain ⟨C8, hM8⟩ := HM7.out.setC (cn + 1)
          rw [show (((cn + 1 : Nat) : Int)) = (cn : Int) + 1 from by omega] at hM8
          go_upto_region 12 with fail
          obtain ⟨W8, hW8⟩ : ∃ W, W = W7.setCell ⟨cb, 0, none⟩ (.int .i64 ((cn : Int) + 1)) := ⟨_, rfl⟩
          rw [← hW8] at hM8 ⊢
          have HM8 := Lib.hid hM8
          clear hW8 hM8 yc ycf
          obtain ⟨-, -, ⟨ys, -⟩, -, -, -, -, -, -⟩ := EMid.cells (LB := []) (by rw [← HK.out, List.append_nil]; exact HM8.out)
          go_wp2_with fail
          go_ret
          exact ⟨true, β5, τ5, C8, rfl, HM8.out, HL6.out, Hl6.out⟩
        · have hd : ((cn : Int) == place) = false := by simpa using hpl
          obtain ⟨C7, hM7⟩ := HM6.out.setS false
          go_upto_region 11 with fail
          obtain ⟨W7, hW7⟩ : ∃ W, W = W6.setCell ⟨sb, 0, none⟩ (.bool false) := ⟨_, rfl⟩
          rw [← hW7] at hM7 ⊢
          have HM7 := Lib.hid hM7
          clear hW7 hM7 yc ycf ys ysf yk y4 hd
          obtain ⟨-, ⟨yc, ycf⟩, -, -, -, -, -, -, -⟩ := EMid.cells (LB := []) (by rw [← HK.out, List.append_nil]; exact HM7.out)
          obtain ⟨C8, hM8⟩ := HM7.out.setC (cn + 1)
          rw [show (((cn + 1 : Nat) : Int)) = (cn : Int) + 1 from by omega] at hM8
          go_upto_region 12 with fail
          obtain ⟨W8, hW8⟩ : ∃ W, W = W7.setCell ⟨cb, 0, none⟩ (.int .i64 ((cn : Int) + 1)) := ⟨_, rfl⟩
          rw [← hW8] at hM8 ⊢
          have HM8 := Lib.hid hM8
          clear hW8 hM8 yc ycf
          obtain ⟨-, -, ⟨ys, -⟩, -, -, -, -, -, -⟩ := EMid.cells (LB := []) (by rw [← HK.out, List.append_nil]; exact HM8.out)
          go_wp2_with fail
          go_ret
          exact ⟨false, β5, τ5, C8, rfl, HM8.out, HL6.out, Hl6.out⟩
      · have hdc : decide ((cn : Int) < (inn : Int)) = false := by simpa using hci
        have HL6 : Hid (LimE U β4 t' (cn + 1 - inn)) := Lib.hid (by
          have h := HL4.out
          rw [show cn - inn + 1 = cn + 1 - inn by omega] at h
          exact h.more htt)
        have Hl6 := Hl4
        have HM6 := HM4
        clear HM4 HL4 Hl4 yb yk ykf ycf
        obtain ⟨W6, hW6⟩ : ∃ W, W = W4 := ⟨_, rfl⟩
        obtain ⟨β5, hβ5⟩ : ∃ β, β = β4 := ⟨_, rfl⟩
        obtain ⟨τ5, hτ5⟩ : ∃ τ, τ = τ4 := ⟨_, rfl⟩
        obtain ⟨C5, hC5⟩ : ∃ C, C = C4 := ⟨_, rfl⟩
        rw [← hW6] at HM6 yc y4 y6 ⊢
        rw [← hβ5, ← hτ5, ← hC5] at HM6
        rw [← hβ5] at HL6 Hl6
        clear hW6 hβ5 hτ5 hC5 HBk4
        obtain ⟨-, ⟨yc, ycf⟩, ⟨ys, ysf⟩, -, yo, -, -, -, ⟨yk, -⟩⟩ := EMid.cells (LB := []) (by rw [← HK.out, List.append_nil]; exact HM6.out)
        have y4 := yo 4 (.int .i64 place) (by rw [HOC.out]; rfl)
        clear yo
        by_cases hpl : (cn : Int) = place
        · have hd : ((cn : Int) == place) = true := by simpa using hpl
          clear hpl
          obtain ⟨C7, hM7⟩ := HM6.out.setS true
          go_upto_region 11 with fail
          obtain ⟨W7, hW7⟩ : ∃ W, W = W6.setCell ⟨sb, 0, none⟩ (.bool true) := ⟨_, rfl⟩
          rw [← hW7] at hM7 ⊢
          have HM7 := Lib.hid hM7
          clear hW7 hM7 yc ycf ys ysf yk y4 hd
          obtain ⟨-, ⟨yc, ycf⟩, -, -, -, -, -, -, -⟩ := EMid.cells (LB := []) (by rw [← HK.out, List.append_nil]; exact HM7.out)
          obtain ⟨C8, hM8⟩ := HM7.out.setC (cn + 1)
          rw [show (((cn + 1 : Nat) : Int)) = (cn : Int) + 1 from by omega] at hM8
          go_upto_region 12 with fail
          obtain ⟨W8, hW8⟩ : ∃ W, W = W7.setCell ⟨cb, 0, none⟩ (.int .i64 ((cn : Int) + 1)) := ⟨_, rfl⟩
          rw [← hW8] at hM8 ⊢
          have HM8 := Lib.hid hM8
          clear hW8 hM8 yc ycf
          obtain ⟨-, -, ⟨ys, -⟩, -, -, -, -, -, -⟩ := EMid.cells (LB := []) (by rw [← HK.out, List.append_nil]; exact HM8.out)
          go_wp2_with fail
          go_ret
          exact ⟨true, β5, τ5, C8, rfl, HM8.out, HL6.out, Hl6.out⟩
        · have hd : ((cn : Int) == place) = false := by simpa using hpl
          obtain ⟨C7, hM7⟩ := HM6.out.setS false
          go_upto_region 11 with fail
          obtain ⟨W7, hW7⟩ : ∃ W, W = W6.setCell ⟨sb, 0, none⟩ (.bool false) := ⟨_, rfl⟩
          rw [← hW7] at hM7 ⊢
          have HM7 := Lib.hid hM7
          clear hW7 hM7 yc ycf ys ysf yk y4 hd
          obtain ⟨-, ⟨yc, ycf⟩, -, -, -, -, -, -, -⟩ := EMid.cells (LB := []) (by rw [← HK.out, List.append_nil]; exact HM7.out)
          obtain ⟨C8, hM8⟩ := HM7.out.setC (cn + 1)
          rw [show (((cn + 1 : Nat) : Int)) = (cn : Int) + 1 from by omega] at hM8
          go_upto_region 12 with fail
          obtain ⟨W8, hW8⟩ : ∃ W, W = W7.setCell ⟨cb, 0, none⟩ (.int .i64 ((cn : Int) + 1)) := ⟨_, rfl⟩
          rw [← hW8] at hM8 ⊢
          have HM8 := Lib.hid hM8
          clear hW8 hM8 yc ycf
          obtain ⟨-, -, ⟨ys, -⟩, -, -, -, -, -, -⟩ := EMid.cells (LB := []) (by rw [← HK.out, List.append_nil]; exact HM8.out)
          go_wp2_with fail
          go_ret
          exact ⟨false, β5, τ5, C8, rfl, HM8.out, HL6.out, Hl6.out⟩
end Go.Proofs.Ytgodidoibcomcaa.Bk
