/-
  The law StoreScript is proved, where what it reads is of bulk at most 1048576: the call returns true, and its arguments read behind it as they read before.
-/
import Derived.Test.YtgodidoibcomcaaK4
import Derived.Test.YtgodidoibcomcaaK5
import Derived.Test.YtgodidoibcomcaaK6
import Derived.Test.YtgodidoibcomcaaK7
import Derived.Test.YtgodidoibcomcaaK8
import Derived.Test.YtgodidoibcomcaaK9
import Derived.Test.YtgodidoibcomcaaK3
import Derived.ProofKit
import Derived.OpenShut
import Derived.ChangeOld
import Derived.Below
import Derived.SizedLaws
import Derived.Lib.SmallJoins
import Derived.JoinedCond
namespace Go.Proofs.Ytgodidoibcomcaa.Bk
open Go.RowKit Go.Proofs.Ytgodidoibcomcaa

theorem flat_any {w0 : World} {τ : Own} {w : World} {β : Book} {C : List Box} {U u v : Nat} {Ops : Option Addr → Nat → Nat → Prop} (E : Env w0 τ w (ents β.ar β.ps) [] C) (B : BookOk β C) (HP : ∀ p ∈ β.ps, PrOk p) (x : OpD) (hx : OpIn Ops w0 x u) (hL : Lim U β v) (hU : v + u ≤ U) (hU2 : U ≤ 1048576) :
    Calls Try.prog 26 #[.pointer (some ⟨β.bk, 0, none⟩), .agg x.cells] w (FlatEnd w0 β C U (v + u) w) := by
  by_cases h0 : x.kind = 0
  · exact flat_Add E B HP x hx hL hU hU2 h0
  by_cases h1 : x.kind = 1
  · exact flat_Has E B HP x hx hL hU hU2 h1
  by_cases h2 : x.kind = 2
  · exact flat_Num E B HP x hx hL hU hU2 h2
  by_cases h3 : x.kind = 3
  · exact flat_Row E B HP x hx hL hU hU2 h3
  by_cases h4 : x.kind = 4
  · exact flat_Len E B HP x hx hL hU hU2 h4
  by_cases h5 : x.kind = 5
  · exact flat_Of E B HP x hx hL hU hU2 h5
  by_cases h6 : x.kind = 6
  · exact flat_Where E B HP x hx hL hU hU2 h6
  by_cases h7 : x.kind = 7
  · exact flat_Undo E B HP x hx hL hU hU2 h7
  by_cases h8 : x.kind = 8
  · exact flat_Copy E B HP x hx hL hU hU2 h8
  by_cases h11 : x.kind = 11
  · exact flat_TryN E B HP x hx hL hU hU2 h11
  by_cases h12 : x.kind = 12
  · exact flat_EachN E B HP x hx hL hU hU2 h12
  · exact flat_Other E B HP x hx hL hU hU2 ⟨by simpa using h0, by simpa using h1, by simpa using h2, by simpa using h3, by simpa using h4, by simpa using h5, by simpa using h6, by simpa using h7, by simpa using h8, by simpa using h11, by simpa using h12⟩
end Go.Proofs.Ytgodidoibcomcaa.Bk

namespace Go.Proofs.Ytgodidoibcomcaa.Bk
open Go.RowKit Go.Proofs.Ytgodidoibcomcaa

/-- between two steps of a script: the book, and what the steps so far have weighed -/
structure Mid (w0 : World) (bk : Nat) (U t : Nat) (β : Book) (τ : Own) (C : List Box) (w : World) : Prop where
  E : Env w0 τ w (ents β.ar β.ps) [] C
  B : BookOk β C
  P : ∀ p ∈ β.ps, PrOk p
  L : Lim U β t
  bk : β.bk = bk
  low : ∀ p ∈ β.ps, p.lows.length ≤ 0
theorem Mid.step {w0 : World} {bk U t t' : Nat} {β β' : Book} {τ τ' : Own} {C C' : List Box} {w w' : World} (M : Mid w0 bk U t β τ C w) (S : Step w0 β C w β' τ' C' w') (l : BLater β β') (h : Lim U β' t') : Mid w0 bk U t' β' τ' C' w' :=
  ⟨S.E, S.ok, l.ok, h, S.bk.trans M.bk, l.low 0 M.low⟩
theorem Mid.stay {w0 : World} {bk U t : Nat} {β : Book} {τ : Own} {C : List Box} {w w' : World} (M : Mid w0 bk U t β τ C w) (hb : Below w.heap.size w w') : Mid w0 bk U t β τ C w' :=
  ⟨M.E.stay hb, M.B, M.P, M.L, M.bk, M.low⟩
theorem Mid.begin {w w' : World} {ar : List Int} {β : Book} {τ : Own} {C : List Box} {U : Nat} (hE : Env w τ w' (ents ar β.ps) [] C) (hB : BookOk β C) (ha : β.ar = ar) (hn : β.next = 0) (hl : β.lists = []) {sb rb : Nat} (hp : β.ps = [⟨sb, rb, [], [], 0, [], 0⟩]) : Mid w β.bk U 0 β τ C w' := by
  refine ⟨by rw [ha]; exact hE, hB, fun p h => ?_, ⟨?_, fun p h => ?_, ?_, ?_, ?_⟩, rfl, fun p h => ?_⟩
  · rw [hp, List.mem_singleton] at h
    subst h
    exact ⟨rfl, fun x hx => (by cases hx), fun x hx => (by cases hx), fun x hx => (by cases hx)⟩
  · rw [hp]; exact Nat.le_refl _
  · rw [hp, List.mem_singleton] at h
    subst h
    simp
  · rw [hn]; exact Int.le_refl _
  · rw [hn]; simp
  · rw [hl]; simp
  · rw [hp, List.mem_singleton] at h
    subst h
    simp
theorem Mid.whole {w0 : World} {bk U t : Nat} {β : Book} {τ : Own} {C : List Box} {w : World} (M : Mid w0 bk U t β τ C w) (ht : t ≤ U) (hU : U ≤ 1048576) :
    Calls Try.prog 28 #[.pointer (some ⟨bk, 0, none⟩)] w fun e w' => e = .returned (.bool true) ∧ Below w0.heap.size w0 w' := by
  have h1 := M.L.ps
  have h2 := M.L.next
  have h3 := M.L.lists
  have h4 := U_next ht hU
  have h5 := U_lists ht hU
  have h := whole_any M.E M.B (by omega) (fun p hp => by rw [show p.rows.length = p.rs.length from List.length_map _]; have := M.L.rs p hp; omega) M.L.next0 (by omega) (by omega)
  rw [M.bk] at h
  exact h
theorem Mid.kept {w0 : World} {bk U t : Nat} {β : Book} {τ : Own} {C : List Box} {w : World} (M : Mid w0 bk U t β τ C w) (ht : t ≤ U) (hU : U ≤ 1048576) :
    Calls Try.prog 27 #[.pointer (some ⟨bk, 0, none⟩)] w fun e w' => e = .returned (.bool true) ∧ Below w.heap.size w w' := by
  have h3 := M.L.lists
  have h5 := U_lists ht hU
  have h := kept_any M.E M.B (by omega) M.B.big
  rw [M.bk] at h
  exact h
theorem Mid.flat {w0 : World} {bk U t u : Nat} {β : Book} {τ : Own} {C : List Box} {w : World} {Ops : Option Addr → Nat → Nat → Prop} (M : Mid w0 bk U t β τ C w) (x : OpD) (hx : OpIn Ops w0 x u) (ht : t + u ≤ U) (hU : U ≤ 1048576) :
    Calls Try.prog 26 #[.pointer (some ⟨bk, 0, none⟩), .agg x.cells] w fun e w' => e = .returned (.bool true) ∧ ∃ β' τ' C', Hid (Mid w0 bk U (t + u) β' τ' C' w') := by
  have h := flat_any M.E M.B M.P x hx M.L ht hU
  rw [M.bk] at h
  refine h.mono ?_
  rintro e w' ⟨rfl, β', τ', C', S, l, hl⟩
  exact ⟨rfl, β', τ', C', Lib.hid (M.step S l hl)⟩

theorem OpsIn.count {w : World} {d : Nat} {a : Option Addr} {n u : Nat} (h : OpsIn w d a n u) : n ≤ u := by
  rcases h.at with h | ⟨d', b, off, -, -, us, h2, h3, h4⟩
  · omega
  · have h5 := sum_ge us 1 (fun v hv => by
      obtain ⟨i, hi⟩ := List.mem_iff_getElem?.1 hv
      obtain ⟨x, -, hx⟩ := h4 i v hi
      have := hx.weigh
      omega)
    omega
set_option maxHeartbeats 8000000 in
set_option maxRecDepth 8000 in
theorem script_any (w : World) (aa sa : Option Addr) (ca sc n d u : Nat) (ar : List Int) (ha : IntsZ (fun _ => True) w aa ca ar) (hl : ar.length ≤ 1048576) (hs : OpsIn w d sa n u) (hu : u ≤ 1048576) :
    Calls Try.prog 8 #[.slice aa ar.length ca, .slice sa n sc] w fun e w' => e = .returned (.bool true) ∧ Below w.heap.size w w' := by
  have HS := Lib.hid hs
  have hn6 : n ≤ 1048576 := Nat.le_trans hs.count hu
  by_cases hok : ArOk ar
  · have cB := Lib.hid (begin_any aa ca ar ha hok)
    clear ha hs hok
    go_enter Try.func8, Try.ntmps8
    go_upto_region 2 with (first | (go_at_call 25; refine cB.out.mono ?_; rintro e W1 ⟨β, τ, C, rfl, hE, hB, hbar, hbn, hbl, sb, rb, hbp⟩))
    have HM := Lib.hid (Mid.begin (U := u) hE hB hbar hbn hbl hbp)
    obtain ⟨bk, hbk⟩ : ∃ b, β.bk = b := ⟨_, rfl⟩
    rw [hbk] at HM ⊢
    clear hE hB hbar hbn hbl hbp hbk cB
    go_wp2_with fail
    go_loopw [8] (fun i wr => ∃ (k : Nat) (us : List Nat) (βr : Book) (τr : Own) (Cr : List Box) (t : Nat), k ≤ n ∧ i = .int .i64 k ∧ t ≤ u ∧ Hid (Mid w bk u t βr τr Cr wr) ∧ Hid (t = (us.take k).sum ∧ (n = 0 ∨ ∃ d' b off, sa = some ⟨b, off, none⟩ ∧ us.length = n ∧ us.sum ≤ u ∧ ∀ (i v : Nat), us[i]? = some v → ∃ x : OpD, (∀ (j : Nat) y, x.cells[j]? = some y → w.cell? ⟨b, off + i * 8 + j, none⟩ = some y) ∧ OpIn (OpsIn w d') w x v))) (fun i _ => n - (intOf i).toNat)
    case atStart =>
      rcases HS.out.at with h | ⟨d', b, off, -, h1, us, h2, h3, h4⟩
      · exact ⟨0, [], β, τ, C, 0, Nat.zero_le _, rfl, Nat.zero_le _, HM, Lib.hid ⟨by simp, .inl h⟩⟩
      · exact ⟨0, us, β, τ, C, 0, Nat.zero_le _, rfl, Nat.zero_le _, HM, Lib.hid ⟨by simp, .inr ⟨d', b, off, h1, h2, h3, h4⟩⟩⟩
    case round =>
      obtain ⟨k, us, βr, τr, Cr, t, hk, rfl, htu, HMr, HU⟩ := hrel
      by_cases hlt : k < n
      · obtain ⟨ht, hn0 | ⟨d', b, off, rfl, hul, hus, hall⟩⟩ := HU.out
        · omega
        · obtain ⟨v, hv⟩ : ∃ v, us[k]? = some v := ⟨_, List.getElem?_eq_getElem (by omega)⟩
          obtain ⟨x, hc, hin⟩ := hall k v hv
          have hsum := take_sum_succ hv
          have hle := take_sum_le us (k + 1)
          have cF := Lib.hid (HMr.out.flat x hin (by omega) hu)
          obtain ⟨kind, on, ra, rc, l, nn, place, id, ia, inn, ic, say⟩ := x
          have c0 := on_cell HMr.out.E.below (hc 0 _ rfl)
          have c1 := on_cell HMr.out.E.below (hc 1 _ rfl)
          have c2 := on_cell HMr.out.E.below (hc 2 _ rfl)
          have c3 := on_cell HMr.out.E.below (hc 3 _ rfl)
          have c4 := on_cell HMr.out.E.below (hc 4 _ rfl)
          have c5 := on_cell HMr.out.E.below (hc 5 _ rfl)
          have c6 := on_cell HMr.out.E.below (hc 6 _ rfl)
          have c7 := on_cell HMr.out.E.below (hc 7 _ rfl)
          unfold OpD.cells opCells at cF c0 c1 c2 c3 c4 c5 c6 c7
          simp only [List.getElem_toArray, List.getElem_cons_zero, List.getElem_cons_succ] at c0 c1 c2 c3 c4 c5 c6 c7
          simp only at cF
          rw [Nat.add_zero] at c0
          have htv : t + v ≤ u := by omega
          have HT : Hid (t + v = (us.take (k + 1)).sum ∧ (n = 0 ∨ ∃ d' b' off', (some ⟨b, off, none⟩ : Option Addr) = some ⟨b', off', none⟩ ∧ us.length = n ∧ us.sum ≤ u ∧ ∀ (i v : Nat), us[i]? = some v → ∃ x : OpD, (∀ (j : Nat) y, x.cells[j]? = some y → w.cell? ⟨b', off' + i * 8 + j, none⟩ = some y) ∧ OpIn (OpsIn w d') w x v)) := Lib.hid ⟨by omega, .inr ⟨d', b, off, rfl, hul, hus, hall⟩⟩
          have hln : (us.take k).sum ≤ u := by omega
          clear hall hc hin hv hsum hle ht hul hus HU
          go_wp2_with (first
            | (go_at_call 26; refine cF.out.mono ?_; rintro e W2 ⟨rfl, β2, τ2, C2, HM2⟩; have cK := Lib.hid (HM2.out.kept htv hu))
            | (go_at_call 27; refine cK.out.mono ?_; rintro e W3 ⟨rfl, hb3⟩))
          go_roundw
          case rel => exact ⟨k + 1, us, β2, τ2, C2, t + v, by omega, by go_num, htv, Lib.hid (HM2.out.stay hb3), HT⟩
          case measure => simp [intOf]; omega
      · have cW := Lib.hid (HMr.out.whole htu hu)
        go_wp2_with (first | (go_at_call 28; refine cW.out.mono ?_; rintro e W4 ⟨rfl, hb4⟩))
        go_ret
        exact ⟨rfl, hb4⟩
  · have cB := Lib.hid (begin_bad aa ca ar ha (by omega) hok)
    clear ha hs hok
    go_enter Try.func8, Try.ntmps8
    go_wp2_with (first | (go_at_call 25; refine cB.out.mono ?_; rintro e W1 ⟨rfl, hb1⟩))
    go_ret
    exact ⟨rfl, hb1⟩
end Go.Proofs.Ytgodidoibcomcaa.Bk

namespace Go.Proofs.Ytgodidoibcomcaa.Bk
open Go.RowKit Go.ChangeShapes Go.WideShapes Go.Proofs.Ytgodidoibcomcaa
namespace Op
open Go.Proofs.Ytgodidoibcomcaa.Op

theorem mem_le {H : Type} {d : DataW H} {l : List (DataW H)} (h : d ∈ l) : Rows.uptoBulk d ≤ Rows.uptoBulkAll l := by
  induction l with
  | nil => cases h
  | cons x r ih =>
    simp only [Rows.uptoBulkAll]
    rcases List.mem_cons.1 h with rfl | h
    · omega
    · have := ih h
      omega
theorem cellsBool2 : Try.prog.cellsOf 4 = 1 := by kernel_rfl
theorem cellsOp : Try.prog.cellsOf 54 = 8 := by kernel_rfl
theorem cellsOps : Try.prog.cellsOf 48 = 1 := by kernel_rfl
section
variable {H : Type} {enc : TypeId × Value → H} {W : World} {held : Bool}
theorem open_rows2 {fuel : Nat} {v : Value} {x : DataW H × List MemPlace} (h : DataW.trod enc Try.prog W 0 (fun _ => true) held fuel 29 [v] = some x) :
    ∃ a c l, v = .slice a l.length c ∧ RowsZ (fun _ => True) W a c l ∧ l.length ≤ c ∧ (∀ r ∈ l, RowOk r) ∧ (∀ r ∈ l, r.2.length ≤ Rows.uptoBulk x.1) ∧ l.length + 1 ≤ Rows.uptoBulk x.1 := by
  rcases Deep.open_slice Try.underlying29 h with ⟨h1, rfl⟩ | ⟨a, len, cap, m, n, D, Pl, h1, _, hl, hm, hmm, rfl, hx⟩
  · simp at h1
    subst h1
    exact ⟨none, 0, [], rfl, ⟨.inl rfl, fun _ => ⟨rfl, rfl⟩⟩, by simp, by simp, by simp, by simp [Rows.uptoBulk]⟩
  · simp at h1 hmm
    subst h1; subst hmm
    rw [cellsRow] at hx
    have hi : ∀ i, i < len → ∃ s : Int × Option Addr × Nat × List Int, W.cell? (a.add (i * 2)) = some (.int .i64 s.1) ∧ W.cell? (a.add (i * 2 + 1)) = some (.slice s.2.1 s.2.2.2.length s.2.2.1) ∧ IntsZ (fun _ => True) W s.2.1 s.2.2.1 s.2.2.2 ∧ RowOk (s.1, s.2.2.2) ∧ s.2.2.2.length ≤ Rows.uptoBulk (D i) := by
      intro i hi
      obtain ⟨cs, c1, c2⟩ := hx i (by omega)
      obtain ⟨_, hlen, hc⟩ := World.cells?_some c1
      match cs, hlen with
      | [u0, u1], _ =>
        obtain ⟨y0, y1, k, hD, _, t0, t1⟩ := trod_struct2 Try.underlying28 c2
        have t0' : DataW.trod enc Try.prog W 0 (fun _ => true) held k 3 [u0] = some y0 := by simpa [cellsInt] using t0
        have t1' : DataW.trod enc Try.prog W 0 (fun _ => true) held k 22 [u1] = some y1 := by simpa [cellsInts] using t1
        obtain ⟨nv, e2, _, e3⟩ := DataW.trod_int Try.underlying3 t0'
        obtain ⟨ai, ci, xs, e4, hI, hR, hml, hbk⟩ := open_ints t1'
        simp at e2
        subst e2; subst e4
        have g0 := hc 0 (by omega)
        have g1 := hc 1 (by omega)
        have hD' : D i = .agg [y0.1, y1.1] := congrArg Prod.fst hD
        refine ⟨(nv, ai, ci, xs), ?_, ?_, hI, ⟨rng_wf e3, by unfold maxLen at hml; simpa using hml, hR⟩, ?_⟩
        · simpa [Addr.add] using g0
        · rw [Deep.add_add] at g1
          simpa using g1
        · rw [hD']
          simp only [Rows.uptoBulk, Rows.uptoBulkAll]
          omega
    obtain ⟨f, hf⟩ := Deep.choose_lt (α := Int × Option Addr × Nat × List Int) hi
    have hlen2 := length_le ((List.range len).map D)
    refine ⟨some a, m, (List.range len).map (fun i => ((f i).1, (f i).2.2.2)), by simp, ⟨?_, fun h => by cases h⟩, by simp; omega, ?_, ?_, ?_⟩
    · rcases Nat.eq_zero_or_pos len with h0 | h0
      · exact .inl (by simp [h0])
      · obtain ⟨b, o, sp⟩ := a
        have hs : sp = none := by
          have := World.cell?_spot (hf 0 h0).1
          simpa [Addr.add] using this
        subst hs
        refine .inr ⟨b, o, rfl, trivial, fun i hi => ?_⟩
        have hi' : i < len := by simpa using hi
        obtain ⟨g0, g1, g2, _⟩ := hf i hi'
        rw [addr_add] at g0 g1
        rw [← Nat.add_assoc] at g1
        refine ⟨by simpa using g0, (f i).2.1, (f i).2.2.1, by simpa using g1, by simpa using g2⟩
    · intro y hy
      obtain ⟨i, hi, rfl⟩ := List.mem_map.1 hy
      exact (hf i (by simpa using hi)).2.2.2.1
    · intro y hy
      obtain ⟨i, hi, rfl⟩ := List.mem_map.1 hy
      have h1 := (hf i (by simpa using hi)).2.2.2.2
      have h2 := mem_le (l := (List.range len).map D) (List.mem_map.2 ⟨i, hi, rfl⟩)
      simp only [Rows.uptoBulk]
      omega
    · simp only [Rows.uptoBulk, List.length_map, List.length_range] at hlen2 ⊢
      omega

theorem open_ops (b : Nat) : ∀ (fuel : Nat) (v : Value) (x : DataW H × List MemPlace), DataW.trod enc Try.prog W 0 (fun _ => true) held fuel 48 [v] = some x → Rows.uptoBulk x.1 ≤ b → b ≤ 1048576 →
    ∃ a n c, v = .slice a n c ∧ OpsIn W b a n (Rows.uptoBulk x.1) := by
  induction b with
  | zero =>
    intro fuel v x _ hb
    have := one_le x.1
    omega
  | succ b ih =>
    intro fuel v x h hb h6
    rcases Deep.open_slice Try.underlying48 h with ⟨h1, rfl⟩ | ⟨a, len, cap, m, n, D, Pl, h1, _, hl, hm, hmm, rfl, hx⟩
    · simp at h1
      subst h1
      exact ⟨none, 0, 0, rfl, .inl rfl⟩
    · simp at h1 hmm
      subst h1; subst hmm
      rw [cellsOp] at hx
      refine ⟨some a, len, m, rfl, ?_⟩
      simp only [Rows.uptoBulk] at hb ⊢
      have hi : ∀ i, i < len → ∃ y : OpD, (∀ j u, y.cells[j]? = some u → W.cell? (a.add (i * 8 + j)) = some u) ∧ OpIn (OpsIn W b) W y (Rows.uptoBulk (D i)) := by
        intro i hi
        obtain ⟨cs, c1, c2⟩ := hx i (by omega)
        obtain ⟨_, hlen, hc⟩ := World.cells?_some c1
        have hDle := mem_le (l := (List.range len).map D) (List.mem_map.2 ⟨i, List.mem_range.2 hi, rfl⟩)
        match cs, hlen with
        | [u0, u1, u2, u3, u4, u5, u6, u7], _ =>
          obtain ⟨xs, k, _, hD, hl8, hlx, hf⟩ := DataW.trod_struct Try.underlying54 c2
          match xs, hlx with
          | [y0, y1, y2, y3, y4, y5, y6, y7], _ =>
            have t0 := hf 0 _ rfl
            have t1 := hf 1 _ rfl
            have t2 := hf 2 _ rfl
            have t3 := hf 3 _ rfl
            have t4 := hf 4 _ rfl
            have t5 := hf 5 _ rfl
            have t6 := hf 6 _ rfl
            have t7 := hf 7 _ rfl
            simp [cellsInt, cellsRows, cellsBool2, cellsOps] at t0 t1 t2 t3 t4 t5 t6 t7
            obtain ⟨n0, e0, _, w0⟩ := DataW.trod_int Try.underlying3 t0
            obtain ⟨n1, e1, _, _⟩ := DataW.trod_int Try.underlying3 t1
            obtain ⟨ra, rc, l, rfl, S2, C2, R2, A2, B2⟩ := open_rows2 t2
            obtain ⟨n3, e3, _, w3⟩ := DataW.trod_int Try.underlying3 t3
            obtain ⟨n4, e4, _, w4⟩ := DataW.trod_int Try.underlying3 t4
            obtain ⟨n5, e5, _, w5⟩ := DataW.trod_int Try.underlying3 t5
            obtain ⟨b7, e7, _⟩ := DataW.trod_bool Try.underlying4 t7
            simp at e0 e1 e3 e4 e5 e7
            subst e0; subst e1; subst e3; subst e4; subst e5; subst e7
            have hD' : D i = .agg [y0.1, y1.1, y2.1, y3.1, y4.1, y5.1, y6.1, y7.1] := congrArg Prod.fst hD
            rw [hD'] at hDle ⊢
            simp only [Rows.uptoBulk, Rows.uptoBulkAll] at hDle ⊢
            have q0 := one_le y0.1
            have q1 := one_le y1.1
            have q3 := one_le y3.1
            have q4 := one_le y4.1
            have q5 := one_le y5.1
            have q7 := one_le y7.1
            obtain ⟨ia, inn, ic, rfl, hin⟩ := ih k u6 y6 t6 (by omega) (by omega)
            refine ⟨⟨n0, n1, ra, rc, l, n3, n4, n5, ia, inn, ic, b7⟩, fun j u hu => ?_, ⟨S2, C2, R2, fun r hr => by have := A2 r hr; omega, rng_wf w0, rng_wf w3, rng_wf w4, rng_wf w5, _, hin, by show Rows.uptoBulk y6.1 + l.length + 8 ≤ _; omega⟩⟩
            have hj : j < 8 := by
              have := (Array.getElem?_eq_some_iff.1 hu).1
              simpa [OpD.cells, opCells] using this
            have hcj := hc j hj
            rw [Deep.add_add] at hcj
            rw [hcj, ← hu]
            rcases j with _ | _ | _ | _ | _ | _ | _ | _ | j <;> first | rfl | omega
      have hsum := sum_le len (fun i => Rows.uptoBulk (D i)) D (fun i _ => Nat.le_refl _)
      have hsp : ∃ bb off, a = ⟨bb, off, none⟩ ∨ len = 0 := by
        rcases Nat.eq_zero_or_pos len with h0 | h0
        · exact ⟨0, 0, .inr h0⟩
        · obtain ⟨y, hy, _⟩ := hi 0 h0
          obtain ⟨bb, o, sp⟩ := a
          have hs : sp = none := by
            have := World.cell?_spot (hy 0 _ rfl)
            simpa [Addr.add] using this
          exact ⟨bb, o, .inl (by rw [hs])⟩
      rcases hsp with ⟨bb, off, rfl | h0⟩
      · refine .inr ⟨bb, off, rfl, (List.range len).map (fun i => Rows.uptoBulk (D i)), by simp, by omega, fun i v hv => ?_⟩
        have hil : i < len := by simpa using (List.getElem?_eq_some_iff.1 hv).1
        obtain ⟨y, hy, ho⟩ := hi i hil
        have e : v = Rows.uptoBulk (D i) := by
          rw [List.getElem?_map, List.getElem?_range hil] at hv
          simpa using hv.symm
        rw [e]
        exact ⟨y, fun j u hu => by
          have := hy j u hu
          rw [addr_add, ← Nat.add_assoc] at this
          exact this, ho⟩
      · exact .inl h0
end
end Op
end Go.Proofs.Ytgodidoibcomcaa.Bk

namespace Go.Proofs.Ytgodidoibcomcaa.storeScriptLaw
open Go.ChangeShapes Go.WideShapes Go.ChangeAt Go.RowKit Go.Joins

theorem own : ownKnob Try.prog.godebug = none := by kernel_rfl
theorem laidOut : laidOutB Try.prog = true := by kernel_rfl

set_option maxRecDepth 100000 in
theorem contract (H : Type) (enc : TypeId × Value → H) (W : World) (base : Nat) (args : Array Value) (ds gs : List (DataW H)) (before : List MemPlace)
    (hval0 : ∀ (j : Nat) t v, Try.f8.params[j]? = some t → args[j]? = some v → Value.okWide Try.prog W .any base t v)
    (hW : DataW.Whole enc Try.prog Try.f8.params.toList Rows.storeScriptSpec.vars false W args.toList ds gs before) (hk : Rows.uptoSmall H (ds ++ gs) = true) :
    Calls Try.prog 8 args W fun e W' => ∃ v, e = .returned v ∧ Rows.storeScriptSpec.post enc Try.prog Try.f8 false true false false W args v W' := by
  have hval : ∀ (j : Nat) t v, Try.f8.params[j]? = some t → args[j]? = some v → Value.okWide Try.prog W .any base t v := hval0
  have hW' := hW
  obtain ⟨p, q, hA0, hV, rfl, hfz, hnd⟩ := hW
  have hA : DataW.TrodAll enc Try.prog W 0 (fun _ => true) true Try.f8.params.toList args.toList ds p := hA0
  rw [Try.params8] at hA hval
  obtain ⟨v0, vs0, d0, ds0, p0, q0, hargs, rfl, rfl, h0, r0⟩ := trodAll_cons hA
  obtain ⟨v1, vs1, d1, ds1, p1, q1, rfl, rfl, rfl, h1, r1⟩ := trodAll_cons r0
  obtain ⟨rfl, rfl, rfl⟩ := trodAll_nil r1
  obtain rfl : args = #[v0, v1] := by cases args; simp_all
  obtain ⟨rfl, rfl⟩ := trodVars_none hV
  have k0 := h0
  have lt0 : ∀ x ∈ p0, x.block < W.heap.size := by obtain ⟨m, hm⟩ := k0; exact DataW.trod_lt m _ _ _ hm
  have k1 := h1
  have lt1 : ∀ x ∈ p1, x.block < W.heap.size := by obtain ⟨m, hm⟩ := k1; exact DataW.trod_lt m _ _ _ hm
  have hbulk := of_decide_eq_true hk
  simp only [List.append_nil] at hbulk
  simp only [Rows.uptoBulkAll] at hbulk
  obtain ⟨fu0, hf0⟩ := h0
  obtain ⟨ao0, av0, ac0, rfl⟩ := okWide_slice Try.underlying22 (hval 0 22 v0 rfl rfl)
  obtain ⟨a0, cp0, l0, ev0, S0, R0, M0, B0⟩ := Op.open_ints (by simpa [Value.cells] using hf0)
  rw [ev0] at hf0 k0 hW' ⊢
  simp only at B0
  unfold maxLen at M0
  obtain ⟨fu1, hf1⟩ := h1
  obtain ⟨ao1, av1, ac1, rfl⟩ := okWide_slice Try.underlying48 (hval 1 48 v1 rfl rfl)
  obtain ⟨a1, n1, cp1, ev1, S1⟩ := Bk.Op.open_ops 1048576 fu1 _ _ (by simpa [Value.cells] using hf1) (by simp only; omega) (Nat.le_refl _)
  rw [ev1] at hf1 k1 hW' ⊢
  simp only at S1
  clear hA0 hval0
  simp only [List.append_nil] at hW'
  refine (Bk.script_any W a0 a1 cp0 cp1 n1 1048576 _ l0 S0 (by omega) S1 (by omega)).mono fun e W' ⟨he, bel⟩ => ?_
  subst he
  exact ⟨_, rfl, _, _, _, [], _, [], hW', trodAll_mk1 (shut_bool Try.underlying4 _), (trodAll_cons_mk (Below.trod laidOut (by kernel_rfl) (of_decide_eq_true (by kernel_rfl)) k0 bel lt0) (trodAll_cons_mk (Below.trod laidOut (by kernel_rfl) (of_decide_eq_true (by kernel_rfl)) k1 bel lt1) trodAll_mk0)), rfl, bel.frame _, fun h => by cases h⟩

set_option maxRecDepth 100000 in
theorem lifted (os : Os) (started : os.Started) (H : Type) (enc : TypeId × Value → H) (F : Stop.Interp) :
    ReturnsInHanded {} Try.checked os 8 .any ((Rows.OpenSpec.upto Rows.storeScriptSpec).pre6 enc Try.prog Try.f8 Rows.storeScriptUptoRow.domain false) (((Rows.OpenSpec.upto Rows.storeScriptSpec).at F).post enc Try.prog Try.f8 false true false false) := by
  refine returnsInHanded_of_cond (C := Try.checked) (s := Rows.OpenSpec.upto Rows.storeScriptSpec) (k := Rows.uptoSmall) rfl own started (by kernel_rfl) Try.func8
    (OpenSpec.witness (enc := enc) (C := Try.checked) (s := Rows.OpenSpec.upto Rows.storeScriptSpec) (k := Rows.uptoSmall) rfl false ⟨#[], #[.slice none 0 0, .slice none 0 0], []⟩ 8 (by kernel_rfl) (by kernel_rfl) (by kernel_rfl)
      (x := ([.nil, .nil], [], [])) (by kernel_rfl) rfl (by kernel_rfl)) ?_
  intro W base args ds gs before hval hW _ hk _
  exact contract H enc W base args ds gs before hval hW hk

theorem proved : Rows.StoreScriptUptoSaid :=
  OpenClaim.holds_of_cond 8 Try.f8 rfl rfl rfl rfl rfl rfl rfl ⟨rfl, rfl, rfl, rfl, rfl⟩ rfl rfl rfl rfl rfl (by kernel_rfl) Try.func8 (by kernel_rfl)
    (of_decide_eq_true (by kernel_rfl)) (by unfold Func.isWrapper; first | (rw [if_pos (by decide +kernel)]; kernel_rfl) | (rw [if_neg (by decide +kernel)]; exact ⟨rfl, rfl⟩))
    (fun os started H enc _ F => lifted os started H enc F)
#print axioms proved
end Go.Proofs.Ytgodidoibcomcaa.storeScriptLaw
