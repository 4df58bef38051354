/-
  The law StoreTries is proved, where what it reads is of bulk at most 1048576: the call returns true, and its arguments read behind it as they read before.
-/
import Derived.Test.YtgodidoibcomcaaK4
import Derived.Test.YtgodidoibcomcaaK5
import Derived.Test.YtgodidoibcomcaaK6
import Derived.Test.YtgodidoibcomcaaK7
import Derived.Test.YtgodidoibcomcaaK8
import Derived.Test.YtgodidoibcomcaaK9
import Derived.Test.YtgodidoibcomcaaK3
import Derived.ProofKit
import Derived.OpenShut
import Derived.ChangeOld
import Derived.Below
import Derived.SizedLaws
import Derived.Lib.SmallJoins
import Derived.JoinedCond
namespace Go.Proofs.Ytgodidoibcomcaa.Bk
open Go.RowKit Go.Proofs.Ytgodidoibcomcaa

theorem flat_any {w0 : World} {τ : Own} {w : World} {β : Book} {C : List Box} {U u v : Nat} {Ops : Option Addr → Nat → Nat → Prop} (E : Env w0 τ w (ents β.ar β.ps) [] C) (B : BookOk β C) (HP : ∀ p ∈ β.ps, PrOk p) (x : OpD) (hx : OpIn Ops w0 x u) (hL : Lim U β v) (hU : v + u ≤ U) (hU2 : U ≤ 1048576) :
    Calls Try.prog 26 #[.pointer (some ⟨β.bk, 0, none⟩), .agg x.cells] w (FlatEnd w0 β C U (v + u) w) := by
  by_cases h0 : x.kind = 0
  · exact flat_Add E B HP x hx hL hU hU2 h0
  by_cases h1 : x.kind = 1
  · exact flat_Has E B HP x hx hL hU hU2 h1
  by_cases h2 : x.kind = 2
  · exact flat_Num E B HP x hx hL hU hU2 h2
  by_cases h3 : x.kind = 3
  · exact flat_Row E B HP x hx hL hU hU2 h3
  by_cases h4 : x.kind = 4
  · exact flat_Len E B HP x hx hL hU hU2 h4
  by_cases h5 : x.kind = 5
  · exact flat_Of E B HP x hx hL hU hU2 h5
  by_cases h6 : x.kind = 6
  · exact flat_Where E B HP x hx hL hU hU2 h6
  by_cases h7 : x.kind = 7
  · exact flat_Undo E B HP x hx hL hU hU2 h7
  by_cases h8 : x.kind = 8
  · exact flat_Copy E B HP x hx hL hU hU2 h8
  by_cases h11 : x.kind = 11
  · exact flat_TryN E B HP x hx hL hU hU2 h11
  by_cases h12 : x.kind = 12
  · exact flat_EachN E B HP x hx hL hU hU2 h12
  · exact flat_Other E B HP x hx hL hU hU2 ⟨by simpa using h0, by simpa using h1, by simpa using h2, by simpa using h3, by simpa using h4, by simpa using h5, by simpa using h6, by simpa using h7, by simpa using h8, by simpa using h11, by simpa using h12⟩
end Go.Proofs.Ytgodidoibcomcaa.Bk

namespace Go.Proofs.Ytgodidoibcomcaa.Bk
open Go.RowKit Go.Proofs.Ytgodidoibcomcaa

/-- between two steps of a script: the book, and what the steps so far have weighed -/
structure Mid (w0 : World) (bk : Nat) (U t : Nat) (β : Book) (τ : Own) (C : List Box) (w : World) : Prop where
  E : Env w0 τ w (ents β.ar β.ps) [] C
  B : BookOk β C
  P : ∀ p ∈ β.ps, PrOk p
  L : Lim U β t
  bk : β.bk = bk
  low : ∀ p ∈ β.ps, p.lows.length ≤ 0
theorem Mid.step {w0 : World} {bk U t t' : Nat} {β β' : Book} {τ τ' : Own} {C C' : List Box} {w w' : World} (M : Mid w0 bk U t β τ C w) (S : Step w0 β C w β' τ' C' w') (l : BLater β β') (h : Lim U β' t') : Mid w0 bk U t' β' τ' C' w' :=
  ⟨S.E, S.ok, l.ok, h, S.bk.trans M.bk, l.low 0 M.low⟩
theorem Mid.stay {w0 : World} {bk U t : Nat} {β : Book} {τ : Own} {C : List Box} {w w' : World} (M : Mid w0 bk U t β τ C w) (hb : Below w.heap.size w w') : Mid w0 bk U t β τ C w' :=
  ⟨M.E.stay hb, M.B, M.P, M.L, M.bk, M.low⟩
theorem Mid.begin {w w' : World} {ar : List Int} {β : Book} {τ : Own} {C : List Box} {U : Nat} (hE : Env w τ w' (ents ar β.ps) [] C) (hB : BookOk β C) (ha : β.ar = ar) (hn : β.next = 0) (hl : β.lists = []) {sb rb : Nat} (hp : β.ps = [⟨sb, rb, [], [], 0, [], 0⟩]) : Mid w β.bk U 0 β τ C w' := by
  refine ⟨by rw [ha]; exact hE, hB, fun p h => ?_, ⟨?_, fun p h => ?_, ?_, ?_, ?_⟩, rfl, fun p h => ?_⟩
  · rw [hp, List.mem_singleton] at h
    subst h
    exact ⟨rfl, fun x hx => (by cases hx), fun x hx => (by cases hx), fun x hx => (by cases hx)⟩
  · rw [hp]; exact Nat.le_refl _
  · rw [hp, List.mem_singleton] at h
    subst h
    simp
  · rw [hn]; exact Int.le_refl _
  · rw [hn]; simp
  · rw [hl]; simp
  · rw [hp, List.mem_singleton] at h
    subst h
    simp
theorem Mid.whole {w0 : World} {bk U t : Nat} {β : Book} {τ : Own} {C : List Box} {w : World} (M : Mid w0 bk U t β τ C w) (ht : t ≤ U) (hU : U ≤ 1048576) :
    Calls Try.prog 28 #[.pointer (some ⟨bk, 0, none⟩)] w fun e w' => e = .returned (.bool true) ∧ Below w0.heap.size w0 w' := by
  have h1 := M.L.ps
  have h2 := M.L.next
  have h3 := M.L.lists
  have h4 := U_next ht hU
  have h5 := U_lists ht hU
  have h := whole_any M.E M.B (by omega) (fun p hp => by rw [show p.rows.length = p.rs.length from List.length_map _]; have := M.L.rs p hp; omega) M.L.next0 (by omega) (by omega)
  rw [M.bk] at h
  exact h
theorem Mid.kept {w0 : World} {bk U t : Nat} {β : Book} {τ : Own} {C : List Box} {w : World} (M : Mid w0 bk U t β τ C w) (ht : t ≤ U) (hU : U ≤ 1048576) :
    Calls Try.prog 27 #[.pointer (some ⟨bk, 0, none⟩)] w fun e w' => e = .returned (.bool true) ∧ Below w.heap.size w w' := by
  have h3 := M.L.lists
  have h5 := U_lists ht hU
  have h := kept_any M.E M.B (by omega) M.B.big
  rw [M.bk] at h
  exact h
theorem Mid.flat {w0 : World} {bk U t u : Nat} {β : Book} {τ : Own} {C : List Box} {w : World} {Ops : Option Addr → Nat → Nat → Prop} (M : Mid w0 bk U t β τ C w) (x : OpD) (hx : OpIn Ops w0 x u) (ht : t + u ≤ U) (hU : U ≤ 1048576) :
    Calls Try.prog 26 #[.pointer (some ⟨bk, 0, none⟩), .agg x.cells] w fun e w' => e = .returned (.bool true) ∧ ∃ β' τ' C', Hid (Mid w0 bk U (t + u) β' τ' C' w') := by
  have h := flat_any M.E M.B M.P x hx M.L ht hU
  rw [M.bk] at h
  refine h.mono ?_
  rintro e w' ⟨rfl, β', τ', C', S, l, hl⟩
  exact ⟨rfl, β', τ', C', Lib.hid (M.step S l hl)⟩

theorem OpsIn.count {w : World} {d : Nat} {a : Option Addr} {n u : Nat} (h : OpsIn w d a n u) : n ≤ u := by
  rcases h.at with h | ⟨d', b, off, -, -, us, h2, h3, h4⟩
  · omega
  · have h5 := sum_ge us 1 (fun v hv => by
      obtain ⟨i, hi⟩ := List.mem_iff_getElem?.1 hv
      obtain ⟨x, -, hx⟩ := h4 i v hi
      have := hx.weigh
      omega)
    omega
set_option maxHeartbeats 8000000 in
set_option maxRecDepth 8000 in
theorem script_any (w : World) (aa sa : Option Addr) (ca sc n d u : Nat) (ar : List Int) (ha : IntsZ (fun _ => True) w aa ca ar) (hl : ar.length ≤ 1048576) (hs : OpsIn w d sa n u) (hu : u ≤ 1048576) :
    Calls Try.prog 8 #[.slice aa ar.length ca, .slice sa n sc] w fun e w' => e = .returned (.bool true) ∧ Below w.heap.size w w' := by
  have HS := Lib.hid hs
  have hn6 : n ≤ 1048576 := Nat.le_trans hs.count hu
  by_cases hok : ArOk ar
  · have cB := Lib.hid (begin_any aa ca ar ha hok)
    clear ha hs hok
    go_enter Try.func8, Try.ntmps8
    go_upto_region 2 with (first | (go_at_call 25; refine cB.out.mono ?_; rintro e W1 ⟨β, τ, C, rfl, hE, hB, hbar, hbn, hbl, sb, rb, hbp⟩))
    have HM := Lib.hid (Mid.begin (U := u) hE hB hbar hbn hbl hbp)
    obtain ⟨bk, hbk⟩ : ∃ b, β.bk = b := ⟨_, rfl⟩
    rw [hbk] at HM ⊢
    clear hE hB hbar hbn hbl hbp hbk cB
    go_wp2_with fail
    go_loopw [8] (fun i wr => ∃ (k : Nat) (us : List Nat) (βr : Book) (τr : Own) (Cr : List Box) (t : Nat), k ≤ n ∧ i = .int .i64 k ∧ t ≤ u ∧ Hid (Mid w bk u t βr τr Cr wr) ∧ Hid (t = (us.take k).sum ∧ (n = 0 ∨ ∃ d' b off, sa = some ⟨b, off, none⟩ ∧ us.length = n ∧ us.sum ≤ u ∧ ∀ (i v : Nat), us[i]? = some v → ∃ x : OpD, (∀ (j : Nat) y, x.cells[j]? = some y → w.cell? ⟨b, off + i * 8 + j, none⟩ = some y) ∧ OpIn (OpsIn w d') w x v))) (fun i _ => n - (intOf i).toNat)
    case atStart =>
      rcases HS.out.at with h | ⟨d', b, off, -, h1, us, h2, h3, h4⟩
      · exact ⟨0, [], β, τ, C, 0, Nat.zero_le _, rfl, Nat.zero_le _, HM, Lib.hid ⟨by simp, .inl h⟩⟩
      · exact ⟨0, us, β, τ, C, 0, Nat.zero_le _, rfl, Nat.zero_le _, HM, Lib.hid ⟨by simp, .inr ⟨d', b, off, h1, h2, h3, h4⟩⟩⟩
    case round =>
      obtain ⟨k, us, βr, τr, Cr, t, hk, rfl, htu, HMr, HU⟩ := hrel
      by_cases hlt : k < n
      · obtain ⟨ht, hn0 | ⟨d', b, off, rfl, hul, hus, hall⟩⟩ := HU.out
        · omega
        · obtain ⟨v, hv⟩ : ∃ v, us[k]? = some v := ⟨_, List.getElem?_eq_getElem (by omega)⟩
          obtain ⟨x, hc, hin⟩ := hall k v hv
          have hsum := take_sum_succ hv
          have hle := take_sum_le us (k + 1)
          have cF := Lib.hid (HMr.out.flat x hin (by omega) hu)
          obtain ⟨kind, on, ra, rc, l, nn, place, id, ia, inn, ic, say⟩ := x
          have c0 := on_cell HMr.out.E.below (hc 0 _ rfl)
          have c1 := on_cell HMr.out.E.below (hc 1 _ rfl)
          have c2 := on_cell HMr.out.E.below (hc 2 _ rfl)
          have c3 := on_cell HMr.out.E.below (hc 3 _ rfl)
          have c4 := on_cell HMr.out.E.below (hc 4 _ rfl)
          have c5 := on_cell HMr.out.E.below (hc 5 _ rfl)
          have c6 := on_cell HMr.out.E.below (hc 6 _ rfl)
          have c7 := on_cell HMr.out.E.below (hc 7 _ rfl)
          unfold OpD.cells opCells at cF c0 c1 c2 c3 c4 c5 c6 c7
          simp only [List.getElem_toArray, List.getElem_cons_zero, List.getElem_cons_succ] at c0 c1 c2 c3 c4 c5 c6 c7
          simp only at cF
          rw [Nat.add_zero] at c0
          have htv : t + v ≤ u := by omega
          have HT : Hid (t + v = (us.take (k + 1)).sum ∧ (n = 0 ∨ ∃ d' b' off', (some ⟨b, off, none⟩ : Option Addr) = some ⟨b', off', none⟩ ∧ us.length = n ∧ us.sum ≤ u ∧ ∀ (i v : Nat), us[i]? = some v → ∃ x : OpD, (∀ (j : Nat) y, x.cells[j]? = some y → w.cell? ⟨b', off' + i * 8 + j, none⟩ = some y) ∧ OpIn (OpsIn w d') w x v)) := Lib.hid ⟨by omega, .inr ⟨d', b, off, rfl, hul, hus, hall⟩⟩
          have hln : (us.take k).sum ≤ u := by omega
          clear hall hc hin hv hsum hle ht hul hus HU
          go_wp2_with (first
            | (go_at_call 26; refine cF.out.mono ?_; rintro e W2 ⟨rfl, β2, τ2, C2, HM2⟩; have cK := Lib.hid (HM2.out.kept htv hu))
            | (go_at_call 27; refine cK.out.mono ?_; rintro e W3 ⟨rfl, hb3⟩))
          go_roundw
          case rel => exact ⟨k + 1, us, β2, τ2, C2, t + v, by omega, by go_num, htv, Lib.hid (HM2.out.stay hb3), HT⟩
          case measure => simp [intOf]; omega
      · have cW := Lib.hid (HMr.out.whole htu hu)
        go_wp2_with (first | (go_at_call 28; refine cW.out.mono ?_; rintro e W4 ⟨rfl, hb4⟩))
        go_ret
        exact ⟨rfl, hb4⟩
  · have cB := Lib.hid (begin_bad aa ca ar ha (by omega) hok)
    clear ha hs hok
    go_enter Try.func8, Try.ntmps8
    go_wp2_with (first | (go_at_call 25; refine cB.out.mono ?_; rintro e W1 ⟨rfl, hb1⟩))
    go_ret
    exact ⟨rfl, hb1⟩
end Go.Proofs.Ytgodidoibcomcaa.Bk

namespace Go.Proofs.Ytgodidoibcomcaa.Bk
open Go.RowKit Go.Proofs.Ytgodidoibcomcaa

/-- what steps make of a book, but for what is kept for Trys -/
structure BL (β β' : Book) : Prop where
  more : β.ps.length ≤ β'.ps.length
  each : ∀ (k : Nat) (p : Pr), β.ps[k]? = some p → ∃ p', β'.ps[k]? = some p' ∧ Later p p'
  ok : ∀ p ∈ β'.ps, PrOk p
theorem BLater.bl {β β' : Book} (h : BLater β β') : BL β β' := ⟨h.more, h.each, h.ok⟩
theorem BL.trans {β β1 β2 : Book} (h : ∀ p ∈ β.ps, PrOk p) (a : BL β β1) (b : BL β1 β2) : BL β β2 :=
  ⟨Nat.le_trans a.more b.more, fun k p hp => by
    obtain ⟨p1, h1, l1⟩ := a.each k p hp
    obtain ⟨p2, h2, l2⟩ := b.each k p1 h1
    exact ⟨p2, h2, l1.trans (h p (List.mem_of_getElem? hp)) l2⟩, b.ok⟩
/-- no more is kept for Trys than what the steps so far have weighed -/
def Lows (β : Book) (t : Nat) : Prop := ∀ p ∈ β.ps, p.lows.length ≤ t
def PlayEnd (w0 : World) (β : Book) (C : List Box) (U t : Nat) (w : World) (e : Ending) (w' : World) : Prop :=
  e = .returned (.bool true) ∧ ∃ (β' : Book) (τ' : Own) (C' : List Box), Step w0 β C w β' τ' C' w' ∧ BL β β' ∧ Lim U β' t ∧ Lows β' t
/-- a step is played, at whatever book -/
def Plays (w0 : World) (y : OpD) (v' : Nat) : Prop := ∀ {τ : Own} {w : World} {β : Book} {C : List Box} {U v : Nat}, Env w0 τ w (ents β.ar β.ps) [] C → BookOk β C → (∀ p ∈ β.ps, PrOk p) → Lows β v → Lim U β v → v + v' ≤ U → U ≤ 1048576 →
  Calls Try.prog 29 #[.pointer (some ⟨β.bk, 0, none⟩), .agg y.cells] w (PlayEnd w0 β C U (v + v') w)
/-- the inner steps are played -/
def InnerOk (w0 : World) (ia : Option Addr) (inn ui : Nat) : Prop := inn = 0 ∨ ∃ b off, ia = some ⟨b, off, none⟩ ∧ ∃ us : List Nat, us.length = inn ∧ us.sum ≤ ui ∧ ∀ (i v : Nat), us[i]? = some v → 8 ≤ v ∧ ∃ y : OpD, (∀ (j : Nat) z, y.cells[j]? = some z → w0.cell? ⟨b, off + i * 8 + j, none⟩ = some z) ∧ Plays w0 y v

section
variable {w0 : World} {τ : Own} {w : World} {S : List Ent} {β : Book} {C C' : List Box}
theorem BookOk.more (B : BookOk β C) (h : ∀ x ∈ C, x ∈ C') : BookOk β C' :=
  ⟨h _ B.head, B.st.mono fun x hx _ => h x hx, B.rf.mono fun x hx _ => h x hx, B.ls.mono fun x hx _ => h x hx, fun x hx => by
    obtain ⟨xs, h1, h2⟩ := B.kept x hx
    exact ⟨xs, h1.mono fun x hx _ => h x hx, h2.mono fun x hx _ => h x hx⟩, B.many, B.pos⟩
/-- a box of another type is none of the book's own -/
theorem BookOk.far (B : BookOk β C) (E : Env w0 τ w S [] C) {g : Nat} {c : Array Value} {T : TypeId} (hx : (g, Obj.cells c T (0, 0)) ∈ C) (h1 : T ≠ 96) (h2 : 25 ≠ T) (h3 : 89 ≠ T) (h4 : 102 ≠ T) : g ≠ β.bk ∧ β.vS.ownBlock ≠ some g ∧ β.vR.ownBlock ≠ some g ∧ β.vL.ownBlock ≠ some g :=
  ⟨E.other hx B.head h1, B.st.apartHead hx E h2, B.rf.apartHead hx E h3, B.ls.apartHead hx E h4⟩
theorem Step.box {β' : Book} {τ τ' : Own} {w w' : World} (St : Step w0 β C w β' τ' C' w') (B : BookOk β C) (E : Env w0 τ w S [] C) {g : Nat} {c : Array Value} {T : TypeId} (hx : (g, Obj.cells c T (0, 0)) ∈ C) (h1 : T ≠ 96) (h2 : 25 ≠ T) (h3 : 89 ≠ T) (h4 : 102 ≠ T) : (g, Obj.cells c T (0, 0)) ∈ C' := by
  obtain ⟨a, b, c', d⟩ := B.far E hx h1 h2 h3 h4
  exact St.old _ hx a b c' d
theorem upd_same {g : Nat} {o : Obj} (hk : (C.map (·.1)).Nodup) (hx : (g, o) ∈ C) : upd C g o = C := by
  unfold upd
  conv => rhs; rw [← List.map_id C]
  apply List.map_congr_left
  intro x hxC
  split
  · rename_i e
    obtain ⟨i, hi⟩ := List.mem_iff_getElem?.1 hxC
    obtain ⟨j, hj⟩ := List.mem_iff_getElem?.1 hx
    have h1 : (C.map (·.1))[i]? = some g := by rw [List.getElem?_map, hi]; simp [e]
    have h2 : (C.map (·.1))[j]? = some g := by rw [List.getElem?_map, hj]; rfl
    have hlt : i < (C.map (·.1)).length := (List.getElem?_eq_some_iff.1 h1).1
    have := (List.getElem?_inj hlt hk).1 (h1.trans h2.symm)
    subst this
    rw [hi] at hj
    simp only [Option.some.injEq] at hj
    rw [hj]
    rfl
  · rfl
/-- a variable is written as it was -/
theorem Env.again {L : List RSl} (E : Env w0 τ w S L C) (hs : ∀ z ∈ S, z.s ≠ boxS) {g : Nat} {v : Value} {T : TypeId} (hx : (g, Obj.cells #[v] T (0, 0)) ∈ C) : Env w0 τ (w.setCell ⟨g, 0, none⟩ v) S L C := by
  have h := E.setAt hs hx 0 v
  rw [show (#[v] : Array Value).setIfInBounds 0 v = #[v] from rfl, upd_same E.keys hx] at h
  exact h
theorem Step.world {β' : Book} {τ' : Own} {w w' w'' : World} (St : Step w0 β C w β' τ' C' w') (E : Env w0 τ' w'' (ents β'.ar β'.ps) [] C') (hs : w'.heap.size = w''.heap.size) : Step w0 β C w β' τ' C' w'' :=
  ⟨E, St.ok, St.bk, St.ar, hs ▸ St.size, St.old, St.gS, St.gR, St.gL, St.off⟩
/-- a step behind more boxes -/
theorem Env.boxLt {L : List RSl} (E : Env w0 τ w S L C) {g : Nat} {o : Obj} (h : (g, o) ∈ C) : g < w.heap.size := (Array.getElem?_eq_some_iff.1 (E.boxes _ h).2).1
end

/-- what Try's function leaves -/
structure TryP (β : Book) (C : List Box) (k : Nat) (p : Pr) (U t : Nat) (w : World) (cb okb ob bb : Nat) (oc : Array Value) (sayv : Bool) (say : Bool) (rows2 : List (Row × Int)) (ls2 : List (Nat × Int)) (kk n2 : Nat) (S2 : List Ent) (L2 : List RSl) (C2 : List Box) : Prop where
  say : say = sayv
  noL : L2 = []
  ex : ∃ βT pT, βT.ps[k]? = some pT ∧ LaterM kk p pT ∧ pT.rs = rows2 ∧ pT.lows = ls2 ∧ pT.n = n2 ∧ (∀ x ∈ ents βT.ar βT.ps, x.s ≠ 2 * k + 1 → x ∈ S2) ∧ BookOk βT C2 ∧ BL β βT ∧ Lim U βT t ∧ Lows βT t ∧ βT.bk = β.bk ∧ βT.ar = β.ar ∧
    (∀ x ∈ C, x.1 ≠ β.bk → β.vS.ownBlock ≠ some x.1 → β.vR.ownBlock ≠ some x.1 → β.vL.ownBlock ≠ some x.1 → x ∈ C2) ∧ (∀ g, βT.vS.ownBlock = some g → β.vS.ownBlock = some g ∨ w.heap.size ≤ g) ∧ (∀ g, βT.vR.ownBlock = some g → β.vR.ownBlock = some g ∨ w.heap.size ≤ g) ∧
    (∀ g, βT.vL.ownBlock = some g → β.vL.ownBlock = some g ∨ w.heap.size ≤ g) ∧ (∀ u, Off β u → (∀ g, u.ownBlock = some g → g < w.heap.size) → Off βT u)
  b1 : (cb, Obj.cells #[.int .i64 1] 3 (0, 0)) ∈ C2
  b2 : (okb, Obj.cells #[.bool true] 4 (0, 0)) ∈ C2
  b3 : (ob, Obj.cells oc 54 (0, 0)) ∈ C2
  b4 : (bb, Obj.cells #[.pointer (some ⟨β.bk, 0, none⟩)] 49 (0, 0)) ∈ C2

/-- what the inner steps have left so far -/
structure InLoop (w0 : World) (β1 : Book) (C1 : List Box) (w1 : World) (U t : Nat) (cb okb ob bb : Nat) (oc : Array Value) (βr : Book) (τr : Own) (Cr : List Box) (wr : World) : Prop where
  st : Step w0 β1 C1 w1 βr τr Cr wr
  l : BL β1 βr
  lim : Lim U βr t
  low : Lows βr t
  b1 : (cb, Obj.cells #[.int .i64 1] 3 (0, 0)) ∈ Cr
  b2 : (okb, Obj.cells #[.bool true] 4 (0, 0)) ∈ Cr
  b3 : (ob, Obj.cells oc 54 (0, 0)) ∈ Cr
  b4 : (bb, Obj.cells #[.pointer (some ⟨β1.bk, 0, none⟩)] 49 (0, 0)) ∈ Cr
theorem InLoop.step {w0 : World} {β1 βr β2 : Book} {C1 Cr C2 : List Box} {w1 wr w2 : World} {U t t' cb okb ob bb : Nat} {oc : Array Value} {τ1 τr τ2 : Own} {S : List Ent} (I : InLoop w0 β1 C1 w1 U t cb okb ob bb oc βr τr Cr wr) (E1 : Env w0 τ1 w1 S [] C1) (P1 : ∀ p ∈ β1.ps, PrOk p) (St : Step w0 βr Cr wr β2 τ2 C2 w2) (l : BL βr β2) (h : Lim U β2 t') (h2 : Lows β2 t') : InLoop w0 β1 C1 w1 U t' cb okb ob bb oc β2 τ2 C2 w2 :=
  ⟨I.st.trans St E1, I.l.trans P1 l, h, h2, St.box I.st.ok I.st.E I.b1 (by decide) (by decide) (by decide) (by decide), St.box I.st.ok I.st.E I.b2 (by decide) (by decide) (by decide) (by decide), St.box I.st.ok I.st.E I.b3 (by decide) (by decide) (by decide) (by decide), St.box I.st.ok I.st.E I.b4 (by decide) (by decide) (by decide) (by decide)⟩

/-- the boxes that try has made, behind those that were there -/
def tryBoxes (cb okb ob bb bk : Nat) (oc : Array Value) (C : List Box) : List Box := (cb, .cells #[.int .i64 0] 3 (0, 0)) :: (okb, .cells #[.bool true] 4 (0, 0)) :: (ob, .cells oc 54 (0, 0)) :: (bb, .cells #[.pointer (some ⟨bk, 0, none⟩)] 49 (0, 0)) :: C
/-- at the end of the function that Try is handed -/
theorem try1_end {w0 : World} {τ1 τr : Own} {w w1 wr : World} {β : Book} {C X Cr : List Box} {U t k b5 cb okb ob bb : Nat} {p p1 : Pr} {oc : Array Value} {sayv : Bool} {βr : Book} {C1 : List Box} (HP : ∀ p ∈ β.ps, PrOk p) (hp : β.ps[k]? = some p) (hp1 : p1 = { p with lows := p.lows ++ [(b5, (p.rs.length : Int))] })
    (E1 : Env w0 τ1 w1 (ents β.ar (β.ps.set k p1)) [] C1) (hC1 : ∀ x ∈ C, x ∈ C1) (hX : ∀ x ∈ X, x.1 < w1.heap.size ∧ x.1 ≠ β.bk ∧ β.vS.ownBlock ≠ some x.1 ∧ β.vR.ownBlock ≠ some x.1 ∧ β.vL.ownBlock ≠ some x.1 ∧ x ∈ C1 ∧ (∀ y ∈ β.lists, y.1.ownBlock ≠ some x.1 ∧ y.2.ownBlock ≠ some x.1)) (hXn : (X.map (·.1)).Nodup) (hXc : ∀ x ∈ X, x.1 ≠ cb ∧ x.1 ≠ okb ∧ x.1 ≠ ob ∧ x.1 ≠ bb)
    (hXC : ∀ x ∈ X, ∀ y ∈ C, x.1 ≠ y.1) (hw1 : w.heap.size ≤ w1.heap.size) (I : InLoop w0 (β.put k p1) C1 w1 U t cb okb ob bb oc βr τr Cr wr) (hn : t ≤ 100000000000) :
    ∃ (rows2 : List (Row × Int)) (ls2 : List (Nat × Int)) (kk n2 : Nat) (S2 : List Ent) (C2 : List Box), Env w0 τr wr (⟨2 * k + 1, p.sb, β.ar, rows2, ls2 ++ [(b5, (kk : Int))], n2⟩ :: S2) [] (X ++ C2) ∧ ls2.length = p.lows.length ∧ kk ≤ rows2.length ∧ n2 ≤ 100000000000 ∧ (∀ z ∈ S2, z.s ≠ 2 * k + 1) ∧ (∀ z ∈ S2, z.s ≠ boxS) ∧ TryP β C k p U t w cb okb ob bb oc sayv sayv rows2 ls2 kk n2 S2 [] C2 := by
  have hk := (List.getElem?_eq_some_iff.1 hp).1
  have hq := HP p (List.mem_of_getElem? hp)
  have hp1' : (β.put k p1).ps[k]? = some p1 := by show (β.ps.set k p1)[k]? = _; rw [List.getElem?_set_self hk]
  obtain ⟨p2, hp2, m, L⟩ := I.l.each k p1 hp1'
  obtain ⟨new, newb, hm, e1, e2, e3, e4, e5, e6⟩ := L.ex
  have hmp : m ≤ p.rs.length := by rw [hp1] at hm; exact hm
  have hlow : p2.lows = lowTo m p.lows ++ [(b5, (m : Int))] := by
    rw [e6, hp1]
    unfold lowTo
    rw [List.map_append]
    simp only [List.map_cons, List.map_nil]
    congr 3
    omega
  obtain ⟨pT, hpT⟩ : ∃ q, q = { p2 with lows := lowTo m p.lows } := ⟨_, rfl⟩
  have LT : LaterM m p pT := by
    have hsb := L.sb; have hrb := L.rb; have hnn := L.n; have hcc := L.clock
    rw [hp1] at hsb hrb hnn hcc e1 e2 e4 e5
    rw [hpT]
    exact ⟨hsb, hrb, hnn, hcc, new, newb, hmp, e1, e2, e3, e4, e5, rfl⟩
  have hk2 := (List.getElem?_eq_some_iff.1 hp2).1
  have hN2 := I.st.ok.many
  have harr : βr.ar = β.ar := I.st.ar
  have hbkr : βr.bk = β.bk := I.st.bk
  have hset : (βr.ps.set k pT)[k]? = some pT := List.getElem?_set_self hk2
  have hkeys : ((X ++ Cr.filter (fun x => decide (x.1 ∉ X.map (·.1)))).map (·.1)).Nodup := by
    rw [List.map_append, List.nodup_append]
    refine ⟨hXn, (I.st.E.keys.sublist (List.Sublist.map _ List.filter_sublist)), fun a ha b hb e => ?_⟩
    obtain ⟨y, hy, rfl⟩ := List.mem_map.1 hb
    have := (List.mem_filter.1 hy).2
    simp only [decide_eq_true_eq] at this
    exact this (e ▸ ha)
  have inC2 : ∀ x ∈ Cr, x.1 ∉ X.map (·.1) → x ∈ Cr.filter (fun x => decide (x.1 ∉ X.map (·.1))) := fun x hx h => List.mem_filter.2 ⟨hx, by simpa using h⟩
  have hXr : ∀ x ∈ X, x ∈ Cr := fun x hx => by
    obtain ⟨a, b, c, d, e, f, _⟩ := hX x hx
    exact I.st.old x f b c d e
  have notX : ∀ {g : Nat}, (∀ x ∈ X, x.1 ≠ g) → g ∉ X.map (·.1) := fun {g} h hg => by
    obtain ⟨x, hx, e⟩ := List.mem_map.1 hg
    exact h x hx e
  have offX : ∀ {u u' : Value}, (∀ g, u'.ownBlock = some g → u.ownBlock = some g ∨ w1.heap.size ≤ g) → (∀ x ∈ X, u.ownBlock ≠ some x.1) → ∀ g, u'.ownBlock = some g → g ∉ X.map (·.1) := fun {u u'} h1 h2 g e => notX fun x hx e' => by
    rcases h1 g e with h | h
    · exact h2 x hx (e' ▸ h)
    · have := (hX x hx).1
      omega
  have rowC2 : ∀ {ty : TypeId} {sz n : Nat} {u : Value} {xs : List Value}, BoxRow Cr ty sz u n xs → (∀ g, u.ownBlock = some g → g ∉ X.map (·.1)) → BoxRow (Cr.filter (fun x => decide (x.1 ∉ X.map (·.1)))) ty sz u n xs := fun h h2 => h.mono fun x hx hb => inC2 x hx (h2 _ hb)
  refine ⟨p2.rs, lowTo m p.lows, m, p2.n, others (ents βr.ar βr.ps) (2 * k + 1), Cr.filter (fun x => decide (x.1 ∉ X.map (·.1))), ⟨I.st.E.fresh, I.st.E.old, I.st.E.below, fun x hx => ?_, (fun x hx => by cases hx), fun x hx => ?_, hkeys⟩, lowTo_length _ _, ?_, ?_, others_ne _ _, fun z hz => ents_ne z (mem_others.1 hz).1, ⟨rfl, rfl, ⟨βr.put k pT, pT, hset, LT, ?_, ?_, ?_, fun x hx hs => ?_, ?_, ?_, ?_, ?_, hbkr, harr, fun x hx a b c d => ?_, fun g e => ?_, fun g e => ?_, fun g e => ?_, fun u hu hlt => ?_⟩, ?_, ?_, ?_, ?_⟩⟩
  · rcases List.mem_cons.1 hx with rfl | hx
    · have h := I.st.E.st (stE βr.ar k p2) (mem_ents.2 ⟨k, p2, hp2, .inl rfl⟩)
      have hsb : p2.sb = p.sb := by rw [L.sb, hp1]
      unfold stE at h
      rw [hlow, hsb, harr] at h
      exact h
    · exact I.st.E.st x (mem_others.1 hx).1
  · rcases List.mem_append.1 hx with hx | hx
    · exact I.st.E.boxes x (hXr x hx)
    · exact I.st.E.boxes x (List.mem_filter.1 hx).1
  · rw [e1, List.length_append, List.length_take, hp1]
    simp only
    omega
  · have := I.lim.rs p2 (List.mem_of_getElem? hp2)
    omega
  · rw [hpT]
  · rw [hpT]
  · rw [hpT]
  · rcases mem_set_ents (p' := pT) hN2 hk2 hx with ⟨_, rfl | rfl⟩ | ⟨h1, _, _⟩
    · exact absurd rfl hs
    · exact mem_others.2 ⟨mem_ents.2 ⟨k, p2, hp2, .inr (by rw [hpT]; rfl)⟩, hs⟩
    · exact mem_others.2 ⟨h1, hs⟩
  · have hB2 : BookOk βr (Cr.filter (fun x => decide (x.1 ∉ X.map (·.1)))) := by
      have hB := I.st.ok
      refine ⟨inC2 _ hB.head (notX fun x hx e => ?_), rowC2 hB.st (offX I.st.gS fun x hx => (hX x hx).2.2.1), rowC2 hB.rf (offX I.st.gR fun x hx => (hX x hx).2.2.2.1), rowC2 hB.ls (offX I.st.gL fun x hx => (hX x hx).2.2.2.2.1), fun y hy => ?_, hB.many, hB.pos⟩
      · rw [hbkr] at e
        exact (hX x hx).2.1 e
      · obtain ⟨xs, k1, k2⟩ := hB.kept y hy
        have hoff : ∀ x ∈ X, y.1.ownBlock ≠ some x.1 ∧ y.2.ownBlock ≠ some x.1 := fun x hx => by
          obtain ⟨a, _, _, _, _, _, h⟩ := hX x hx
          have h1 : Off (β.put k p1) (.slice (some ⟨x.1, 0, none⟩) 1 1) := fun z hz g hg => by
            cases hg
            exact h z hz
          exact I.st.off _ h1 (fun g hg => by cases hg; exact a) y hy x.1 rfl
        exact ⟨xs, rowC2 k1 (fun g e => notX fun x hx e' => (hoff x hx).1 (e' ▸ e)), rowC2 k2 (fun g e => notX fun x hx e' => (hoff x hx).2 (e' ▸ e))⟩
    exact hB2.put hp2 (by rw [hpT]) (by rw [hpT])
  · have h1 : ∀ (j : Nat) (q : Pr), β.ps[j]? = some q → ∃ q', (βr.ps.set k pT)[j]? = some q' ∧ Later q q' := fun j q hj => by
      by_cases hjk : j = k
      · subst hjk
        rw [hp] at hj
        cases hj
        exact ⟨pT, hset, m, LT⟩
      · have h2 : (β.put k p1).ps[j]? = some q := by show (β.ps.set k p1)[j]? = _; rw [List.getElem?_set_ne (Ne.symm hjk)]; exact hj
        obtain ⟨q', h3, h4⟩ := I.l.each j q h2
        exact ⟨q', by rw [List.getElem?_set_ne (Ne.symm hjk)]; exact h3, h4⟩
    refine ⟨?_, h1, fun q hq' => ?_⟩
    · have := I.l.more
      simp only [Book.put, List.length_set] at this ⊢
      exact this
    · rcases List.mem_or_eq_of_mem_set hq' with h | rfl
      · exact I.l.ok q h
      · exact Later.ok ⟨m, LT⟩ hq
  · exact I.lim.put (Nat.le_refl _) (by have := I.lim.rs p2 (List.mem_of_getElem? hp2); rw [hpT]; exact this)
  · intro q hq'
    rcases List.mem_or_eq_of_mem_set hq' with h | rfl
    · exact I.low q h
    · have := I.low p2 (List.mem_of_getElem? hp2)
      rw [hlow, List.length_append] at this
      rw [hpT]
      show (lowTo m p.lows).length ≤ t
      omega
  · exact inC2 x (I.st.old x (hC1 x hx) a b c d) (notX fun y hy e => hXC y hy x hx e)
  · exact (I.st.gS g e).imp id (fun h => by omega)
  · exact (I.st.gR g e).imp id (fun h => by omega)
  · exact (I.st.gL g e).imp id (fun h => by omega)
  · exact I.st.off u hu (fun g e => Nat.lt_of_lt_of_le (hlt g e) hw1)
  · exact inC2 _ I.b1 (notX fun x hx e => (hXc x hx).1 e)
  · exact inC2 _ I.b2 (notX fun x hx e => (hXc x hx).2.1 e)
  · exact inC2 _ I.b3 (notX fun x hx e => (hXc x hx).2.2.1 e)
  · exact inC2 _ I.b4 (notX fun x hx e => (hXc x hx).2.2.2 e)

theorem InnerOk.count {w0 : World} {ia : Option Addr} {inn ui : Nat} (h : InnerOk w0 ia inn ui) : inn ≤ ui := by
  rcases h with h | ⟨b, off, -, us, h2, h3, h4⟩
  · omega
  · have h5 := sum_ge us 1 (fun v hv => by
      obtain ⟨i, hi⟩ := List.mem_iff_getElem?.1 hv
      have := (h4 i v hi).1
      omega)
    omega
set_option linter.unusedSimpArgs false in
set_option maxHeartbeats 8000000 in
set_option maxRecDepth 8000 in
theorem try1_fn {w0 : World} {τ : Own} {w : World} {β : Book} {C : List Box} {U v ui k cb okb ob bb : Nat} {p : Pr} (kind on : Int) (ra : Option Addr) (rl rc : Nat) (n place id : Int) (ia : Option Addr) (inn ic : Nat) (say : Bool) (E : Env w0 τ w (ents β.ar β.ps) [] C) (B : BookOk β C) (HP : ∀ p ∈ β.ps, PrOk p) (hlow : Lows β v) (hL : Lim U β v) (hp : β.ps[k]? = some p) (hin : InnerOk w0 ia inn ui) (hU : v + 8 + ui ≤ U) (hU2 : U ≤ 1048576)
    (g1 : w.heap.size ≤ cb) (_g2 : w.heap.size ≤ okb) (_g3 : w.heap.size ≤ ob) (_g4 : w.heap.size ≤ bb) :
    TryFn w0 (2 * k + 1) p.sb β.ar p.rs p.lows p.n (others (ents β.ar β.ps) (2 * k + 1)) [] (tryBoxes cb okb ob bb β.bk (opCells kind on (.slice ra rl rc) n place id (.slice ia inn ic) say) C) 62 #[.pointer (some ⟨cb, 0, none⟩), .pointer (some ⟨ob, 0, none⟩), .pointer (some ⟨okb, 0, none⟩), .pointer (some ⟨bb, 0, none⟩)]
      (TryP β C k p U (v + 8 + ui) w cb okb ob bb (opCells kind on (.slice ra rl rc) n place id (.slice ia inn ic) say) say) := by
  intro τ1 w1 b5 X E1
  obtain ⟨oc, hoc⟩ : ∃ oc, oc = opCells kind on (.slice ra rl rc) n place id (.slice ia inn ic) say := ⟨_, rfl⟩
  rw [← hoc] at E1 ⊢
  have hk := (List.getElem?_eq_some_iff.1 hp).1
  have hq := HP p (List.mem_of_getElem? hp)
  obtain ⟨p1, hp1⟩ : ∃ q, q = { p with lows := p.lows ++ [(b5, (p.rs.length : Int))] } := ⟨_, rfl⟩
  obtain ⟨TB, hTB⟩ : ∃ l, l = tryBoxes cb okb ob bb β.bk oc C := ⟨_, rfl⟩
  rw [← hTB] at E1
  have mcb : (cb, Obj.cells #[.int .i64 0] 3 (0, 0)) ∈ TB := by rw [hTB]; exact List.mem_cons_self ..
  have mok : (okb, Obj.cells #[.bool true] 4 (0, 0)) ∈ TB := by rw [hTB]; exact List.mem_cons_of_mem _ (List.mem_cons_self ..)
  have mob : (ob, Obj.cells oc 54 (0, 0)) ∈ TB := by rw [hTB]; exact List.mem_cons_of_mem _ (List.mem_cons_of_mem _ (List.mem_cons_self ..))
  have mbb : (bb, Obj.cells #[.pointer (some ⟨β.bk, 0, none⟩)] 49 (0, 0)) ∈ TB := by rw [hTB]; exact List.mem_cons_of_mem _ (List.mem_cons_of_mem _ (List.mem_cons_of_mem _ (List.mem_cons_self ..)))
  have mC : ∀ x ∈ C, x ∈ TB := fun x hx => by rw [hTB]; exact List.mem_cons_of_mem _ (List.mem_cons_of_mem _ (List.mem_cons_of_mem _ (List.mem_cons_of_mem _ hx)))
  have hkn := E1.keys
  rw [List.map_append, List.nodup_append] at hkn
  have hdis : ∀ x ∈ X, ∀ y ∈ TB, x.1 ≠ y.1 := fun x hx y hy => hkn.2.2 x.1 (List.mem_map.2 ⟨x, hx, rfl⟩) y.1 (List.mem_map.2 ⟨y, hy, rfl⟩)
  have EA : Env w0 τ1 w1 (ents β.ar (β.ps.set k p1)) [] (X ++ TB) := E1.mems fun x hx => by
    rcases mem_set_ents B.many hk hx with ⟨_, rfl | rfl⟩ | ⟨h1, h2, _⟩
    · rw [hp1]
      exact List.mem_cons_self ..
    · rw [hp1]
      exact List.mem_cons_of_mem _ (mem_others.2 ⟨mem_ents.2 ⟨k, p, hp, .inr rfl⟩, by show refS + k ≠ 2 * k + 1; unfold refS; have := B.many; omega⟩)
    · exact List.mem_cons_of_mem _ (mem_others.2 ⟨h1, h2⟩)
  have mcbX : (cb, Obj.cells #[.int .i64 0] 3 (0, 0)) ∈ X ++ TB := List.mem_append.2 (.inr mcb)
  have d0 := EA.cellAt mcbX (j := 0) rfl
  have d0c := d0.1
  have d0f := d0.2
  have EB := EA.setAt ents_ne mcbX 0 (.int .i64 1)
  obtain ⟨C1, hC1⟩ : ∃ c, c = upd (X ++ TB) cb (.cells ((#[Value.int .i64 0] : Array Value).setIfInBounds 0 (.int .i64 1)) 3 (0, 0)) := ⟨_, rfl⟩
  rw [← hC1] at EB
  have inC1 : ∀ x ∈ X ++ TB, x.1 ≠ cb → x ∈ C1 := fun x hx hn => by rw [hC1]; exact mem_upd_ne hx hn
  have ltC : ∀ x ∈ C, x.1 < w.heap.size := fun x hx => E.lt hx
  have hCC1 : ∀ x ∈ C, x ∈ C1 := fun x hx => inC1 x (List.mem_append.2 (.inr (mC x hx))) (fun e => by have := ltC x hx; omega)
  have hnd : (TB.map (·.1)).Nodup := hkn.2.1
  have hnd4 : cb ≠ okb ∧ cb ≠ ob ∧ cb ≠ bb := by
    rw [hTB] at hnd
    unfold tryBoxes at hnd
    simp only [List.map_cons, List.nodup_cons, List.mem_cons, not_or] at hnd
    exact ⟨hnd.1.1, hnd.1.2.1, hnd.1.2.2.1⟩
  have B1 : BookOk (β.put k p1) C1 := (B.more hCC1).put hp (by rw [hp1]) (by rw [hp1])
  have hP1 : PrOk p1 := by
    rw [hp1]
    refine ⟨hq.len, hq.st, hq.rf, fun x hx => ?_⟩
    rcases List.mem_append.1 hx with hx | hx
    · exact hq.low x hx
    · rw [List.mem_singleton] at hx
      rw [hx]
      exact Int.le_refl _
  have HP1 : ∀ q ∈ (β.put k p1).ps, PrOk q := fun q hq' => by
    rcases List.mem_or_eq_of_mem_set hq' with h | rfl
    · exact HP q h
    · exact hP1
  have hlim := hL.rs p (List.mem_of_getElem? hp)
  have I0 : InLoop w0 (β.put k p1) C1 (w1.setCell ⟨cb, 0, none⟩ (.int .i64 1)) U (v + 8) cb okb ob bb oc (β.put k p1) τ1 C1 (w1.setCell ⟨cb, 0, none⟩ (.int .i64 1)) := by
    refine ⟨Step.refl EB B1, (BLater.refl HP1).bl, hL.put (Nat.le_add_right _ _) (by rw [hp1]; simp only; omega), fun q hq' => ?_, ?_, inC1 _ (List.mem_append.2 (.inr mok)) (fun e => hnd4.1 e.symm), inC1 _ (List.mem_append.2 (.inr mob)) (fun e => hnd4.2.1 e.symm), inC1 _ (List.mem_append.2 (.inr mbb)) (fun e => hnd4.2.2 e.symm)⟩
    · rcases List.mem_or_eq_of_mem_set hq' with h | rfl
      · have := hlow q h
        omega
      · have := hlow p (List.mem_of_getElem? hp)
        rw [hp1]
        simp only [List.length_append, List.length_singleton]
        omega
    · rw [hC1]
      exact mem_upd mcbX
  have HI0 := Lib.hid I0
  have HEB := Lib.hid EB
  have HHP1 := Lib.hid HP1
  have HIn := Lib.hid hin
  have hcnt := hin.count
  have HEnd : Hid (∀ (τr : Own) (βr : Book) (Cr : List Box) (wr : World) (t : Nat), t ≤ v + 8 + ui → InLoop w0 (β.put k p1) C1 (w1.setCell ⟨cb, 0, none⟩ (.int .i64 1)) U t cb okb ob bb oc βr τr Cr wr → ∃ (say' : Bool) (τ2 : Own) (rows2 : List (Row × Int)) (ls2 : List (Nat × Int)) (kk n2 : Nat) (S2 : List Ent) (L2 : List RSl) (C2 : List Box), Ending.returned (.bool say) = .returned (.bool say') ∧ Env w0 τ2 wr (⟨2 * k + 1, p.sb, β.ar, rows2, ls2 ++ [(b5, (kk : Int))], n2⟩ :: S2) L2 (X ++ C2) ∧ ls2.length = p.lows.length ∧ kk ≤ rows2.length ∧ n2 ≤ 100000000000 ∧ (∀ z ∈ S2, z.s ≠ 2 * k + 1) ∧ (∀ z ∈ S2, z.s ≠ boxS) ∧ TryP β C k p U (v + 8 + ui) w cb okb ob bb oc say say' rows2 ls2 kk n2 S2 L2 C2) := Lib.hid (by
    intro τr βr Cr wr t ht I
    have hXl : ∀ x ∈ X, x.1 < w1.heap.size := fun x hx => E1.lt (List.mem_append.2 (.inl hx))
    have farX : ∀ x ∈ X, ∀ {ty : TypeId} {sz m : Nat} {u : Value} {ys : List Value}, BoxRow C ty sz u m ys → u.ownBlock ≠ some x.1 := fun x hx ty sz m u ys h e => by
      obtain ⟨cur, hc⟩ := h.box e
      exact hdis x hx _ (mC _ hc) rfl
    have I' : InLoop w0 (β.put k p1) C1 (w1.setCell ⟨cb, 0, none⟩ (.int .i64 1)) U (v + 8 + ui) cb okb ob bb oc βr τr Cr wr := ⟨I.st, I.l, I.lim.mono ht, fun q hq' => Nat.le_trans (I.low q hq') ht, I.b1, I.b2, I.b3, I.b4⟩
    obtain ⟨rows2, ls2, kk, n2, S2, C2, h1, h2, h3, h4, h5, h6, h7⟩ := try1_end (w := w) (b5 := b5) (sayv := say) HP hp hp1 EB hCC1 (fun x hx => ⟨by simpa using hXl x hx, hdis x hx _ (mC _ B.head), farX x hx B.st, farX x hx B.rf, farX x hx B.ls, inC1 x (List.mem_append.2 (.inl hx)) (hdis x hx _ mcb), fun y hy => by
      obtain ⟨ys, k1, k2⟩ := B.kept y hy
      exact ⟨farX x hx k1, farX x hx k2⟩⟩) hkn.1 (fun x hx => ⟨hdis x hx _ mcb, hdis x hx _ mok, hdis x hx _ mob, hdis x hx _ mbb⟩) (fun x hx y hy => hdis x hx y (mC y hy)) (by have := E1.lt (List.mem_append.2 (.inr mcb)); simp only at this; simp; omega) I' (by omega)
    exact ⟨say, τr, rows2, ls2, kk, n2, S2, [], C2, rfl, h1, h2, h3, h4, h5, h6, h7⟩)
  have HOC := Lib.hid hoc
  clear hoc E1 EA EB I0 inC1 hCC1 B1 hP1 HP1 mC hdis hkn hnd hnd4 hin mcbX hC1 hTB mcb mok mob mbb d0 hq ltC hlow hL E B HP hp hp1
  go_enter Try.func62, Try.ntmps62
  go_wp2_with fail
  clear d0c d0f
  generalize w1.setCell ⟨cb, 0, none⟩ (.int .i64 1) = w2 at HI0 HEB HEnd ⊢
  go_loopw [5] (fun i wr => ∃ (j : Nat) (us : List Nat) (βr : Book) (τr : Own) (Cr : List Box) (t : Nat), j ≤ inn ∧ i = .int .i64 j ∧ t ≤ v + 8 + ui ∧ Hid (InLoop w0 (β.put k p1) C1 w2 U t cb okb ob bb oc βr τr Cr wr) ∧ Hid (t = v + 8 + (us.take j).sum ∧ (inn = 0 ∨ ∃ b off, ia = some ⟨b, off, none⟩ ∧ us.length = inn ∧ us.sum ≤ ui ∧ ∀ (i v : Nat), us[i]? = some v → 8 ≤ v ∧ ∃ y : OpD, (∀ (j : Nat) z, y.cells[j]? = some z → w0.cell? ⟨b, off + i * 8 + j, none⟩ = some z) ∧ Plays w0 y v))) (fun i _ => inn - (intOf i).toNat)
  case atStart =>
    rcases HIn.out with h | ⟨b, off, h1, us, h2, h3, h4⟩
    · exact ⟨0, [], _, _, _, v + 8, Nat.zero_le _, rfl, by omega, HI0, Lib.hid ⟨by simp, .inl h⟩⟩
    · exact ⟨0, us, _, _, _, v + 8, Nat.zero_le _, rfl, by omega, HI0, Lib.hid ⟨by simp, .inr ⟨b, off, h1, h2, h3, h4⟩⟩⟩
  case round =>
    obtain ⟨j, us, βr, τr, Cr, t, hj, rfl, htu, HIr, HU2⟩ := hrel
    have y6 := (HIr.out.st.E.cellAt HIr.out.b3 (j := 6) (v := .slice ia inn ic) (by rw [HOC.out]; rfl)).1
    have y7 := (HIr.out.st.E.cellAt HIr.out.b3 (j := 7) (v := .bool say) (by rw [HOC.out]; rfl)).1
    have y0 : wr.cell? ⟨cb, 0, none⟩ = some (.int .i64 1) := (HIr.out.st.E.cellAt HIr.out.b1 (j := 0) rfl).1
    have yk : wr.cell? ⟨okb, 0, none⟩ = some (.bool true) := (HIr.out.st.E.cellAt HIr.out.b2 (j := 0) rfl).1
    have yb : wr.cell? ⟨bb, 0, none⟩ = some (.pointer (some ⟨β.bk, 0, none⟩)) := (HIr.out.st.E.cellAt HIr.out.b4 (j := 0) rfl).1
    by_cases hlt : j < inn
    · obtain ⟨ht, hn0 | ⟨b, off, rfl, hul, hus, hall⟩⟩ := HU2.out
      · omega
      · obtain ⟨v2, hv⟩ : ∃ v, us[j]? = some v := ⟨_, List.getElem?_eq_getElem (by omega)⟩
        obtain ⟨h8, x, hc, hpl⟩ := hall j v2 hv
        have hsum := take_sum_succ hv
        have hle := take_sum_le us (j + 1)
        have hbk : βr.bk = β.bk := HIr.out.st.bk
        have cT := hpl (HIr.out.st.E.stay (Below.refl _ _).drew) HIr.out.st.ok HIr.out.l.ok HIr.out.low HIr.out.lim (by omega) hU2
        rw [hbk] at cT
        have cT := Lib.hid cT
        obtain ⟨kind, on, ra, rc, l, nn, place, id, ia2, inn2, ic2, say2⟩ := x
        have c0 := on_cell HIr.out.st.E.below (hc 0 _ rfl)
        have c1 := on_cell HIr.out.st.E.below (hc 1 _ rfl)
        have c2 := on_cell HIr.out.st.E.below (hc 2 _ rfl)
        have c3 := on_cell HIr.out.st.E.below (hc 3 _ rfl)
        have c4 := on_cell HIr.out.st.E.below (hc 4 _ rfl)
        have c5 := on_cell HIr.out.st.E.below (hc 5 _ rfl)
        have c6 := on_cell HIr.out.st.E.below (hc 6 _ rfl)
        have c7 := on_cell HIr.out.st.E.below (hc 7 _ rfl)
        have HC := Lib.hid hc
        unfold OpD.cells opCells at cT c0 c1 c2 c3 c4 c5 c6 c7 HC
        simp only [List.getElem_toArray, List.getElem_cons_zero, List.getElem_cons_succ] at c0 c1 c2 c3 c4 c5 c6 c7
        simp only at cT
        rw [Nat.add_zero] at c0
        have htv : t + v2 ≤ v + 8 + ui := by omega
        have HT : Hid (t + v2 = v + 8 + (us.take (j + 1)).sum ∧ (inn = 0 ∨ ∃ b' off', (some ⟨b, off, none⟩ : Option Addr) = some ⟨b', off', none⟩ ∧ us.length = inn ∧ us.sum ≤ ui ∧ ∀ (i v : Nat), us[i]? = some v → 8 ≤ v ∧ ∃ y : OpD, (∀ (j : Nat) z, y.cells[j]? = some z → w0.cell? ⟨b', off' + i * 8 + j, none⟩ = some z) ∧ Plays w0 y v)) := Lib.hid ⟨by omega, .inr ⟨b, off, rfl, hul, hus, hall⟩⟩
        have hl2 : (us.take j).sum ≤ ui := by omega
        clear hall hc hpl hv hsum hle ht hul hus HU2 hbk
        go_wp2_with fail
        go_region_held3 (fun w' => w'.cell? ⟨okb, 0, none⟩ = some (.bool true) ∧ w'.cell? ⟨bb, 0, none⟩ = some (.pointer (some ⟨β.bk, 0, none⟩)) ∧ w'.cell? ⟨ob, 6, none⟩ = some (.slice (some ⟨b, off, none⟩) inn ic) ∧ w'.cell? ⟨b, off + j * 8, none⟩ = some (.int .i64 kind) ∧ w'.cell? ⟨b, off + j * 8 + 1, none⟩ = some (.int .i64 on) ∧ w'.cell? ⟨b, off + j * 8 + 2, none⟩ = some (.slice ra l.length rc) ∧ w'.cell? ⟨b, off + j * 8 + 3, none⟩ = some (.int .i64 nn) ∧ w'.cell? ⟨b, off + j * 8 + 4, none⟩ = some (.int .i64 place) ∧ w'.cell? ⟨b, off + j * 8 + 5, none⟩ = some (.int .i64 id) ∧ w'.cell? ⟨b, off + j * 8 + 6, none⟩ = some (.slice ia2 inn2 ic2) ∧ w'.cell? ⟨b, off + j * 8 + 7, none⟩ = some (.bool say2)) (first | assumption | exact ⟨yk, yb, y6, c0, c1, c2, c3, c4, c5, c6, c7⟩ | go_keep) (first
          | (go_at_call 29
             with_reducible refine cT.out.mono ?_
             rintro e W ⟨rfl, β2, τ2, C2, ST, hl, hlim, hlow2⟩
             have I2 := HIr.out.step HEB.out HHP1.out (ST.less (w := wr) (fun _ h => h) (Nat.le_refl _)) hl hlim hlow2
             have yk2 := I2.st.E.cellAt I2.b2 (j := 0) rfl
             have yk2c : W.cell? ⟨okb, 0, none⟩ = some (.bool true) := yk2.1
             have yk2f : W.frozen? ⟨okb, 0, none⟩ = false := yk2.2
             have hS2 : W.cell? ⟨okb, 0, none⟩ = some (.bool true) ∧ W.cell? ⟨bb, 0, none⟩ = some (.pointer (some ⟨β.bk, 0, none⟩)) ∧ W.cell? ⟨ob, 6, none⟩ = some (.slice (some ⟨b, off, none⟩) inn ic) ∧ W.cell? ⟨b, off + j * 8, none⟩ = some (.int .i64 kind) ∧ W.cell? ⟨b, off + j * 8 + 1, none⟩ = some (.int .i64 on) ∧ W.cell? ⟨b, off + j * 8 + 2, none⟩ = some (.slice ra l.length rc) ∧ W.cell? ⟨b, off + j * 8 + 3, none⟩ = some (.int .i64 nn) ∧ W.cell? ⟨b, off + j * 8 + 4, none⟩ = some (.int .i64 place) ∧ W.cell? ⟨b, off + j * 8 + 5, none⟩ = some (.int .i64 id) ∧ W.cell? ⟨b, off + j * 8 + 6, none⟩ = some (.slice ia2 inn2 ic2) ∧ W.cell? ⟨b, off + j * 8 + 7, none⟩ = some (.bool say2) := ⟨yk2c, (I2.st.E.cellAt I2.b4 (j := 0) rfl).1, (I2.st.E.cellAt I2.b3 (j := 6) (v := .slice (some ⟨b, off, none⟩) inn ic) (by rw [HOC.out]; rfl)).1, (on_cell I2.st.E.below (HC.out 0 _ rfl)), (on_cell I2.st.E.below (HC.out 1 _ rfl)), (on_cell I2.st.E.below (HC.out 2 _ rfl)), (on_cell I2.st.E.below (HC.out 3 _ rfl)), (on_cell I2.st.E.below (HC.out 4 _ rfl)), (on_cell I2.st.E.below (HC.out 5 _ rfl)), (on_cell I2.st.E.below (HC.out 6 _ rfl)), (on_cell I2.st.E.below (HC.out 7 _ rfl))⟩
             have E3 := I2.st.E.again ents_ne I2.b2
             have hS3 : (W.setCell ⟨okb, 0, none⟩ (.bool true)).cell? ⟨okb, 0, none⟩ = some (.bool true) ∧ (W.setCell ⟨okb, 0, none⟩ (.bool true)).cell? ⟨bb, 0, none⟩ = some (.pointer (some ⟨β.bk, 0, none⟩)) ∧ (W.setCell ⟨okb, 0, none⟩ (.bool true)).cell? ⟨ob, 6, none⟩ = some (.slice (some ⟨b, off, none⟩) inn ic) ∧ (W.setCell ⟨okb, 0, none⟩ (.bool true)).cell? ⟨b, off + j * 8, none⟩ = some (.int .i64 kind) ∧ (W.setCell ⟨okb, 0, none⟩ (.bool true)).cell? ⟨b, off + j * 8 + 1, none⟩ = some (.int .i64 on) ∧ (W.setCell ⟨okb, 0, none⟩ (.bool true)).cell? ⟨b, off + j * 8 + 2, none⟩ = some (.slice ra l.length rc) ∧ (W.setCell ⟨okb, 0, none⟩ (.bool true)).cell? ⟨b, off + j * 8 + 3, none⟩ = some (.int .i64 nn) ∧ (W.setCell ⟨okb, 0, none⟩ (.bool true)).cell? ⟨b, off + j * 8 + 4, none⟩ = some (.int .i64 place) ∧ (W.setCell ⟨okb, 0, none⟩ (.bool true)).cell? ⟨b, off + j * 8 + 5, none⟩ = some (.int .i64 id) ∧ (W.setCell ⟨okb, 0, none⟩ (.bool true)).cell? ⟨b, off + j * 8 + 6, none⟩ = some (.slice ia2 inn2 ic2) ∧ (W.setCell ⟨okb, 0, none⟩ (.bool true)).cell? ⟨b, off + j * 8 + 7, none⟩ = some (.bool say2) := ⟨(E3.cellAt I2.b2 (j := 0) rfl).1, (E3.cellAt I2.b4 (j := 0) rfl).1, (E3.cellAt I2.b3 (j := 6) (v := .slice (some ⟨b, off, none⟩) inn ic) (by rw [HOC.out]; rfl)).1, (on_cell E3.below (HC.out 0 _ rfl)), (on_cell E3.below (HC.out 1 _ rfl)), (on_cell E3.below (HC.out 2 _ rfl)), (on_cell E3.below (HC.out 3 _ rfl)), (on_cell E3.below (HC.out 4 _ rfl)), (on_cell E3.below (HC.out 5 _ rfl)), (on_cell E3.below (HC.out 6 _ rfl)), (on_cell E3.below (HC.out 7 _ rfl))⟩
             have HI3 : Hid (InLoop w0 (β.put k p1) C1 w2 U (t + v2) cb okb ob bb oc β2 τ2 C2 (W.setCell ⟨okb, 0, none⟩ (.bool true))) := Lib.hid ⟨I2.st.world E3 (by simp), I2.l, I2.lim, I2.low, I2.b1, I2.b2, I2.b3, I2.b4⟩
             clear I2 E3 ST hl hlim hlow2 yk2))
        go_wp2_with fail
        go_roundw
        case rel => exact ⟨j + 1, us, β2, τ2, C2, t + v2, by omega, by go_num, htv, HI3, HT⟩
        case measure => simp [intOf]; omega
    · go_wp2_with fail
      go_ret
      exact HEnd.out _ _ _ _ t htu HIr.out

theorem ents_head {ar : List Int} {ps : List Pr} {k : Nat} {q : Pr} {x : Ent} (h : x ∈ ents ar ps) (hs : x.s = 2 * k + 1) (hq : ps[k]? = some q) (hps : ps.length ≤ 1000000) : x = stE ar k q := by
  obtain ⟨j, p, hp, rfl | rfl⟩ := mem_ents.1 h
  · have e : 2 * j + 1 = 2 * k + 1 := hs
    have : j = k := by omega
    subst this
    rw [hq] at hp
    cases hp
    rfl
  · have e : refS + j = 2 * k + 1 := hs
    have := (List.getElem?_eq_some_iff.1 hq).1
    unfold refS at e
    omega
theorem LaterM.since {m : Nat} {p p' : Pr} (h : LaterM m p p') (k : PrOk p) : m ≤ p'.rs.length ∧ (∀ i y, m ≤ i → p'.born[i]? = some y → (p.clock : Int) < y) ∧ ∀ y, 0 < m → p'.born[m - 1]? = some y → y ≤ (p.clock : Int) := by
  obtain ⟨new, newb, hm, e1, e2, e3, e4, e5, e6⟩ := h.ex
  have hl := k.len
  have lt : (p.born.take m).length = m := by rw [List.length_take]; omega
  refine ⟨by rw [e1, List.length_append, List.length_take]; omega, fun i y hi hy => ?_, fun y h0 hy => ?_⟩
  · rw [e2, List.getElem?_append_right (by omega)] at hy
    exact (e5 y (List.mem_of_getElem? hy)).1
  · rw [e2, List.getElem?_append_left (by omega)] at hy
    exact k.rf y (List.mem_of_mem_take (List.mem_of_getElem? hy))
theorem lowMix_all (k : Nat) (ls : List (Nat × Int)) : lowMix k ls.length ls = lowTo k ls := by
  unfold lowMix lowTo
  rw [List.take_length, List.drop_length, List.append_nil]
theorem BL.put {β βT : Book} {k : Nat} {p pT pF : Pr} (h : BL β βT) (HP : ∀ p ∈ β.ps, PrOk p) (hp : β.ps[k]? = some p) (hT : βT.ps[k]? = some pT) (l : Later pT pF) : BL β (βT.put k pF) := by
  have hk := (List.getElem?_eq_some_iff.1 hT).1
  refine ⟨by show _ ≤ (βT.ps.set k pF).length; rw [List.length_set]; exact h.more, fun j q hj => ?_, fun q hq => ?_⟩
  · by_cases hjk : j = k
    · subst hjk
      obtain ⟨q', h1, h2⟩ := h.each j q hj
      rw [hT] at h1
      cases h1
      exact ⟨pF, List.getElem?_set_self hk, h2.trans (HP q (List.mem_of_getElem? hj)) l⟩
    · obtain ⟨q', h1, h2⟩ := h.each j q hj
      exact ⟨q', by show (βT.ps.set k pF)[j]? = _; rw [List.getElem?_set_ne (Ne.symm hjk)]; exact h1, h2⟩
  · rcases List.mem_or_eq_of_mem_set hq with hq | rfl
    · exact h.ok q hq
    · exact l.ok (h.ok pT (List.mem_of_getElem? hT))

set_option linter.unusedSimpArgs false in
set_option maxHeartbeats 16000000 in
set_option maxRecDepth 8000 in
theorem try_nine {w0 : World} {τ : Own} {w : World} {β : Book} {C : List Box} {U u ui v : Nat} (E : Env w0 τ w (ents β.ar β.ps) [] C) (B : BookOk β C) (HP : ∀ p ∈ β.ps, PrOk p) (hlow : Lows β v) (hL : Lim U β v) (x : OpD) (hkind : x.kind = 9) (hin : InnerOk w0 x.ia x.inn ui) (hu : ui + 8 ≤ u) (hU : v + u ≤ U) (hU2 : U ≤ 1048576) :
    Calls Try.prog 29 #[.pointer (some ⟨β.bk, 0, none⟩), .agg x.cells] w (PlayEnd w0 β C U (v + u) w) := by
  obtain ⟨kind, on, ra, rc, l, n, place, id, ia, inn, ic, say⟩ := x
  simp only at hkind hin
  subst hkind
  obtain ⟨L, hLl⟩ : ∃ L, l.length = L := ⟨_, rfl⟩
  obtain ⟨bk, hbk⟩ : ∃ b, β.bk = b := ⟨_, rfl⟩
  have Hbk := Lib.hid hbk
  have hps := hL.ps
  have hmany := B.many
  have hpos := B.pos
  obtain ⟨N, hN⟩ : ∃ N, β.ps.length = N := ⟨_, rfl⟩
  rw [hN] at hps hmany hpos
  obtain ⟨Wa, hWa⟩ : ∃ W, W = w.alloc (.cells #[.pointer (some ⟨bk, 0, none⟩)] 49) := ⟨_, rfl⟩
  obtain ⟨bb, hbb⟩ : ∃ b, b = w.heap.size := ⟨_, rfl⟩
  obtain ⟨Wb, hWb⟩ : ∃ W, W = Wa.alloc (.cells #[.int .i64 9, .int .i64 on, .slice ra L rc, .int .i64 n, .int .i64 place, .int .i64 id, .slice ia inn ic, .bool say] 54) := ⟨_, rfl⟩
  obtain ⟨ob, hob⟩ : ∃ b, b = Wa.heap.size := ⟨_, rfl⟩
  obtain ⟨oc, hoc⟩ : ∃ oc, oc = opCells 9 on (.slice ra L rc) n place id (.slice ia inn ic) say := ⟨_, rfl⟩
  obtain ⟨τ2, E2⟩ : ∃ τ2, Env w0 τ2 Wb (ents β.ar β.ps) [] ((ob, .cells oc 54 (0, 0)) :: (bb, .cells #[.pointer (some ⟨bk, 0, none⟩)] 49 (0, 0)) :: C) := ⟨_, by rw [hWb, hob, hoc]; exact ((show Env w0 _ Wa (ents β.ar β.ps) [] ((bb, .cells #[.pointer (some ⟨bk, 0, none⟩)] 49 (0, 0)) :: C) by rw [hWa, hbb]; exact E.box _)).box _⟩
  have hbab : w.heap.size + 1 = Wa.heap.size ∧ Wa.heap.size + 1 = Wb.heap.size := by rw [hWb, hWa]; simp
  have mob : (ob, Obj.cells oc 54 (0, 0)) ∈ ((ob, Obj.cells oc 54 (0, 0)) :: (bb, .cells #[.pointer (some ⟨bk, 0, none⟩)] 49 (0, 0)) :: C) := List.mem_cons_self ..
  have z : ∀ (j : Nat) y, oc[j]? = some y → Wb.cell? ⟨ob, j, none⟩ = some y := fun j y hy => (E2.cellAt mob hy).1
  rw [hoc] at z
  have z0 : Wb.cell? ⟨ob, 0, none⟩ = some (.int .i64 9) := z 0 _ rfl
  have z1 : Wb.cell? ⟨ob, 1, none⟩ = some (.int .i64 on) := z 1 _ rfl
  have z2 : Wb.cell? ⟨ob, 2, none⟩ = some (.slice ra L rc) := z 2 _ rfl
  have z3 : Wb.cell? ⟨ob, 3, none⟩ = some (.int .i64 n) := z 3 _ rfl
  have z4 : Wb.cell? ⟨ob, 4, none⟩ = some (.int .i64 place) := z 4 _ rfl
  have z5 : Wb.cell? ⟨ob, 5, none⟩ = some (.int .i64 id) := z 5 _ rfl
  have z6 : Wb.cell? ⟨ob, 6, none⟩ = some (.slice ia inn ic) := z 6 _ rfl
  have z7 : Wb.cell? ⟨ob, 7, none⟩ = some (.bool say) := z 7 _ rfl
  have zb : Wb.cell? ⟨bb, 0, none⟩ = some (.pointer (some ⟨bk, 0, none⟩)) := (E2.cellAt (List.mem_cons_of_mem _ (List.mem_cons_self ..)) (j := 0) rfl).1
  obtain ⟨gS0, cS0, gR0, cR0, -, -, hLd⟩ := (B.more (fun x hx => List.mem_cons_of_mem _ (List.mem_cons_of_mem _ hx)) : BookOk β _).leads E2 (k := 0) (p := β.ps[0]'(by rw [hN]; exact hpos)) (List.getElem?_eq_getElem _)
  have s0 := hLd.s0
  rw [hN, hbk] at s0
  have cOn := Lib.hid (on_any s0 hpos hmany 9 on ra L rc n place id ia inn ic say)
  unfold opCells at cOn
  have HE2 := Lib.hid E2
  have HE := Lib.hid E
  have HB := Lib.hid B
  have HPP := Lib.hid HP
  have HLow := Lib.hid hlow
  have HLm := Lib.hid hL
  have HIn := Lib.hid hin
  have HN := Lib.hid hN
  have HWa := Lib.hid hWa
  have HWb := Lib.hid hWb
  have Hbb := Lib.hid hbb
  have Hob := Lib.hid hob
  have HOC := Lib.hid hoc
  unfold OpD.cells opCells
  simp only
  rw [hbk, hLl]
  clear z hLd s0 E2 E B HP hlow hL hin hN hWa hWb hbb hob hoc mob hbk hLl
  go_enter Try.func29, Try.ntmps29
  go_upto_region 1 with fail
  rw [← HWa.out, ← Hbb.out, ← HWb.out, ← Hob.out]
  go_upto_region 4 with (first | (go_at_call 50; with_reducible refine cOn.out.mono ?_; rintro e W1 ⟨k, hk, rfl, hb1⟩))
  obtain ⟨p, hp⟩ : ∃ p, β.ps[k]? = some p := ⟨_, List.getElem?_eq_getElem (by rw [HN.out]; exact hk)⟩
  have mS : stE β.ar k p ∈ ents β.ar β.ps := mem_ents.2 ⟨k, p, hp, .inl rfl⟩
  have mR : rfE β.ar k p ∈ ents β.ar β.ps := mem_ents.2 ⟨k, p, hp, .inr rfl⟩
  have E1 := HE2.out.stay hb1
  have HE1 := Lib.hid E1
  have BB1 : BookOk β ((ob, Obj.cells oc 54 (0, 0)) :: (bb, .cells #[.pointer (some ⟨bk, 0, none⟩)] 49 (0, 0)) :: C) := HB.out.more (fun x hx => List.mem_cons_of_mem _ (List.mem_cons_of_mem _ hx))
  obtain ⟨gS, cS, gR, cR, hvS, hvR, hLd⟩ := BB1.leads E1 hp
  have r0 := hLd.r0
  have r1 := hLd.r1
  rw [HN.out, Hbk.out] at r0
  obtain ⟨aA, cA, vA, vB, hRf⟩ := E1.ref mR
  have r3 := hRf.cells.2.2.2.1
  simp only at r3
  have zb := on_cell hb1 zb
  have Hp := Lib.hid hp
  have HmS := Lib.hid mS
  have HmR := Lib.hid mR
  have HvS := Lib.hid hvS
  have HvR := Lib.hid hvR
  have HBB1 := Lib.hid BB1
  clear z0 z1 z2 z3 z4 z5 z6 z7 cOn hLd hRf E1 hp mS mR hvS hvR BB1
  go_upto_region 5 with fail
  clear r0 r1 r3
  obtain ⟨Wc, hWc⟩ : ∃ W, W = W1.alloc (.cells #[.bool true] 4) := ⟨_, rfl⟩
  obtain ⟨okb, hokb⟩ : ∃ b, b = W1.heap.size := ⟨_, rfl⟩
  obtain ⟨Wd, hWd⟩ : ∃ W, W = Wc.alloc (.cells #[.int .i64 0] 3) := ⟨_, rfl⟩
  obtain ⟨cb, hcb⟩ : ∃ b, b = Wc.heap.size := ⟨_, rfl⟩
  obtain ⟨τ4, E4⟩ : ∃ τ4, Env w0 τ4 Wd (ents β.ar β.ps) [] (tryBoxes cb okb ob bb bk oc C) := ⟨_, by
    rw [hWd, hcb]
    exact (show Env w0 _ Wc (ents β.ar β.ps) [] ((okb, .cells #[.bool true] 4 (0, 0)) :: (ob, .cells oc 54 (0, 0)) :: (bb, .cells #[.pointer (some ⟨bk, 0, none⟩)] 49 (0, 0)) :: C) by rw [hWc, hokb]; exact HE1.out.box _).box _⟩
  have hsz : W1.heap.size + 1 = Wc.heap.size ∧ Wc.heap.size + 1 = Wd.heap.size := by rw [hWd, hWc]; simp
  have hb1s := hb1.size
  have hge : w.heap.size ≤ cb ∧ w.heap.size ≤ okb ∧ w.heap.size ≤ ob ∧ w.heap.size ≤ bb := by
    have h1 := Hbb.out
    have h2 := Hob.out
    omega
  have hlp := HLm.out.rs p (List.mem_of_getElem? Hp.out)
  have hlw := HLow.out p (List.mem_of_getElem? Hp.out)
  have EH : Env w0 τ4 Wd (⟨2 * k + 1, p.sb, β.ar, p.rs, p.lows, p.n⟩ :: others (ents β.ar β.ps) (2 * k + 1)) [] (tryBoxes cb okb ob bb bk oc C) := E4.mems fun x hx => by
    rcases List.mem_cons.1 hx with rfl | hx
    · exact HmS.out
    · exact (mem_others.1 hx).1
  have cT := env_try EH (by unfold boxS; omega) (by unfold refS; omega) (others_ne _ _) (by omega) 62 #[.pointer (some ⟨cb, 0, none⟩), .pointer (some ⟨ob, 0, none⟩), .pointer (some ⟨okb, 0, none⟩), .pointer (some ⟨bb, 0, none⟩)] (fun w => by kernel_rfl)
    (P := TryP β C k p U (v + 8 + ui) w cb okb ob bb oc say) (by
      have h := try1_fn 9 on ra L rc n place id ia inn ic say HE.out HB.out HPP.out HLow.out HLm.out Hp.out HIn.out (by omega) hU2 hge.1 hge.2.1 hge.2.2.1 hge.2.2.2
      rw [← HOC.out, Hbk.out] at h
      exact h)
  have HT := Lib.hid cT
  have BB4 : BookOk β (tryBoxes cb okb ob bb bk oc C) := HB.out.more (fun x hx => List.mem_cons_of_mem _ (List.mem_cons_of_mem _ (List.mem_cons_of_mem _ (List.mem_cons_of_mem _ hx))))
  obtain ⟨gS4, cS4, gR4, cR4, -, -, hLd4⟩ := BB4.leads E4 Hp.out
  have s0 := hLd4.s0
  have s1 := hLd4.s1
  rw [HN.out, Hbk.out] at s0
  have zb4 : Wd.cell? ⟨bb, 0, none⟩ = some (.pointer (some ⟨bk, 0, none⟩)) := (E4.cellAt (List.mem_cons_of_mem _ (List.mem_cons_of_mem _ (List.mem_cons_of_mem _ (List.mem_cons_self ..)))) (j := 0) rfl).1
  have HWc := Lib.hid hWc
  have HWd := Lib.hid hWd
  have Hokb := Lib.hid hokb
  have Hcb : Hid (cb = W1.heap.size + 1) := Lib.hid (by omega)
  clear cT EH E4 BB4 hLd4 hWc hWd hokb hcb hsz zb
  go_upto_region 7 with fail
  rw [← HWc.out, ← HWd.out, ← Hcb.out, ← Hokb.out]
  go_upto_region 8 with (first | (go_at_call 23; (with_reducible refine HT.out.mono ?_); intro e w9 hT9; obtain ⟨say9, τ9, rows9, ls9, k9, n9, S9, L9, C9, rfl, E9, hl9, hk9, hne9, hnb9, hP⟩ := hT9))
  have hP2 := hP.noL
  subst hP2
  have hP3 := hP.say
  subst hP3
  have e1 : w9.cell? ⟨cb, 0, none⟩ = some (.int .i64 1) := (E9.cellAt hP.b1 (j := 0) rfl).1
  have e2 : w9.cell? ⟨okb, 0, none⟩ = some (.bool true) := (E9.cellAt hP.b2 (j := 0) rfl).1
  have e3 : w9.cell? ⟨ob, 7, none⟩ = some (.bool say9) := (E9.cellAt hP.b3 (j := 7) (by rw [HOC.out]; rfl)).1
  have e4 : w9.cell? ⟨bb, 0, none⟩ = some (.pointer (some ⟨bk, 0, none⟩)) := by
    have h := (E9.cellAt hP.b4 (j := 0) rfl).1
    rw [Hbk.out] at h
    exact h
  obtain ⟨βT, pT, hpT, LT, hrT, hlT, hnT, hST, hBT, hBL, hLT, hLwT, hbkT, harT, holdT, hgS, hgR, hgL, hoffT⟩ := hP.ex
  have hq := HPP.out p (List.mem_of_getElem? Hp.out)
  have hsince := LT.since hq
  have hkT := (List.getElem?_eq_some_iff.1 hpT).1
  have hLim2 : Lim U βT (v + u) := hLT.mono (by omega)
  have hLw2 : Lows βT (v + u) := fun q hq' => by have := hLwT q hq'; omega
  have hcb9 : w.heap.size ≤ w9.heap.size := by
    have := E9.lt hP.b1
    simp only at this
    have := hge.1
    omega
  have hSTb : ∀ z ∈ ents βT.ar βT.ps, z.s = 2 * k + 1 → z = stE βT.ar k pT := fun z hz hs => ents_head hz hs hpT hBT.many
  cases say9 with
  | true =>
    simp only [if_true] at E9
    have EF : Env w0 τ9 w9 (ents βT.ar βT.ps) [] C9 := E9.mems fun x hx => by
      by_cases hs : x.s = 2 * k + 1
      · rw [hSTb x hx hs]
        unfold stE
        rw [LT.sb, hrT, hlT, hnT, harT]
        exact List.mem_cons_self ..
      · exact List.mem_cons_of_mem _ (hST x hx hs)
    have hK := kept_any EF hBT (by have := hLT.lists; have := U_lists (show v + 8 + ui ≤ U by omega) hU2; omega) hBT.big
    rw [hbkT, Hbk.out] at hK
    have cK := Lib.hid hK
    have HFin : Hid (∀ w10, Below w9.heap.size w9 w10 → PlayEnd w0 β C U (v + u) w (.returned (.bool true)) w10) := Lib.hid (fun w10 hb => ⟨rfl, βT, τ9, C9, ⟨EF.stay hb, hBT, hbkT, harT, Nat.le_trans hcb9 hb.size, holdT, hgS, hgR, hgL, hoffT⟩, hBL, hLim2, hLw2⟩)
    clear hK EF hSTb hLw2 hLim2 hsince hq hoffT hgS hgR hgL holdT hbkT harT hLwT hLT hBL hBT hST hnT hlT hrT hpT hP E9 HT hne9 hnb9 hl9 hk9 hkT
    go_wp2_with (first | (go_at_call 27; (with_reducible refine cK.out.mono ?_); rintro e w10 ⟨rfl, hb10⟩))
    go_ret
    exact HFin.out _ hb10
  | false =>
    simp only [Bool.false_eq_true, if_false] at E9
    rw [lowMix_all] at E9
    have mR9 : rfE βT.ar k pT ∈ S9 := hST _ (mem_ents.2 ⟨k, pT, hpT, .inr rfl⟩) (by show refS + k ≠ 2 * k + 1; unfold refS; omega)
    obtain ⟨gS9, cS9, gR9, cR9, -, -, hLd9⟩ := hBT.leads E9 hpT
    have r0 := hLd9.r0
    have r1 := hLd9.r1
    rw [hbkT, Hbk.out] at r0
    obtain ⟨N9, hN9⟩ : ∃ n, βT.ps.length = n := ⟨_, rfl⟩
    rw [hN9] at r0 hkT
    have hN96 : N9 ≤ 1000000 := by rw [← hN9]; exact hBT.many
    have cSi := Lib.hid (env_since_rf E9 (List.mem_cons_of_mem _ mR9) (p.clock : Int) k9 hsince.1 hsince.2.1 hsince.2.2)
    obtain ⟨pF, hpF⟩ : ∃ q, q = { pT with rs := pT.rs.take k9, born := pT.born.take k9, lows := lowTo k9 pT.lows } := ⟨_, rfl⟩
    have LF : Later pT pF := by rw [hpF]; exact Later.cut hsince.1
    have hlimT := hLT.rs pT (List.mem_of_getElem? hpT)
    have hlwT := hLwT pT (List.mem_of_getElem? hpT)
    have HFin : Hid (∀ (τ10 : Own) (w10 w11 : World), Turn (refS + k) (fun r => r = .head) τ9 τ10 w9 w10 → Env w0 τ10 w10 (⟨refS + k, pT.rb, βT.ar, pT.rs.take k9, (pT.born.take k9).map (fun x => (0, x)), pT.clock⟩ :: others (⟨2 * k + 1, p.sb, β.ar, rows9.take k9, lowTo k9 ls9, n9⟩ :: S9) (refS + k)) [] C9 → Below w10.heap.size w10 w11 →
        w10.cell? ⟨bb, 0, none⟩ = some (.pointer (some ⟨bk, 0, none⟩)) ∧ Calls Try.prog 27 #[.pointer (some ⟨bk, 0, none⟩)] w10 (fun e w' => e = .returned (.bool true) ∧ Below w10.heap.size w10 w') ∧ PlayEnd w0 β C U (v + u) w (.returned (.bool true)) w11) := Lib.hid (by
      intro τ10 w10 w11 T10 E10 hb
      have EF : Env w0 τ10 w10 (ents βT.ar (βT.ps.set k pF)) [] C9 := by
        refine ents_two hBT.many (by rw [hN9]; exact hkT) E10 ?_ ?_ (fun x hx h1 h2 => ?_)
        · refine List.mem_cons_of_mem _ (mem_others.2 ⟨?_, by show 2 * k + 1 ≠ refS + k; unfold refS; omega⟩)
          rw [hpF]
          unfold stE
          simp only
          rw [LT.sb, hrT, hlT, hnT, harT]
          exact List.mem_cons_self ..
        · rw [hpF]
          exact List.mem_cons_self ..
        · exact List.mem_cons_of_mem _ (mem_others.2 ⟨List.mem_cons_of_mem _ (hST x hx h1), h2⟩)
      have hBF : BookOk (βT.put k pF) C9 := hBT.put hpT LF.sb LF.rb
      have hK := kept_any (β := βT.put k pF) EF hBF (by have := hLT.lists; have := U_lists (show v + 8 + ui ≤ U by omega) hU2; show βT.lists.length ≤ _; omega) hBF.big
      rw [show (βT.put k pF).bk = β.bk from hbkT, Hbk.out] at hK
      refine ⟨?_, hK, rfl, βT.put k pF, τ10, C9, ⟨EF.stay hb, hBF, hbkT, harT, Nat.le_trans hcb9 (Nat.le_trans T10.size hb.size), holdT, hgS, hgR, hgL, hoffT⟩, hBL.put HPP.out Hp.out hpT LF, hLim2.put (Nat.le_refl _) ?_, fun q hq' => ?_⟩
      · have h := (E10.cellAt hP.b4 (j := 0) rfl).1
        rw [Hbk.out] at h
        exact h
      · rw [hpF]
        simp only [List.length_take]
        omega
      · rcases List.mem_or_eq_of_mem_set hq' with h | rfl
        · exact hLw2 q h
        · rw [LF.lows]
          omega)
    have HE9 := Lib.hid E9
    clear hLd9 hN9 hpF LF mR9 hSTb hLw2 hLim2 hsince hq hoffT hgS hgR hgL holdT hbkT harT hLwT hLT hBL hBT hST hnT hlT hrT hpT hP E9 HT hne9 hnb9 hl9 hk9 LT
    go_upto_region 12 with (first | (go_at_call 63; (with_reducible refine cSi.out.mono ?_); rintro e w10 ⟨rfl, τ10, T10, E10⟩))
    obtain ⟨f4, cK, -⟩ := HFin.out τ10 w10 w10 T10 E10 (Below.refl _ _)
    have HE10 := Lib.hid E10
    have HT10 := Lib.hid T10
    have HcK := Lib.hid cK
    clear cK E10 T10
    go_wp2_with (first | (go_at_call 27; (with_reducible refine HcK.out.mono ?_); rintro e w11 ⟨rfl, hb11⟩))
    go_ret
    exact (HFin.out τ10 w10 w11 HT10.out HE10.out hb11).2.2

set_option linter.unusedSimpArgs false in
set_option maxHeartbeats 8000000 in
set_option maxRecDepth 8000 in
theorem try_flat {w0 : World} {τ : Own} {w : World} {β : Book} {C : List Box} {U u v : Nat} {Ops : Option Addr → Nat → Nat → Prop} (E : Env w0 τ w (ents β.ar β.ps) [] C) (B : BookOk β C) (HP : ∀ p ∈ β.ps, PrOk p) (hlow : Lows β v) (hL : Lim U β v) (x : OpD) (hkind : (x.kind != 9) = true) (hx : OpIn Ops w0 x u) (hU : v + u ≤ U) (hU2 : U ≤ 1048576) :
    Calls Try.prog 29 #[.pointer (some ⟨β.bk, 0, none⟩), .agg x.cells] w (PlayEnd w0 β C U (v + u) w) := by
  obtain ⟨bk, hbk⟩ : ∃ b, β.bk = b := ⟨_, rfl⟩
  obtain ⟨oc, hoc⟩ : ∃ oc, oc = x.cells := ⟨_, rfl⟩
  obtain ⟨Wa, hWa⟩ : ∃ W, W = w.alloc (.cells #[.pointer (some ⟨bk, 0, none⟩)] 49) := ⟨_, rfl⟩
  obtain ⟨bb, hbb⟩ : ∃ b, b = w.heap.size := ⟨_, rfl⟩
  obtain ⟨Wb, hWb⟩ : ∃ W, W = Wa.alloc (.cells x.cells 54) := ⟨_, rfl⟩
  obtain ⟨ob, hob⟩ : ∃ b, b = Wa.heap.size := ⟨_, rfl⟩
  obtain ⟨τ2, E2⟩ : ∃ τ2, Env w0 τ2 Wb (ents β.ar β.ps) [] ((ob, .cells oc 54 (0, 0)) :: (bb, .cells #[.pointer (some ⟨bk, 0, none⟩)] 49 (0, 0)) :: C) := ⟨_, by rw [hWb, hob, hoc]; exact ((show Env w0 _ Wa (ents β.ar β.ps) [] ((bb, .cells #[.pointer (some ⟨bk, 0, none⟩)] 49 (0, 0)) :: C) by rw [hWa, hbb]; exact E.box _)).box _⟩
  have hsz : w.heap.size ≤ Wb.heap.size := by rw [hWb, hWa]; simp; omega
  have hF := flat_any E2 (B.more (fun x hx => List.mem_cons_of_mem _ (List.mem_cons_of_mem _ hx))) HP x hx hL hU hU2
  rw [hbk] at hF
  have HFin : Hid (∀ e w', FlatEnd w0 β ((ob, .cells oc 54 (0, 0)) :: (bb, .cells #[.pointer (some ⟨bk, 0, none⟩)] 49 (0, 0)) :: C) U (v + u) Wb e w' → PlayEnd w0 β C U (v + u) w e w') := Lib.hid (fun e w' h => by
    obtain ⟨rfl, β', τ', C', ST, hl, hlim⟩ := h
    exact ⟨rfl, β', τ', C', ST.less (fun x hx => List.mem_cons_of_mem _ (List.mem_cons_of_mem _ hx)) hsz, hl.bl, hlim, fun p hp => Nat.le_trans (hl.low v hlow p hp) (Nat.le_add_right _ _)⟩)
  have mob : (ob, Obj.cells oc 54 (0, 0)) ∈ ((ob, Obj.cells oc 54 (0, 0)) :: (bb, .cells #[.pointer (some ⟨bk, 0, none⟩)] 49 (0, 0)) :: C) := List.mem_cons_self ..
  have z : ∀ (j : Nat) y, oc[j]? = some y → Wb.cell? ⟨ob, j, none⟩ = some y := fun j y hy => (E2.cellAt mob hy).1
  have zb : Wb.cell? ⟨bb, 0, none⟩ = some (.pointer (some ⟨bk, 0, none⟩)) := (E2.cellAt (List.mem_cons_of_mem _ (List.mem_cons_self ..)) (j := 0) rfl).1
  clear mob E2 hlow hL hx B HP E
  obtain ⟨kind, on, ra, rc, l, n, place, id, ia, inn, ic, say⟩ := x
  simp only at hkind
  rw [hoc] at z
  obtain ⟨L, hLl⟩ : ∃ L, l.length = L := ⟨_, rfl⟩
  unfold OpD.cells opCells at z hF hWb
  unfold OpD.cells opCells
  simp only at hF z ⊢
  rw [hLl] at z hF hWb ⊢
  rw [hbk]
  have z0 : Wb.cell? ⟨ob, 0, none⟩ = some (.int .i64 kind) := z 0 _ rfl
  have z1 : Wb.cell? ⟨ob, 1, none⟩ = some (.int .i64 on) := z 1 _ rfl
  have z2 : Wb.cell? ⟨ob, 2, none⟩ = some (.slice ra L rc) := z 2 _ rfl
  have z3 : Wb.cell? ⟨ob, 3, none⟩ = some (.int .i64 n) := z 3 _ rfl
  have z4 : Wb.cell? ⟨ob, 4, none⟩ = some (.int .i64 place) := z 4 _ rfl
  have z5 : Wb.cell? ⟨ob, 5, none⟩ = some (.int .i64 id) := z 5 _ rfl
  have z6 : Wb.cell? ⟨ob, 6, none⟩ = some (.slice ia inn ic) := z 6 _ rfl
  have z7 : Wb.cell? ⟨ob, 7, none⟩ = some (.bool say) := z 7 _ rfl
  have cF := Lib.hid hF
  have HWa := Lib.hid hWa
  have HWb := Lib.hid hWb
  have Hbb := Lib.hid hbb
  have Hob : Hid (ob = w.heap.size + 1) := Lib.hid (by rw [hob, hWa]; simp)
  clear hF hWa hWb hbb hob z hoc hbk hLl
  go_enter Try.func29, Try.ntmps29
  go_upto_region 1 with fail
  rw [← HWa.out, ← HWb.out, ← Hob.out, ← Hbb.out]
  go_wp2_with (first | (go_at_call 26; (with_reducible refine cF.out.mono ?_); intro e W1 hW1; have HW1 := Lib.hid (HFin.out _ _ hW1); obtain ⟨rfl, -⟩ := hW1))
  go_ret
  exact HW1.out

theorem plays_any {w0 : World} (d : Nat) : ∀ (x : OpD) (u : Nat), OpIn (OpsIn w0 d) w0 x u → Plays w0 x u := by
  induction d with
  | zero =>
    intro x u hx τ w β C U v E B HP hlow hL hU hU2
    by_cases h9 : x.kind = 9
    · obtain ⟨ui, h1, h2⟩ := hx.inn
      exact try_nine E B HP hlow hL x h9 (.inl h1) (by omega) hU hU2
    · exact try_flat E B HP hlow hL x (by simpa using h9) hx hU hU2
  | succ d ih =>
    intro x u hx τ w β C U v E B HP hlow hL hU hU2
    by_cases h9 : x.kind = 9
    · obtain ⟨ui, h1, h2⟩ := hx.inn
      refine try_nine E B HP hlow hL x h9 ?_ (ui := ui) (by omega) hU hU2
      rcases h1 with h | ⟨b, off, ha, us, k1, k2, k3⟩
      · exact .inl h
      · refine .inr ⟨b, off, ha, us, k1, k2, fun i v' hv => ?_⟩
        obtain ⟨y, hc, hy⟩ := k3 i v' hv
        exact ⟨by have := hy.weigh; omega, y, hc, ih y v' hy⟩
    · exact try_flat E B HP hlow hL x (by simpa using h9) hx hU hU2

/-- between two steps of a script with Trys -/
structure MidT (w0 : World) (bk : Nat) (U t : Nat) (β : Book) (τ : Own) (C : List Box) (w : World) : Prop where
  E : Env w0 τ w (ents β.ar β.ps) [] C
  B : BookOk β C
  P : ∀ p ∈ β.ps, PrOk p
  L : Lim U β t
  bk : β.bk = bk
  low : Lows β t
theorem MidT.begin {w w' : World} {ar : List Int} {β : Book} {τ : Own} {C : List Box} {U : Nat} (hE : Env w τ w' (ents ar β.ps) [] C) (hB : BookOk β C) (ha : β.ar = ar) (hn : β.next = 0) (hl : β.lists = []) {sb rb : Nat} (hp : β.ps = [⟨sb, rb, [], [], 0, [], 0⟩]) : MidT w β.bk U 0 β τ C w' := by
  have M := Mid.begin (U := U) hE hB ha hn hl hp
  exact ⟨M.E, M.B, M.P, M.L, rfl, M.low⟩
theorem MidT.whole {w0 : World} {bk U t : Nat} {β : Book} {τ : Own} {C : List Box} {w : World} (M : MidT w0 bk U t β τ C w) (ht : t ≤ U) (hU : U ≤ 1048576) :
    Calls Try.prog 28 #[.pointer (some ⟨bk, 0, none⟩)] w fun e w' => e = .returned (.bool true) ∧ Below w0.heap.size w0 w' := by
  have h1 := M.L.ps
  have h2 := M.L.next
  have h3 := M.L.lists
  have h4 := U_next ht hU
  have h5 := U_lists ht hU
  have h := whole_any M.E M.B (by omega) (fun p hp => by rw [show p.rows.length = p.rs.length from List.length_map _]; have := M.L.rs p hp; omega) M.L.next0 (by omega) (by omega)
  rw [M.bk] at h
  exact h
theorem MidT.play {w0 : World} {bk U t u d : Nat} {β : Book} {τ : Own} {C : List Box} {w : World} (M : MidT w0 bk U t β τ C w) (x : OpD) (hx : OpIn (OpsIn w0 d) w0 x u) (ht : t + u ≤ U) (hU : U ≤ 1048576) :
    Calls Try.prog 29 #[.pointer (some ⟨bk, 0, none⟩), .agg x.cells] w fun e w' => e = .returned (.bool true) ∧ ∃ β' τ' C', Hid (MidT w0 bk U (t + u) β' τ' C' w') := by
  have h := plays_any d x u hx M.E M.B M.P M.low M.L ht hU
  rw [M.bk] at h
  refine h.mono ?_
  rintro e w' ⟨rfl, β', τ', C', S, l, hl, hlw⟩
  exact ⟨rfl, β', τ', C', Lib.hid ⟨S.E, S.ok, l.ok, hl, S.bk.trans M.bk, hlw⟩⟩
set_option maxHeartbeats 8000000 in
set_option maxRecDepth 8000 in
theorem tries_any (w : World) (aa sa : Option Addr) (ca sc n d u : Nat) (ar : List Int) (ha : IntsZ (fun _ => True) w aa ca ar) (hl : ar.length ≤ 1048576) (hs : OpsIn w d sa n u) (hu : u ≤ 1048576) :
    Calls Try.prog 9 #[.slice aa ar.length ca, .slice sa n sc] w fun e w' => e = .returned (.bool true) ∧ Below w.heap.size w w' := by
  have HS := Lib.hid hs
  have hn6 : n ≤ 1048576 := Nat.le_trans hs.count hu
  by_cases hok : ArOk ar
  · have cB := Lib.hid (begin_any aa ca ar ha hok)
    clear ha hs hok
    go_enter Try.func9, Try.ntmps9
    go_upto_region 2 with (first | (go_at_call 25; refine cB.out.mono ?_; rintro e W1 ⟨β, τ, C, rfl, hE, hB, hbar, hbn, hbl, sb, rb, hbp⟩))
    have HM := Lib.hid (MidT.begin (U := u) hE hB hbar hbn hbl hbp)
    obtain ⟨bk, hbk⟩ : ∃ b, β.bk = b := ⟨_, rfl⟩
    rw [hbk] at HM ⊢
    clear hE hB hbar hbn hbl hbp hbk cB
    go_wp2_with fail
    go_loopw [8] (fun i wr => ∃ (k : Nat) (us : List Nat) (βr : Book) (τr : Own) (Cr : List Box) (t : Nat), k ≤ n ∧ i = .int .i64 k ∧ t ≤ u ∧ Hid (MidT w bk u t βr τr Cr wr) ∧ Hid (t = (us.take k).sum ∧ (n = 0 ∨ ∃ d' b off, sa = some ⟨b, off, none⟩ ∧ us.length = n ∧ us.sum ≤ u ∧ ∀ (i v : Nat), us[i]? = some v → ∃ x : OpD, (∀ (j : Nat) y, x.cells[j]? = some y → w.cell? ⟨b, off + i * 8 + j, none⟩ = some y) ∧ OpIn (OpsIn w d') w x v))) (fun i _ => n - (intOf i).toNat)
    case atStart =>
      rcases HS.out.at with h | ⟨d', b, off, -, h1, us, h2, h3, h4⟩
      · exact ⟨0, [], β, τ, C, 0, Nat.zero_le _, rfl, Nat.zero_le _, HM, Lib.hid ⟨by simp, .inl h⟩⟩
      · exact ⟨0, us, β, τ, C, 0, Nat.zero_le _, rfl, Nat.zero_le _, HM, Lib.hid ⟨by simp, .inr ⟨d', b, off, h1, h2, h3, h4⟩⟩⟩
    case round =>
      obtain ⟨k, us, βr, τr, Cr, t, hk, rfl, htu, HMr, HU⟩ := hrel
      by_cases hlt : k < n
      · obtain ⟨ht, hn0 | ⟨d', b, off, rfl, hul, hus, hall⟩⟩ := HU.out
        · omega
        · obtain ⟨v, hv⟩ : ∃ v, us[k]? = some v := ⟨_, List.getElem?_eq_getElem (by omega)⟩
          obtain ⟨x, hc, hin⟩ := hall k v hv
          have hsum := take_sum_succ hv
          have hle := take_sum_le us (k + 1)
          have cF := Lib.hid (HMr.out.play x hin (by omega) hu)
          obtain ⟨kind, on, ra, rc, l, nn, place, id, ia, inn, ic, say⟩ := x
          have c0 := on_cell HMr.out.E.below (hc 0 _ rfl)
          have c1 := on_cell HMr.out.E.below (hc 1 _ rfl)
          have c2 := on_cell HMr.out.E.below (hc 2 _ rfl)
          have c3 := on_cell HMr.out.E.below (hc 3 _ rfl)
          have c4 := on_cell HMr.out.E.below (hc 4 _ rfl)
          have c5 := on_cell HMr.out.E.below (hc 5 _ rfl)
          have c6 := on_cell HMr.out.E.below (hc 6 _ rfl)
          have c7 := on_cell HMr.out.E.below (hc 7 _ rfl)
          unfold OpD.cells opCells at cF c0 c1 c2 c3 c4 c5 c6 c7
          simp only [List.getElem_toArray, List.getElem_cons_zero, List.getElem_cons_succ] at c0 c1 c2 c3 c4 c5 c6 c7
          simp only at cF
          rw [Nat.add_zero] at c0
          have htv : t + v ≤ u := by omega
          have HT : Hid (t + v = (us.take (k + 1)).sum ∧ (n = 0 ∨ ∃ d' b' off', (some ⟨b, off, none⟩ : Option Addr) = some ⟨b', off', none⟩ ∧ us.length = n ∧ us.sum ≤ u ∧ ∀ (i v : Nat), us[i]? = some v → ∃ x : OpD, (∀ (j : Nat) y, x.cells[j]? = some y → w.cell? ⟨b', off' + i * 8 + j, none⟩ = some y) ∧ OpIn (OpsIn w d') w x v)) := Lib.hid ⟨by omega, .inr ⟨d', b, off, rfl, hul, hus, hall⟩⟩
          have hln : (us.take k).sum ≤ u := by omega
          clear hall hc hin hv hsum hle ht hul hus HU
          go_wp2_with (first
            | (go_at_call 29; refine cF.out.mono ?_; rintro e W2 ⟨rfl, β2, τ2, C2, HM2⟩))
          go_roundw
          case rel => exact ⟨k + 1, us, β2, τ2, C2, t + v, by omega, by go_num, htv, HM2, HT⟩
          case measure => simp [intOf]; omega
      · have cW := Lib.hid (HMr.out.whole htu hu)
        go_wp2_with (first | (go_at_call 28; refine cW.out.mono ?_; rintro e W4 ⟨rfl, hb4⟩))
        go_ret
        exact ⟨rfl, hb4⟩
  · have cB := Lib.hid (begin_bad aa ca ar ha (by omega) hok)
    clear ha hs hok
    go_enter Try.func9, Try.ntmps9
    go_wp2_with (first | (go_at_call 25; refine cB.out.mono ?_; rintro e W1 ⟨rfl, hb1⟩))
    go_ret
    exact ⟨rfl, hb1⟩
end Go.Proofs.Ytgodidoibcomcaa.Bk

namespace Go.Proofs.Ytgodidoibcomcaa.Bk
open Go.RowKit Go.ChangeShapes Go.WideShapes Go.Proofs.Ytgodidoibcomcaa
namespace Op
open Go.Proofs.Ytgodidoibcomcaa.Op

theorem mem_le {H : Type} {d : DataW H} {l : List (DataW H)} (h : d ∈ l) : Rows.uptoBulk d ≤ Rows.uptoBulkAll l := by
  induction l with
  | nil => cases h
  | cons x r ih =>
    simp only [Rows.uptoBulkAll]
    rcases List.mem_cons.1 h with rfl | h
    · omega
    · have := ih h
      omega
theorem cellsBool2 : Try.prog.cellsOf 4 = 1 := by kernel_rfl
theorem cellsOp : Try.prog.cellsOf 54 = 8 := by kernel_rfl
theorem cellsOps : Try.prog.cellsOf 48 = 1 := by kernel_rfl
section
variable {H : Type} {enc : TypeId × Value → H} {W : World} {held : Bool}
theorem open_rows2 {fuel : Nat} {v : Value} {x : DataW H × List MemPlace} (h : DataW.trod enc Try.prog W 0 (fun _ => true) held fuel 29 [v] = some x) :
    ∃ a c l, v = .slice a l.length c ∧ RowsZ (fun _ => True) W a c l ∧ l.length ≤ c ∧ (∀ r ∈ l, RowOk r) ∧ (∀ r ∈ l, r.2.length ≤ Rows.uptoBulk x.1) ∧ l.length + 1 ≤ Rows.uptoBulk x.1 := by
  rcases Deep.open_slice Try.underlying29 h with ⟨h1, rfl⟩ | ⟨a, len, cap, m, n, D, Pl, h1, _, hl, hm, hmm, rfl, hx⟩
  · simp at h1
    subst h1
    exact ⟨none, 0, [], rfl, ⟨.inl rfl, fun _ => ⟨rfl, rfl⟩⟩, by simp, by simp, by simp, by simp [Rows.uptoBulk]⟩
  · simp at h1 hmm
    subst h1; subst hmm
    rw [cellsRow] at hx
    have hi : ∀ i, i < len → ∃ s : Int × Option Addr × Nat × List Int, W.cell? (a.add (i * 2)) = some (.int .i64 s.1) ∧ W.cell? (a.add (i * 2 + 1)) = some (.slice s.2.1 s.2.2.2.length s.2.2.1) ∧ IntsZ (fun _ => True) W s.2.1 s.2.2.1 s.2.2.2 ∧ RowOk (s.1, s.2.2.2) ∧ s.2.2.2.length ≤ Rows.uptoBulk (D i) := by
      intro i hi
      obtain ⟨cs, c1, c2⟩ := hx i (by omega)
      obtain ⟨_, hlen, hc⟩ := World.cells?_some c1
      match cs, hlen with
      | [u0, u1], _ =>
        obtain ⟨y0, y1, k, hD, _, t0, t1⟩ := trod_struct2 Try.underlying28 c2
        have t0' : DataW.trod enc Try.prog W 0 (fun _ => true) held k 3 [u0] = some y0 := by simpa [cellsInt] using t0
        have t1' : DataW.trod enc Try.prog W 0 (fun _ => true) held k 22 [u1] = some y1 := by simpa [cellsInts] using t1
        obtain ⟨nv, e2, _, e3⟩ := DataW.trod_int Try.underlying3 t0'
        obtain ⟨ai, ci, xs, e4, hI, hR, hml, hbk⟩ := open_ints t1'
        simp at e2
        subst e2; subst e4
        have g0 := hc 0 (by omega)
        have g1 := hc 1 (by omega)
        have hD' : D i = .agg [y0.1, y1.1] := congrArg Prod.fst hD
        refine ⟨(nv, ai, ci, xs), ?_, ?_, hI, ⟨rng_wf e3, by unfold maxLen at hml; simpa using hml, hR⟩, ?_⟩
        · simpa [Addr.add] using g0
        · rw [Deep.add_add] at g1
          simpa using g1
        · rw [hD']
          simp only [Rows.uptoBulk, Rows.uptoBulkAll]
          omega
    obtain ⟨f, hf⟩ := Deep.choose_lt (α := Int × Option Addr × Nat × List Int) hi
    have hlen2 := length_le ((List.range len).map D)
    refine ⟨some a, m, (List.range len).map (fun i => ((f i).1, (f i).2.2.2)), by simp, ⟨?_, fun h => by cases h⟩, by simp; omega, ?_, ?_, ?_⟩
    · rcases Nat.eq_zero_or_pos len with h0 | h0
      · exact .inl (by simp [h0])
      · obtain ⟨b, o, sp⟩ := a
        have hs : sp = none := by
          have := World.cell?_spot (hf 0 h0).1
          simpa [Addr.add] using this
        subst hs
        refine .inr ⟨b, o, rfl, trivial, fun i hi => ?_⟩
        have hi' : i < len := by simpa using hi
        obtain ⟨g0, g1, g2, _⟩ := hf i hi'
        rw [addr_add] at g0 g1
        rw [← Nat.add_assoc] at g1
        refine ⟨by simpa using g0, (f i).2.1, (f i).2.2.1, by simpa using g1, by simpa using g2⟩
    · intro y hy
      obtain ⟨i, hi, rfl⟩ := List.mem_map.1 hy
      exact (hf i (by simpa using hi)).2.2.2.1
    · intro y hy
      obtain ⟨i, hi, rfl⟩ := List.mem_map.1 hy
      have h1 := (hf i (by simpa using hi)).2.2.2.2
      have h2 := mem_le (l := (List.range len).map D) (List.mem_map.2 ⟨i, hi, rfl⟩)
      simp only [Rows.uptoBulk]
      omega
    · simp only [Rows.uptoBulk, List.length_map, List.length_range] at hlen2 ⊢
      omega

theorem open_ops (b : Nat) : ∀ (fuel : Nat) (v : Value) (x : DataW H × List MemPlace), DataW.trod enc Try.prog W 0 (fun _ => true) held fuel 48 [v] = some x → Rows.uptoBulk x.1 ≤ b → b ≤ 1048576 →
    ∃ a n c, v = .slice a n c ∧ OpsIn W b a n (Rows.uptoBulk x.1) := by
  induction b with
  | zero =>
    intro fuel v x _ hb
    have := one_le x.1
    omega
  | succ b ih =>
    intro fuel v x h hb h6
    rcases Deep.open_slice Try.underlying48 h with ⟨h1, rfl⟩ | ⟨a, len, cap, m, n, D, Pl, h1, _, hl, hm, hmm, rfl, hx⟩
    · simp at h1
      subst h1
      exact ⟨none, 0, 0, rfl, .inl rfl⟩
    · simp at h1 hmm
      subst h1; subst hmm
      rw [cellsOp] at hx
      refine ⟨some a, len, m, rfl, ?_⟩
      simp only [Rows.uptoBulk] at hb ⊢
      have hi : ∀ i, i < len → ∃ y : OpD, (∀ j u, y.cells[j]? = some u → W.cell? (a.add (i * 8 + j)) = some u) ∧ OpIn (OpsIn W b) W y (Rows.uptoBulk (D i)) := by
        intro i hi
        obtain ⟨cs, c1, c2⟩ := hx i (by omega)
        obtain ⟨_, hlen, hc⟩ := World.cells?_some c1
        have hDle := mem_le (l := (List.range len).map D) (List.mem_map.2 ⟨i, List.mem_range.2 hi, rfl⟩)
        match cs, hlen with
        | [u0, u1, u2, u3, u4, u5, u6, u7], _ =>
          obtain ⟨xs, k, _, hD, hl8, hlx, hf⟩ := DataW.trod_struct Try.underlying54 c2
          match xs, hlx with
          | [y0, y1, y2, y3, y4, y5, y6, y7], _ =>
            have t0 := hf 0 _ rfl
            have t1 := hf 1 _ rfl
            have t2 := hf 2 _ rfl
            have t3 := hf 3 _ rfl
            have t4 := hf 4 _ rfl
            have t5 := hf 5 _ rfl
            have t6 := hf 6 _ rfl
            have t7 := hf 7 _ rfl
            simp [cellsInt, cellsRows, cellsBool2, cellsOps] at t0 t1 t2 t3 t4 t5 t6 t7
            obtain ⟨n0, e0, _, w0⟩ := DataW.trod_int Try.underlying3 t0
            obtain ⟨n1, e1, _, _⟩ := DataW.trod_int Try.underlying3 t1
            obtain ⟨ra, rc, l, rfl, S2, C2, R2, A2, B2⟩ := open_rows2 t2
            obtain ⟨n3, e3, _, w3⟩ := DataW.trod_int Try.underlying3 t3
            obtain ⟨n4, e4, _, w4⟩ := DataW.trod_int Try.underlying3 t4
            obtain ⟨n5, e5, _, w5⟩ := DataW.trod_int Try.underlying3 t5
            obtain ⟨b7, e7, _⟩ := DataW.trod_bool Try.underlying4 t7
            simp at e0 e1 e3 e4 e5 e7
            subst e0; subst e1; subst e3; subst e4; subst e5; subst e7
            have hD' : D i = .agg [y0.1, y1.1, y2.1, y3.1, y4.1, y5.1, y6.1, y7.1] := congrArg Prod.fst hD
            rw [hD'] at hDle ⊢
            simp only [Rows.uptoBulk, Rows.uptoBulkAll] at hDle ⊢
            have q0 := one_le y0.1
            have q1 := one_le y1.1
            have q3 := one_le y3.1
            have q4 := one_le y4.1
            have q5 := one_le y5.1
            have q7 := one_le y7.1
            obtain ⟨ia, inn, ic, rfl, hin⟩ := ih k u6 y6 t6 (by omega) (by omega)
            refine ⟨⟨n0, n1, ra, rc, l, n3, n4, n5, ia, inn, ic, b7⟩, fun j u hu => ?_, ⟨S2, C2, R2, fun r hr => by have := A2 r hr; omega, rng_wf w0, rng_wf w3, rng_wf w4, rng_wf w5, _, hin, by show Rows.uptoBulk y6.1 + l.length + 8 ≤ _; omega⟩⟩
            have hj : j < 8 := by
              have := (Array.getElem?_eq_some_iff.1 hu).1
              simpa [OpD.cells, opCells] using this
            have hcj := hc j hj
            rw [Deep.add_add] at hcj
            rw [hcj, ← hu]
            rcases j with _ | _ | _ | _ | _ | _ | _ | _ | j <;> first | rfl | omega
      have hsum := sum_le len (fun i => Rows.uptoBulk (D i)) D (fun i _ => Nat.le_refl _)
      have hsp : ∃ bb off, a = ⟨bb, off, none⟩ ∨ len = 0 := by
        rcases Nat.eq_zero_or_pos len with h0 | h0
        · exact ⟨0, 0, .inr h0⟩
        · obtain ⟨y, hy, _⟩ := hi 0 h0
          obtain ⟨bb, o, sp⟩ := a
          have hs : sp = none := by
            have := World.cell?_spot (hy 0 _ rfl)
            simpa [Addr.add] using this
          exact ⟨bb, o, .inl (by rw [hs])⟩
      rcases hsp with ⟨bb, off, rfl | h0⟩
      · refine .inr ⟨bb, off, rfl, (List.range len).map (fun i => Rows.uptoBulk (D i)), by simp, by omega, fun i v hv => ?_⟩
        have hil : i < len := by simpa using (List.getElem?_eq_some_iff.1 hv).1
        obtain ⟨y, hy, ho⟩ := hi i hil
        have e : v = Rows.uptoBulk (D i) := by
          rw [List.getElem?_map, List.getElem?_range hil] at hv
          simpa using hv.symm
        rw [e]
        exact ⟨y, fun j u hu => by
          have := hy j u hu
          rw [addr_add, ← Nat.add_assoc] at this
          exact this, ho⟩
      · exact .inl h0
end
end Op
end Go.Proofs.Ytgodidoibcomcaa.Bk

namespace Go.Proofs.Ytgodidoibcomcaa.storeTriesLaw
open Go.ChangeShapes Go.WideShapes Go.ChangeAt Go.RowKit Go.Joins

theorem own : ownKnob Try.prog.godebug = none := by kernel_rfl
theorem laidOut : laidOutB Try.prog = true := by kernel_rfl

set_option maxRecDepth 100000 in
theorem contract (H : Type) (enc : TypeId × Value → H) (W : World) (base : Nat) (args : Array Value) (ds gs : List (DataW H)) (before : List MemPlace)
    (hval0 : ∀ (j : Nat) t v, Try.f9.params[j]? = some t → args[j]? = some v → Value.okWide Try.prog W .any base t v)
    (hW : DataW.Whole enc Try.prog Try.f9.params.toList Rows.storeTriesSpec.vars false W args.toList ds gs before) (hk : Rows.uptoSmall H (ds ++ gs) = true) :
    Calls Try.prog 9 args W fun e W' => ∃ v, e = .returned v ∧ Rows.storeTriesSpec.post enc Try.prog Try.f9 false true false false W args v W' := by
  have hval : ∀ (j : Nat) t v, Try.f9.params[j]? = some t → args[j]? = some v → Value.okWide Try.prog W .any base t v := hval0
  have hW' := hW
  obtain ⟨p, q, hA0, hV, rfl, hfz, hnd⟩ := hW
  have hA : DataW.TrodAll enc Try.prog W 0 (fun _ => true) true Try.f9.params.toList args.toList ds p := hA0
  rw [Try.params9] at hA hval
  obtain ⟨v0, vs0, d0, ds0, p0, q0, hargs, rfl, rfl, h0, r0⟩ := trodAll_cons hA
  obtain ⟨v1, vs1, d1, ds1, p1, q1, rfl, rfl, rfl, h1, r1⟩ := trodAll_cons r0
  obtain ⟨rfl, rfl, rfl⟩ := trodAll_nil r1
  obtain rfl : args = #[v0, v1] := by cases args; simp_all
  obtain ⟨rfl, rfl⟩ := trodVars_none hV
  have k0 := h0
  have lt0 : ∀ x ∈ p0, x.block < W.heap.size := by obtain ⟨m, hm⟩ := k0; exact DataW.trod_lt m _ _ _ hm
  have k1 := h1
  have lt1 : ∀ x ∈ p1, x.block < W.heap.size := by obtain ⟨m, hm⟩ := k1; exact DataW.trod_lt m _ _ _ hm
  have hbulk := of_decide_eq_true hk
  simp only [List.append_nil] at hbulk
  simp only [Rows.uptoBulkAll] at hbulk
  obtain ⟨fu0, hf0⟩ := h0
  obtain ⟨ao0, av0, ac0, rfl⟩ := okWide_slice Try.underlying22 (hval 0 22 v0 rfl rfl)
  obtain ⟨a0, cp0, l0, ev0, S0, R0, M0, B0⟩ := Op.open_ints (by simpa [Value.cells] using hf0)
  rw [ev0] at hf0 k0 hW' ⊢
  simp only at B0
  unfold maxLen at M0
  obtain ⟨fu1, hf1⟩ := h1
  obtain ⟨ao1, av1, ac1, rfl⟩ := okWide_slice Try.underlying48 (hval 1 48 v1 rfl rfl)
  obtain ⟨a1, n1, cp1, ev1, S1⟩ := Bk.Op.open_ops 1048576 fu1 _ _ (by simpa [Value.cells] using hf1) (by simp only; omega) (Nat.le_refl _)
  rw [ev1] at hf1 k1 hW' ⊢
  simp only at S1
  clear hA0 hval0
  simp only [List.append_nil] at hW'
  refine (Bk.tries_any W a0 a1 cp0 cp1 n1 1048576 _ l0 S0 (by omega) S1 (by omega)).mono fun e W' ⟨he, bel⟩ => ?_
  subst he
  exact ⟨_, rfl, _, _, _, [], _, [], hW', trodAll_mk1 (shut_bool Try.underlying4 _), (trodAll_cons_mk (Below.trod laidOut (by kernel_rfl) (of_decide_eq_true (by kernel_rfl)) k0 bel lt0) (trodAll_cons_mk (Below.trod laidOut (by kernel_rfl) (of_decide_eq_true (by kernel_rfl)) k1 bel lt1) trodAll_mk0)), rfl, bel.frame _, fun h => by cases h⟩

set_option maxRecDepth 100000 in
theorem lifted (os : Os) (started : os.Started) (H : Type) (enc : TypeId × Value → H) (F : Stop.Interp) :
    ReturnsInHanded {} Try.checked os 9 .any ((Rows.OpenSpec.upto Rows.storeTriesSpec).pre6 enc Try.prog Try.f9 Rows.storeTriesUptoRow.domain false) (((Rows.OpenSpec.upto Rows.storeTriesSpec).at F).post enc Try.prog Try.f9 false true false false) := by
  refine returnsInHanded_of_cond (C := Try.checked) (s := Rows.OpenSpec.upto Rows.storeTriesSpec) (k := Rows.uptoSmall) rfl own started (by kernel_rfl) Try.func9
    (OpenSpec.witness (enc := enc) (C := Try.checked) (s := Rows.OpenSpec.upto Rows.storeTriesSpec) (k := Rows.uptoSmall) rfl false ⟨#[], #[.slice none 0 0, .slice none 0 0], []⟩ 8 (by kernel_rfl) (by kernel_rfl) (by kernel_rfl)
      (x := ([.nil, .nil], [], [])) (by kernel_rfl) rfl (by kernel_rfl)) ?_
  intro W base args ds gs before hval hW _ hk _
  exact contract H enc W base args ds gs before hval hW hk

theorem proved : Rows.StoreTriesUptoSaid :=
  OpenClaim.holds_of_cond 9 Try.f9 rfl rfl rfl rfl rfl rfl rfl ⟨rfl, rfl, rfl, rfl, rfl⟩ rfl rfl rfl rfl rfl (by kernel_rfl) Try.func9 (by kernel_rfl)
    (of_decide_eq_true (by kernel_rfl)) (by unfold Func.isWrapper; first | (rw [if_pos (by decide +kernel)]; kernel_rfl) | (rw [if_neg (by decide +kernel)]; exact ⟨rfl, rfl⟩))
    (fun os started H enc _ F => lifted os started H enc F)
#print axioms proved
end Go.Proofs.Ytgodidoibcomcaa.storeTriesLaw
