/-
  The law StoreEach is proved, where what it reads is of bulk at most 1048576: the call returns true, and its arguments read behind it as they read before.
-/
import Derived.Test.YtgodidoibcomcaaKE1
import Derived.ProofKit
import Derived.OpenShut
import Derived.ChangeOld
import Derived.Below
import Derived.SizedLaws
import Derived.Lib.SmallJoins
import Derived.JoinedCond
namespace Go.Proofs.Ytgodidoibcomcaa.Bk
open Go.RowKit Go.Proofs.Ytgodidoibcomcaa

/-- what stays while Each runs -/
structure ED where
  w0 : World
  wv : World
  β : Book
  C : List Box
  ab : Nat
  cb : Nat
  sb : Nat
  bb : Nat
  ob : Nat
  tb : Nat
  nb : Nat
  hb : Nat
  kb : Nat
  k : Nat
  U : Nat
  t : Nat
  kind : Int
  on : Int
  ra : Option Addr
  rl : Nat
  rc : Nat
  nn : Int
  place : Int
  id : Int
  ia : Option Addr
  inn : Nat
  ic : Nat
  say : Bool
  na : Option Addr
  nc : Nat
  ha : Option Addr
  hc : Nat
  NB : List Box
  p : Pr
  T : List (Int × Int)
  bl : List Int
  us : List Nat
def ED.nums (D : ED) : List Int := D.T.map (·.1)
def ED.oc (D : ED) : Array Value := opCells D.kind D.on (.slice D.ra D.rl D.rc) D.nn D.place D.id (.slice D.ia D.inn D.ic) D.say
def ED.K (D : ED) (X : List Box) : List Box := eK D.bb D.ob D.tb D.nb D.hb D.kb D.β.bk D.p.rb D.oc D.na D.ha D.T.length D.nc D.hc (D.NB ++ X)
def ED.caps (D : ED) : Array Value := #[.pointer (some ⟨D.ab, 0, none⟩), .pointer (some ⟨D.nb, 0, none⟩), .pointer (some ⟨D.tb, 0, none⟩), .pointer (some ⟨D.hb, 0, none⟩), .pointer (some ⟨D.sb, 0, none⟩), .pointer (some ⟨D.kb, 0, none⟩), .pointer (some ⟨D.bb, 0, none⟩), .pointer (some ⟨D.cb, 0, none⟩), .pointer (some ⟨D.ob, 0, none⟩)]
structure EOk (D : ED) : Prop where
  nums : BoxRow D.NB 3 1 (.slice D.na D.T.length D.nc) D.T.length (D.nums.map (Value.int .i64))
  born : BoxRow D.NB 3 1 (.slice D.ha D.T.length D.hc) D.T.length (D.bl.map (Value.int .i64))
  lb : D.bl.length = D.T.length
  nat : ∀ x ∈ D.T, ∃ m : Nat, x.1 = (m : Int)
  len : D.T.length ≤ D.U
  U : D.U ≤ 1048576
  tot : D.t + D.us.sum + 8 ≤ D.U
  k : D.k ≤ 1000000
  usl : D.us.length = D.inn
  inner : D.inn = 0 ∨ ∃ d b off, D.ia = some ⟨b, off, none⟩ ∧ ∀ (i v : Nat), D.us[i]? = some v → ∃ x : OpD, (∀ (j : Nat) y, x.cells[j]? = some y → D.w0.cell? ⟨b, off + i * 8 + j, none⟩ = some y) ∧ OpIn (OpsE D.w0 d) D.w0 x v
/-- the row of turn i is no more -/
def ED.Dead (D : ED) (p : Pr) (i : Nat) : Prop := ∃ (m : Nat) (y : Int), D.nums[i]? = some (m : Int) ∧ D.bl[i]? = some y ∧ p.born[m]? ≠ some y
def EInv (D : ED) (j : Nat) (X : List Box) (τ : Own) (w : World) (σ : St) : Prop :=
  j ≤ D.T.length ∧ ∃ βr Cr an cn p, an ≤ j ∧ cn ≤ j ∧ EMid D.w0 D.β D.C D.wv (D.K X) D.ab D.cb D.sb an cn false βr τ Cr w ∧ LimE D.U βr (D.t + (D.us.take cn).sum) (cn - D.inn) ∧ Turns βr D.k D.p.sb D.p.rb D.T D.bl ∧ βr.ps[D.k]? = some p ∧ σ = stOf βr.ar p ∧ ∀ i, an ≤ i → i < j → D.Dead p i
def EFin (D : ED) (τ : Own) (w : World) : Prop :=
  ∃ X βr Cr an cn stop p, an ≤ D.T.length ∧ cn ≤ D.T.length ∧ EMid D.w0 D.β D.C D.wv (D.K X) D.ab D.cb D.sb an cn stop βr τ Cr w ∧ LimE D.U βr (D.t + (D.us.take cn).sum) (cn - D.inn) ∧ βr.ps[D.k]? = some p ∧ p.rb = D.p.rb ∧ (stop = true ∨ ∀ i, an ≤ i → i < D.T.length → D.Dead p i)

theorem take_sum_mono (us : List Nat) (c : Nat) : (us.take c).sum ≤ (us.take (c + 1)).sum := by
  cases h : us[c]? with
  | none =>
    have := List.getElem?_eq_none_iff.1 h
    rw [List.take_of_length_le this, List.take_of_length_le (Nat.le_succ_of_le this)]
    exact Nat.le_refl _
  | some v =>
    rw [take_sum_succ h]
    exact Nat.le_add_right _ _

theorem each_fn (D : ED) (O : EOk D) : EachFn (2 * D.k + 1) D.p.sb 64 D.caps D.T (EInv D) (EFin D) := by
  have numAt : ∀ {j : Nat} {x : Int × Int}, D.T[j]? = some x → ∃ m : Nat, x.1 = (m : Int) ∧ D.nums[j]? = some (m : Int) := fun {j x} hx => by
    obtain ⟨m, hm⟩ := O.nat x (List.mem_of_getElem? hx)
    exact ⟨m, hm, by unfold ED.nums; rw [List.getElem?_map, hx, ← hm]; rfl⟩
  have bornAt : ∀ {j : Nat} {x : Int × Int}, D.T[j]? = some x → ∃ b, D.bl[j]? = some b := fun {j x} hx => by
    have := (List.getElem?_eq_some_iff.1 hx).1
    exact ⟨_, List.getElem?_eq_getElem (by rw [O.lb]; exact this)⟩
  have bsAt : ∀ (ar : List Int) (p : Pr) (m : Nat), (stOf ar p).bs[m]? = p.rs[m]?.map (·.2) := fun ar p m => by show (p.rs.map (·.2))[m]? = _; rw [List.getElem?_map]
  refine ⟨?_, ?_, ?_, ?_, ?_, ?_, ?_⟩
  · rintro j X τ w w' σ ⟨hj, βr, Cr, an, cn, p, h1, h2, M, L, Tn, hp, hσ, hd⟩ hb
    exact ⟨hj, βr, Cr, an, cn, p, h1, h2, M.below hb, L, Tn, hp, hσ, hd⟩
  · rintro j X τ w σ ⟨hj, βr, Cr, an, cn, p, h1, h2, M, L, ⟨p', hp', hsb, hrb, hal⟩, hp, rfl, hd⟩
    rw [hp] at hp'
    cases hp'
    obtain ⟨h, hs⟩ := M.st.E.storeOf (mem_ents.2 ⟨D.k, p, hp, .inl rfl⟩) O.k
    rw [hsb] at hs
    refine ⟨h, hs, ?_⟩
    have := L.rs p (List.mem_of_getElem? hp)
    have h3 := O.tot
    have h4 := O.U
    have h5 := take_sum_le D.us cn
    show p.rows.length ≤ _
    rw [show p.rows.length = p.rs.length from List.length_map _]
    omega
  · rintro j X τ w σ ⟨hj, βr, Cr, an, cn, p, h1, h2, M, L, Tn, hp, hσ, hd⟩ x hx
    exact (M.st.E.boxes x (M.con x (by unfold ED.K eK; simp [hx])).1).2
  · rintro j X τ w σ x ⟨hj, βr, Cr, an, cn, p, h1, h2, M, L, Tn, hp, rfl, hd⟩ hx hne
    obtain ⟨p', hp', hsb, hrb, hal⟩ := id Tn
    rw [hp] at hp'
    cases hp'
    obtain ⟨m, hm, hnm⟩ := numAt hx
    obtain ⟨b, hb⟩ := bornAt hx
    have ha := (hal j x b hx hb).1
    rw [hm, Int.toNat_natCast] at ha hne
    rw [bsAt] at hne
    have hlt := (List.getElem?_eq_some_iff.1 hx).1
    refine ⟨hlt, βr, Cr, an, cn, p, by omega, by omega, M, L, Tn, hp, rfl, fun i hi1 hi2 => ?_⟩
    by_cases hij : i < j
    · exact hd i hi1 hij
    · have : i = j := by omega
      subst this
      exact ⟨m, b, hnm, hb, fun e => hne (ha.2 e)⟩
  · rintro j X τ wb w σ x r a c ⟨hj, βr, Cr, an, cn, p, h1, h2, M, L, Tn, hp, rfl, hd⟩ hbel hx hbs hr hown
    obtain ⟨p', hp', hsb, hrb, hal⟩ := id Tn
    rw [hp] at hp'
    cases hp'
    obtain ⟨m, hm, hnm⟩ := numAt hx
    obtain ⟨b, hb⟩ := bornAt hx
    have ha := (hal j x b hx hb).1
    have hlt := (List.getElem?_eq_some_iff.1 hx).1
    rw [hm, Int.toNat_natCast] at ha hbs hr
    rw [bsAt] at hbs
    have hr' : p.rows[m]? = some (r.1, r.2) := hr
    have h8 : r.2.length ≤ 8 := by
      obtain ⟨h, hs⟩ := M.st.E.storeOf (mem_ents.2 ⟨D.k, p, hp, .inl rfl⟩) O.k
      exact (hs.sound.fits r (List.mem_of_getElem? hr)).2.2.2.1
    have hl := O.len
    have hU := O.U
    have ht := O.tot
    have hs1 := take_sum_le D.us (cn + 1)
    have hs2 := take_sum_mono D.us cn
    have hinn : D.inn ≤ 1048576 := by
      rcases O.inner with h | ⟨d, ib, io, hia, hall⟩
      · omega
      · have := sum_ge D.us 1 (fun v hv => by
          obtain ⟨i, hi⟩ := List.mem_iff_getElem?.1 hv
          obtain ⟨y, -, hy⟩ := hall i v hi
          have := hy.less.1
          omega)
        have := O.usl
        omega
    have K1 := each1_any (nums := D.nums) (bl := D.bl) (NB := D.NB ++ X) (a := a) (c := c) (xs := r.2) (P := r.1) (k := D.k) (U := D.U) (t := D.t + (D.us.take cn).sum) (t' := D.t + (D.us.take (cn + 1)).sum) (Ops := fun _ _ _ => True) D.kind D.on D.ra D.rl D.rc D.nn D.place D.id D.ia D.inn D.ic D.say M
      (O.nums.mono fun x hx _ => List.mem_append.2 (.inl hx)) (O.born.mono fun x hx _ => List.mem_append.2 (.inl hx)) (by omega) M.st.bk hp hrb L (by omega) (by omega) (by omega) O.U hnm hb hlt (ha.1 hbs) h1 hd hr' h8 hbel hown (fun hc => by
        rcases O.inner with h | ⟨d, ib, io, hia, hall⟩
        · omega
        · have hul := O.usl
          obtain ⟨v, hv⟩ : ∃ v, D.us[cn]? = some v := ⟨_, List.getElem?_eq_getElem (by omega)⟩
          obtain ⟨y, hy1, hy2⟩ := hall cn v hv
          obtain ⟨h9, hop⟩ := hy2.less
          have := take_sum_succ hv
          exact ⟨ib, io, v - 1, y, hia, hy1, hop, by omega⟩) hinn
    rw [← hm] at K1
    refine Calls.mono K1 ?_
    rintro e w2 ⟨stop, β2, τ2, C2, rfl, M2, L2, l2⟩
    obtain ⟨p2, hp2, lat⟩ := l2.each D.k p hp
    cases stop with
    | false => exact ⟨true, τ2, stOf β2.ar p2, rfl, .inl ⟨rfl, hlt, β2, C2, j + 1, cn + 1, p2, Nat.le_refl _, by omega, M2, L2, Tn.later M.l.ok l2, hp2, rfl, fun i hi1 hi2 => by omega⟩⟩
    | true => exact ⟨false, τ2, stOf β2.ar p2, rfl, .inr ⟨rfl, X, β2, C2, j + 1, cn + 1, true, p2, hlt, by omega, M2, L2, hp2, lat.rb.trans hrb, .inl rfl⟩⟩
  · rintro X τ w σ ⟨hj, βr, Cr, an, cn, p, h1, h2, M, L, ⟨p', hp', hsb, hrb, hal⟩, hp, rfl, hd⟩
    rw [hp] at hp'
    cases hp'
    exact ⟨X, βr, Cr, an, cn, false, p, h1, h2, M, L, hp, hrb, .inr hd⟩
  · intro x y w
    rfl
end Go.Proofs.Ytgodidoibcomcaa.Bk

namespace Go.Proofs.Ytgodidoibcomcaa.Bk
open Go.RowKit Go.Proofs.Ytgodidoibcomcaa

/-- boxes that were made since w -/
structure Pre (w W : World) (Bs : List Box) : Prop where
  below : Below w.heap.size w W
  on : ∀ x ∈ Bs, w.heap.size ≤ x.1 ∧ W.heap[x.1]? = some x.2
  nd : (Bs.map (·.1)).Nodup
section
variable {w W W' : World} {Bs : List Box}
theorem Pre.lt (h : Pre w W Bs) {x : Box} (hx : x ∈ Bs) : x.1 < W.heap.size := (Array.getElem?_eq_some_iff.1 (h.on x hx).2).1
theorem Pre.start (w : World) : Pre w w [] := ⟨Below.refl _ _, (fun x hx => by cases hx), List.nodup_nil⟩
theorem Pre.later (h : Pre w W Bs) (hb : Below W.heap.size W W') : Pre w W' Bs :=
  ⟨h.below.trans (hb.mono h.below.size), fun x hx => ⟨(h.on x hx).1, (hb.block _ (h.lt hx)).trans (h.on x hx).2⟩, h.nd⟩
theorem Pre.put (h : Pre w W Bs) (hb : Below W.heap.size W W') {g : Nat} {o : Obj} (hg : W.heap.size ≤ g) (ho : W'.heap[g]? = some o) : Pre w W' ((g, o) :: Bs) := by
  have h' := h.later hb
  refine ⟨h'.below, fun x hx => ?_, ?_⟩
  · rcases List.mem_cons.1 hx with rfl | hx
    · exact ⟨Nat.le_trans h.below.size hg, ho⟩
    · exact h'.on x hx
  · rw [List.map_cons, List.nodup_cons]
    refine ⟨fun hm => ?_, h.nd⟩
    obtain ⟨x, hx, e⟩ := List.mem_map.1 hm
    have := h.lt hx
    simp only at e
    omega
theorem Pre.alloc (h : Pre w W Bs) (o : Obj) : Pre w (W.alloc o) ((W.heap.size, o) :: Bs) := h.put ((Below.refl _ _).alloc (Nat.le_refl _) _) (Nat.le_refl _) (MapKept.heap_alloc W o).1
theorem Pre.cell (h : Pre w W Bs) {g : Nat} {cs : Array Value} {T : TypeId} (hx : (g, Obj.cells cs T (0, 0)) ∈ Bs) {j : Nat} {v : Value} (hj : cs[j]? = some v) : W.cell? ⟨g, j, none⟩ = some v ∧ W.frozen? ⟨g, j, none⟩ = false := by
  have := (h.on _ hx).2
  simp [World.cell?, World.frozen?, this, hj]
theorem Pre.list (h : Pre w W Bs) (hb : Below W.heap.size W W') {B n : Nat} {v : Value} {xs : List Value} (ho : W'.ownsRow B 3 1 v n xs) (hB : W.heap.size ≤ B) : ∃ LB, Pre w W' (LB ++ Bs) ∧ BoxRow LB 3 1 v n xs := by
  rcases ho with ⟨h1, h2 | ⟨g, cap, cur, h3, h4, h5, h6⟩⟩
  · exact ⟨[], h.later hb, h1, .inl h2⟩
  · exact ⟨[(g, Obj.cells cur 3 (0, 0))], h.put hb (Nat.le_trans hB h4) h5, h1, .inr ⟨g, cap, cur, h3, List.mem_cons_self .., h6⟩⟩
theorem Pre.two (h : Pre w W Bs) (hb : Below W.heap.size W W') {g : Nat} {o : Obj} (hg : W.heap.size ≤ g) (ho : W'.heap[g]? = some o) {n : Nat} {v : Value} {xs : List Value} (hw : W'.ownsRow (g + 1) 3 1 v n xs) : ∃ LB, Pre w W' (LB ++ (g, o) :: Bs) ∧ BoxRow LB 3 1 v n xs := by
  have h' := h.put hb hg ho
  rcases hw with ⟨h1, h2 | ⟨g', cap, cur, h3, h4, h5, h6⟩⟩
  · exact ⟨[], h', h1, .inl h2⟩
  · refine ⟨[(g', Obj.cells cur 3 (0, 0))], ⟨h'.below, fun x hx => ?_, ?_⟩, h1, .inr ⟨g', cap, cur, h3, List.mem_cons_self .., h6⟩⟩
    · rcases List.mem_append.1 hx with hx | hx
      · rw [List.mem_singleton] at hx
        subst hx
        have := h.below.size
        exact ⟨by show w.heap.size ≤ g'; omega, h5⟩
      · exact h'.on x hx
    · rw [List.singleton_append, List.map_cons, List.nodup_cons]
      refine ⟨fun hm => ?_, h'.nd⟩
      obtain ⟨x, hx, e⟩ := List.mem_map.1 hm
      simp only at e
      rcases List.mem_cons.1 hx with rfl | hx
      · simp only at e
        omega
      · have := h.lt hx
        omega
theorem Pre.elem (h : Pre w W Bs) {a : Option Addr} {c n : Nat} {xs : List Int} (hr : BoxRow Bs 3 1 (.slice a n c) n (xs.map (Value.int .i64))) {i : Nat} {x : Int} (hx : xs[i]? = some x) : ∃ g, a = some ⟨g, 0, none⟩ ∧ W.cell? ⟨g, i, none⟩ = some (.int .i64 x) := by
  have hi := (List.getElem?_eq_some_iff.1 hx).1
  obtain ⟨h1, h2 | ⟨g, cap, cur, h3, h4, h5, h6, h7, h8⟩⟩ := hr
  · rw [List.length_map] at h1
    omega
  · simp only [Value.slice.injEq] at h3
    obtain ⟨rfl, -, -⟩ := h3
    refine ⟨g, rfl, (h.cell h4 (j := i) (v := .int .i64 x) ?_).1⟩
    have hm : (xs.map (Value.int .i64))[i]? = some (.int .i64 x) := by rw [List.getElem?_map, hx]; rfl
    rw [← h8, List.getElem?_take] at hm
    split at hm
    · simpa using hm
    · cases hm
theorem Pre.env {w0 : World} {τ : Own} {S : List Ent} {L : List RSl} {C : List Box} (h : Pre w W Bs) (E : Env w0 τ w S L C) : Env w0 (adopted boxS .still w.heap.size W.heap.size τ) W S L (Bs ++ C) := by
  have T : Turn boxS (fun _ => False) τ (adopted boxS .still w.heap.size W.heap.size τ) w W := ⟨h.below.os, h.below.tape, h.below.output, h.below.size, fun j hj _ => h.below.block j hj, fun j hj => adopted_out (by omega), (fun j hj s' r e => by
    unfold adopted at e
    split at e
    · cases e; rfl
    · rw [E.fresh j hj] at e; cases e), fun j hj => by rw [adopted_out (by omega)]; exact E.fresh j (Nat.le_trans h.below.size hj)⟩
  obtain ⟨h1, h2, h3, h4, h5⟩ := E.turned T (.inr fun h => h)
  refine ⟨h1, h2, h3, fun z hz => (E.st z hz).idle T (fun _ h => h), h4, fun x hx => ?_, ?_⟩
  · rcases List.mem_append.1 hx with hx | hx
    · exact ⟨adopted_in (h.on x hx).1 (h.lt hx), (h.on x hx).2⟩
    · exact h5 x hx
  · rw [List.map_append, List.nodup_append]
    refine ⟨h.nd, E.keys, fun a ha b hb e => ?_⟩
    obtain ⟨x, hx, rfl⟩ := List.mem_map.1 ha
    obtain ⟨y, hy, rfl⟩ := List.mem_map.1 hb
    have h1 := (h.on x hx).1
    have h2 := E.lt hy
    omega
end
/-- one more box stands -/
theorem EMid.box {w0 : World} {β βr : Book} {C K K' Cr : List Box} {w wr w2 : World} {ab cb sb an cn : Nat} {stop : Bool} {τr : Own} (M : EMid w0 β C w K ab cb sb an cn stop βr τr Cr wr) (hb : Below wr.heap.size wr w2) {g : Nat} {o : Obj} (hg : wr.heap.size ≤ g) (ho : w2.heap[g]? = some o) (hK : ∀ x ∈ K', x ∈ K ∨ x = (g, o)) :
    EMid w0 β C w K' ab cb sb an cn stop βr (adopted boxS .still g (g + 1) τr) ((g, o) :: Cr) w2 := by
  have lt : ∀ {x : Box}, x ∈ Cr → x.1 < wr.heap.size := fun {x} hx => M.st.E.lt hx
  have la := lt M.va.1
  have lc := lt M.vc.1
  have ls := lt M.vs.1
  simp only at la lc ls
  have F := Far.new M.st.E M.st.ok hg
  refine ⟨M.base, M.P, ⟨M.st.E.adopt hb hg ho, M.st.ok.more (fun x hx => List.mem_cons_of_mem _ hx), M.st.bk, M.st.ar, Nat.le_trans M.st.size hb.size, fun x hx a b c d => List.mem_cons_of_mem _ (M.st.old x hx a b c d), M.st.gS, M.st.gR, M.st.gL, M.st.off⟩, M.l, fun x hx => ?_, M.new, M.nd, ⟨List.mem_cons_of_mem _ M.va.1, M.va.2⟩, ⟨List.mem_cons_of_mem _ M.vc.1, M.vc.2⟩, ⟨List.mem_cons_of_mem _ M.vs.1, M.vs.2⟩⟩
  rcases hK x hx with hx | rfl
  · exact ⟨List.mem_cons_of_mem _ (M.con x hx).1, (M.con x hx).2⟩
  · exact ⟨List.mem_cons_self .., F, by show g ≠ ab; omega, by show g ≠ cb; omega, by show g ≠ sb; omega⟩

/-- the times of the rows that Of lists -/
noncomputable def bornOf (p : Pr) (n : Int) : List Int := (ofK p.rows (.int .i64 n)).map fun m => (p.born[m.toNat]?).getD 0
theorem bornOf_at {p : Pr} {n : Int} (hq : PrOk p) {i : Nat} (hi : i < (ofK p.rows (.int .i64 n)).length) : ∃ (m : Nat) (y : Int) (r : Row × Int), (ofK p.rows (.int .i64 n))[i]? = some (m : Int) ∧ (bornOf p n)[i]? = some y ∧ p.born[m]? = some y ∧ p.rs[m]? = some r := by
  obtain ⟨x, hx⟩ : ∃ x, (ofK p.rows (.int .i64 n))[i]? = some x := ⟨_, List.getElem?_eq_getElem hi⟩
  obtain ⟨m, r, rfl, hr, -⟩ := idxL_at (List.mem_of_getElem? hx)
  have hr' : (p.rs.map (·.1))[m]? = some r := hr
  rw [List.getElem?_map] at hr'
  obtain ⟨q, hq', -⟩ := Option.map_eq_some_iff.1 hr'
  have hml : m < p.born.length := by rw [hq.len]; exact (List.getElem?_eq_some_iff.1 hq').1
  refine ⟨m, p.born[m], q, hx, ?_, List.getElem?_eq_getElem hml, hq'⟩
  unfold bornOf
  rw [List.getElem?_map, hx]
  simp [List.getElem?_eq_getElem hml]

/-- how Each leaves each's variables -/
def CallEnd (w0 : World) (β : Book) (C : List Box) (w : World) (ab cb sb bb ob tb nb hb kb k U t : Nat) (oc : Array Value) (na ha : Option Addr) (nc hc : Nat) (NB : List Box) (p : Pr) (n : Int) (us : List Nat) (inn : Nat) (e : Ending) (w' : World) : Prop :=
  e = .returned (.tuple #[]) ∧ ∃ (NX : List Box) (βr : Book) (τr : Own) (Cr : List Box) (an cn : Nat) (stop : Bool) (p' : Pr), an ≤ (ofK p.rows (.int .i64 n)).length ∧ cn ≤ (ofK p.rows (.int .i64 n)).length ∧ (∀ x ∈ NB, x ∈ NX) ∧
    EMid w0 β C w (eK bb ob tb nb hb kb β.bk p.rb oc na ha (ofK p.rows (.int .i64 n)).length nc hc NX) ab cb sb an cn stop βr τr Cr w' ∧ LimE U βr (t + (us.take cn).sum) (cn - inn) ∧ βr.ps[k]? = some p' ∧ p'.rb = p.rb ∧
    (stop = true ∨ ∀ i, an ≤ i → i < (ofK p.rows (.int .i64 n)).length → ∃ (m : Nat) (y : Int), (ofK p.rows (.int .i64 n))[i]? = some (m : Int) ∧ (bornOf p n)[i]? = some y ∧ p'.born[m]? ≠ some y)
theorem each_call {w0 : World} {τ : Own} {w W : World} {β : Book} {C Bs NB : List Box} {ab cb sb bb ob tb nb hb kb k U t : Nat} {p : Pr} {na ha : Option Addr} {nc hc : Nat} {us : List Nat}
    (kind on : Int) (ra : Option Addr) (rl rc : Nat) (n place id : Int) (ia : Option Addr) (inn ic : Nat) (say : Bool)
    (E : Env w0 τ w (ents β.ar β.ps) [] C) (B : BookOk β C) (HP : ∀ p ∈ β.ps, PrOk p) (hp : β.ps[k]? = some p) (hL : Lim U β t) (hn : Rng n) (hU2 : U ≤ 1048576) (htot : t + us.sum + 8 ≤ U) (hul : us.length = inn)
    (hin : inn = 0 ∨ ∃ d b off, ia = some ⟨b, off, none⟩ ∧ ∀ (i v : Nat), us[i]? = some v → ∃ x : OpD, (∀ (j : Nat) y, x.cells[j]? = some y → w0.cell? ⟨b, off + i * 8 + j, none⟩ = some y) ∧ OpIn (OpsE w0 d) w0 x v)
    (PW : Pre w W Bs) (hK : ∀ x ∈ eK bb ob tb nb hb kb β.bk p.rb (opCells kind on (.slice ra rl rc) n place id (.slice ia inn ic) say) na ha (ofK p.rows (.int .i64 n)).length nc hc NB, x ∈ Bs ∧ x.1 ≠ ab ∧ x.1 ≠ cb ∧ x.1 ≠ sb) (hnd : ab ≠ cb ∧ ab ≠ sb ∧ cb ≠ sb)
    (hva : (ab, Obj.cells #[.int .i64 0] 3 (0, 0)) ∈ Bs) (hvc : (cb, Obj.cells #[.int .i64 0] 3 (0, 0)) ∈ Bs) (hvs : (sb, Obj.cells #[.bool false] 4 (0, 0)) ∈ Bs)
    (hN : BoxRow NB 3 1 (.slice na (ofK p.rows (.int .i64 n)).length nc) (ofK p.rows (.int .i64 n)).length ((ofK p.rows (.int .i64 n)).map (Value.int .i64))) (hH : BoxRow NB 3 1 (.slice ha (ofK p.rows (.int .i64 n)).length hc) (ofK p.rows (.int .i64 n)).length ((bornOf p n).map (Value.int .i64))) :
    Calls Try.prog 32 #[.pointer (some ⟨p.sb, 0, none⟩), .int .i64 n, .func (.func 64) #[] #[.pointer (some ⟨ab, 0, none⟩), .pointer (some ⟨nb, 0, none⟩), .pointer (some ⟨tb, 0, none⟩), .pointer (some ⟨hb, 0, none⟩), .pointer (some ⟨sb, 0, none⟩), .pointer (some ⟨kb, 0, none⟩), .pointer (some ⟨bb, 0, none⟩), .pointer (some ⟨cb, 0, none⟩), .pointer (some ⟨ob, 0, none⟩)]] W
      (CallEnd w0 β C w ab cb sb bb ob tb nb hb kb k U t (opCells kind on (.slice ra rl rc) n place id (.slice ia inn ic) say) na ha nc hc NB p n us inn) := by
  have hk := (List.getElem?_eq_some_iff.1 hp).1
  have hq := HP p (List.mem_of_getElem? hp)
  have hps := B.many
  have hlim := hL.rs p (List.mem_of_getElem? hp)
  have EW := PW.env E
  obtain ⟨h, hs⟩ := EW.storeOf (mem_ents.2 ⟨k, p, hp, .inl rfl⟩) (by omega)
  have hTn : (turnsOf (stOf β.ar p) n).map (·.1) = ofK p.rows (.int .i64 n) := by
    unfold turnsOf
    rw [List.map_map]
    conv => rhs; rw [← List.map_id (ofK p.rows (.int .i64 n))]
    rfl
  have hTl : (turnsOf (stOf β.ar p) n).length = (ofK p.rows (.int .i64 n)).length := by rw [← hTn, List.length_map]
  have hol := of_len p.rows n
  rw [show p.rows.length = p.rs.length from List.length_map _] at hol
  obtain ⟨D, hD⟩ : ∃ D : ED, D = { w0 := w0, wv := w, β := β, C := C, ab := ab, cb := cb, sb := sb, bb := bb, ob := ob, tb := tb, nb := nb, hb := hb, kb := kb, k := k, U := U, t := t, kind := kind, on := on, ra := ra, rl := rl, rc := rc, nn := n, place := place, id := id, ia := ia, inn := inn, ic := ic, say := say, na := na, nc := nc, ha := ha, hc := hc, NB := NB, p := p, T := turnsOf (stOf β.ar p) n, bl := bornOf p n, us := us } := ⟨_, rfl⟩
  have hDn : D.nums = ofK p.rows (.int .i64 n) := by rw [hD]; exact hTn
  have hDK : ∀ X, D.K X = eK bb ob tb nb hb kb β.bk p.rb (opCells kind on (.slice ra rl rc) n place id (.slice ia inn ic) say) na ha (ofK p.rows (.int .i64 n)).length nc hc (NB ++ X) := fun X => by
    rw [hD]
    show eK bb ob tb nb hb kb β.bk p.rb _ na ha (turnsOf (stOf β.ar p) n).length nc hc (NB ++ X) = _
    rw [hTl]
    rfl
  have O : EOk D := by
    refine ⟨?_, ?_, ?_, ?_, ?_, ?_, ?_, ?_, ?_, ?_⟩
    · rw [hDn]
      rw [hD]
      show BoxRow NB _ 1 (.slice na (turnsOf (stOf β.ar p) n).length nc) (turnsOf (stOf β.ar p) n).length _
      rw [hTl]
      exact hN
    · rw [hD]
      show BoxRow NB _ 1 (.slice ha (turnsOf (stOf β.ar p) n).length hc) (turnsOf (stOf β.ar p) n).length _
      rw [hTl]
      exact hH
    · rw [hD]
      show (bornOf p n).length = (turnsOf (stOf β.ar p) n).length
      rw [hTl]
      unfold bornOf
      rw [List.length_map]
    · intro x hx
      obtain ⟨i, hi⟩ := List.mem_iff_getElem?.1 hx
      rw [hD] at hi
      obtain ⟨-, m, r, hm, -⟩ := turnsOf_at hs hi
      exact ⟨m, hm⟩
    · rw [hD]
      show (turnsOf (stOf β.ar p) n).length ≤ U
      omega
    · rw [hD]; exact hU2
    · rw [hD]; exact htot
    · rw [hD]; show k ≤ 1000000; omega
    · rw [hD]; exact hul
    · rw [hD]; exact hin
  have hTurns : Turns β k p.sb p.rb (turnsOf (stOf β.ar p) n) (bornOf p n) := by
    refine ⟨p, hp, rfl, rfl, fun i x b hx hb => ?_⟩
    obtain ⟨hx1, m, r, hm, hr, -, hbs⟩ := turnsOf_at hs hx
    have hi := (List.getElem?_eq_some_iff.1 hx1).1
    obtain ⟨m', y, q, k1, k2, k3, k4⟩ := bornOf_at hq (n := n) hi
    have hx1' : (ofK p.rows (.int .i64 n))[i]? = some x.1 := hx1
    rw [hx1', hm] at k1
    simp only [Option.some.injEq, Int.natCast_inj] at k1
    subst k1
    rw [k2] at hb
    cases hb
    have hbs' : (p.rs.map (·.2))[m]? = some x.2 := hbs
    rw [List.getElem?_map, k4] at hbs'
    simp only [Option.map_some, Option.some.injEq] at hbs'
    rw [hm, Int.toNat_natCast]
    refine ⟨?_, ?_, hq.rf _ (List.mem_of_getElem? k3)⟩
    · rw [k4, k3]
      simp [hbs']
    · rw [← hbs']
      exact hq.st _ (List.mem_of_getElem? k4)
  have M0 : EMid w0 β C w (D.K []) ab cb sb 0 0 false β (adopted boxS .still w.heap.size W.heap.size τ) (Bs ++ C) W := by
    have far : ∀ {x : Box}, x ∈ Bs → Far β x.1 := fun {x} hx => Far.new E B (PW.on x hx).1
    refine ⟨⟨τ, _, E⟩, HP, Step.ofMore E B EW (fun x hx => List.mem_append.2 (.inr hx)) PW.below.size, BLater.refl HP, fun x hx => ?_, ⟨(PW.on _ hva).1, (PW.on _ hvc).1, (PW.on _ hvs).1⟩, hnd, ⟨List.mem_append.2 (.inl hva), far hva⟩, ⟨List.mem_append.2 (.inl hvc), far hvc⟩, ⟨List.mem_append.2 (.inl hvs), far hvs⟩⟩
    rw [hDK, List.append_nil] at hx
    obtain ⟨h1, h2⟩ := hK x hx
    exact ⟨List.mem_append.2 (.inl h1), far h1, h2⟩
  have inv : ∀ (X : List Box) (τ' : Own) (Cr : List Box) (w1 : World), EMid w0 β C w (D.K X) ab cb sb 0 0 false β τ' Cr w1 → EInv D 0 X τ' w1 (stOf β.ar p) := fun X τ' Cr w1 M => by
    rw [hD] at M ⊢
    exact ⟨Nat.zero_le _, β, Cr, 0, 0, p, Nat.le_refl _, Nat.le_refl _, M, by simpa using hL.e, hTurns, hp, rfl, fun i h1 h2 => absurd h2 (Nat.not_lt_zero _)⟩
  have F := each_fn D O
  have hc := each_own hs n hn (by show p.rows.length ≤ _; rw [show p.rows.length = p.rs.length from List.length_map _]; omega) 64 D.caps (Inv := EInv D) (Fin := EFin D) (by rw [hD] at F ⊢; exact F)
    (fun w1 hb => inv [] _ _ _ (M0.below hb)) (fun w1 g o hb hg ho => inv [(g, o)] _ _ _ (M0.box hb hg ho (fun x hx => by
      rw [hDK] at hx ⊢
      unfold eK at hx ⊢
      simp only [List.append_nil, List.mem_cons, List.mem_append, List.not_mem_nil, or_false] at hx ⊢
      rcases hx with h | h | h | h | h | h | h | h
      · exact .inl (.inl h)
      · exact .inl (.inr (.inl h))
      · exact .inl (.inr (.inr (.inl h)))
      · exact .inl (.inr (.inr (.inr (.inl h))))
      · exact .inl (.inr (.inr (.inr (.inr (.inl h)))))
      · exact .inl (.inr (.inr (.inr (.inr (.inr (.inl h))))))
      · exact .inl (.inr (.inr (.inr (.inr (.inr (.inr h))))))
      · exact .inr h)))
  have hcaps : D.caps = #[.pointer (some ⟨ab, 0, none⟩), .pointer (some ⟨nb, 0, none⟩), .pointer (some ⟨tb, 0, none⟩), .pointer (some ⟨hb, 0, none⟩), .pointer (some ⟨sb, 0, none⟩), .pointer (some ⟨kb, 0, none⟩), .pointer (some ⟨bb, 0, none⟩), .pointer (some ⟨cb, 0, none⟩), .pointer (some ⟨ob, 0, none⟩)] := by rw [hD]; rfl
  rw [hcaps] at hc
  refine hc.mono ?_
  rintro e w' ⟨rfl, τ', X, βr, Cr, an, cn, stop, p', h1, h2, M, L, hp', hrb, hd⟩
  have hDT : D.T.length = (ofK p.rows (.int .i64 n)).length := by rw [hD]; exact hTl
  rw [hDT] at h1 h2 hd
  rw [hDK] at M
  refine ⟨rfl, NB ++ X, βr, τ', Cr, an, cn, stop, p', h1, h2, fun x hx => List.mem_append.2 (.inl hx), ?_, ?_, ?_, ?_, ?_⟩
  · rw [hD] at M; exact M
  · rw [hD] at L; exact L
  · rw [hD] at hp'; exact hp'
  · rw [hD] at hrb; exact hrb
  · rcases hd with h | h
    · exact .inl h
    · refine .inr fun i hi1 hi2 => ?_
      obtain ⟨m, y, q1, q2, q3⟩ := h i hi1 hi2
      rw [hDn] at q1
      rw [hD] at q2
      exact ⟨m, y, q1, q2, q3⟩
end Go.Proofs.Ytgodidoibcomcaa.Bk

namespace Go.Proofs.Ytgodidoibcomcaa.Bk
open Go.RowKit Go.Proofs.Ytgodidoibcomcaa

set_option linter.unusedSimpArgs false in
set_option maxHeartbeats 16000000 in
set_option maxRecDepth 100000 in
theorem each_ten {w0 : World} {τ : Own} {w : World} {β : Book} {C : List Box} {U t v d : Nat} (E : Env w0 τ w (ents β.ar β.ps) [] C) (B : BookOk β C) (HP : ∀ p ∈ β.ps, PrOk p) (x : OpD) (hkind : x.kind = 10) (hx : OpIn (OpsE w0 d) w0 x v) (hL : Lim U β t) (hU : t + v ≤ U) (hU2 : U ≤ 1048576) :
    Calls Try.prog 30 #[.pointer (some ⟨β.bk, 0, none⟩), .agg x.cells] w (FlatEnd w0 β C U (t + v) w) := by
  obtain ⟨kind, on, ra, rc, l, n, place, id, ia, inn, ic, say⟩ := x
  obtain ⟨-, -, -, -, -, hrn, -, -, vi, hvi, hvl⟩ := hx
  simp only at hkind hrn hvi hvl
  subst hkind
  obtain ⟨us, hul, hus, hin⟩ : ∃ us : List Nat, us.length = inn ∧ us.sum + 1 ≤ vi ∧ (inn = 0 ∨ ∃ d b off, ia = some ⟨b, off, none⟩ ∧ ∀ (i v : Nat), us[i]? = some v → ∃ x : OpD, (∀ (j : Nat) y, x.cells[j]? = some y → w0.cell? ⟨b, off + i * 8 + j, none⟩ = some y) ∧ OpIn (OpsE w0 d) w0 x v) := by
    rcases hvi.at with h | ⟨d', b, off, h1, us, h2, h3, h4⟩
    · exact ⟨[], by rw [h]; rfl, by have := hvi.one; simpa using this, .inl h⟩
    · exact ⟨us, h2, h3, .inr ⟨d', b, off, h1, h4⟩⟩
  obtain ⟨L, hLl⟩ : ∃ L, l.length = L := ⟨_, rfl⟩
  obtain ⟨bk, hbk⟩ : ∃ b, β.bk = b := ⟨_, rfl⟩
  have htot : t + us.sum + 8 ≤ U := by omega
  have htv : ∀ c, t + (us.take c).sum + 8 ≤ t + v := fun c => by have := take_sum_le us c; omega
  have hps := hL.ps
  have hmany := B.many
  have hpos := B.pos
  obtain ⟨N, hN⟩ : ∃ N, β.ps.length = N := ⟨_, rfl⟩
  rw [hN] at hps hmany hpos
  obtain ⟨Wa, hWa⟩ : ∃ W, W = w.alloc (.cells #[.pointer (some ⟨bk, 0, none⟩)] 49) := ⟨_, rfl⟩
  obtain ⟨bb, hbb⟩ : ∃ b, b = w.heap.size := ⟨_, rfl⟩
  obtain ⟨Wb, hWb⟩ : ∃ W, W = Wa.alloc (.cells #[.int .i64 10, .int .i64 on, .slice ra L rc, .int .i64 n, .int .i64 place, .int .i64 id, .slice ia inn ic, .bool say] 54) := ⟨_, rfl⟩
  obtain ⟨ob, hob⟩ : ∃ b, b = Wa.heap.size := ⟨_, rfl⟩
  obtain ⟨oc, hoc⟩ : ∃ oc, oc = opCells 10 on (.slice ra L rc) n place id (.slice ia inn ic) say := ⟨_, rfl⟩
  have P2 : Pre w Wb [(ob, .cells oc 54 (0, 0)), (bb, .cells #[.pointer (some ⟨bk, 0, none⟩)] 49 (0, 0))] := by
    rw [hWb, hob, hoc]
    exact (show Pre w Wa [(bb, .cells #[.pointer (some ⟨bk, 0, none⟩)] 49 (0, 0))] by rw [hWa, hbb]; exact (Pre.start w).alloc _).alloc _
  have mob : (ob, Obj.cells oc 54 (0, 0)) ∈ [(ob, Obj.cells oc 54 (0, 0)), (bb, .cells #[.pointer (some ⟨bk, 0, none⟩)] 49 (0, 0))] := List.mem_cons_self ..
  have z : ∀ (j : Nat) y, oc[j]? = some y → Wb.cell? ⟨ob, j, none⟩ = some y := fun j y hy => (P2.cell mob hy).1
  rw [hoc] at z
  have z0 : Wb.cell? ⟨ob, 0, none⟩ = some (.int .i64 10) := z 0 _ rfl
  have z1 : Wb.cell? ⟨ob, 1, none⟩ = some (.int .i64 on) := z 1 _ rfl
  have z2 : Wb.cell? ⟨ob, 2, none⟩ = some (.slice ra L rc) := z 2 _ rfl
  have z3 : Wb.cell? ⟨ob, 3, none⟩ = some (.int .i64 n) := z 3 _ rfl
  have z4 : Wb.cell? ⟨ob, 4, none⟩ = some (.int .i64 place) := z 4 _ rfl
  have z5 : Wb.cell? ⟨ob, 5, none⟩ = some (.int .i64 id) := z 5 _ rfl
  have z6 : Wb.cell? ⟨ob, 6, none⟩ = some (.slice ia inn ic) := z 6 _ rfl
  have z7 : Wb.cell? ⟨ob, 7, none⟩ = some (.bool say) := z 7 _ rfl
  have zb : Wb.cell? ⟨bb, 0, none⟩ = some (.pointer (some ⟨bk, 0, none⟩)) := (P2.cell (List.mem_cons_of_mem _ (List.mem_cons_self ..)) (j := 0) rfl).1
  obtain ⟨gS0, cS0, gR0, cR0, -, -, hLd⟩ := B.leads (E.stay P2.below) (k := 0) (p := β.ps[0]'(by rw [hN]; exact hpos)) (List.getElem?_eq_getElem _)
  have s0 := hLd.s0
  rw [hN, hbk] at s0
  have cOn := Lib.hid (on_any s0 hpos hmany 10 on ra L rc n place id ia inn ic say)
  unfold opCells at cOn
  have HP2 := Lib.hid P2
  have HE := Lib.hid E
  have HB := Lib.hid B
  have HPP := Lib.hid HP
  have HLm := Lib.hid hL
  have HIn := Lib.hid hin
  have HN := Lib.hid hN
  have HWa := Lib.hid hWa
  have HWb := Lib.hid hWb
  have Hbb := Lib.hid hbb
  have Hob : Hid (ob = w.heap.size + 1) := Lib.hid (by rw [hob, hWa]; simp)
  have HOC := Lib.hid hoc
  have Hbk := Lib.hid hbk
  have Htv := Lib.hid htv
  have Hul := Lib.hid hul
  unfold OpD.cells opCells
  simp only
  rw [hLl, hbk]
  clear z hLd s0 P2 E B HP hL hin hN hWa hWb hbb hob hoc mob hbk hLl htv hul hvi hvl
  go_enter Try.func30, Try.ntmps30
  go_upto_region 1 with fail
  rw [← HWa.out, ← HWb.out, ← Hob.out, ← Hbb.out]
  go_upto_region 4 with (first | (go_at_call 50; (with_reducible refine cOn.out.mono ?_); rintro e W1 ⟨k, hk, rfl, hb1⟩))
  obtain ⟨p, hp⟩ : ∃ p, β.ps[k]? = some p := ⟨_, List.getElem?_eq_getElem (by rw [HN.out]; exact hk)⟩
  have mR : rfE β.ar k p ∈ ents β.ar β.ps := mem_ents.2 ⟨k, p, hp, .inr rfl⟩
  have P1 := HP2.out.later hb1
  obtain ⟨gS, cS, gR, cR, hvS, hvR, hLd⟩ := HB.out.leads (HE.out.stay P1.below) hp
  have r0 := hLd.r0
  have r1 := hLd.r1
  have s0 := hLd.s0
  have s1 := hLd.s1
  rw [HN.out, Hbk.out] at r0 s0
  have zb := on_cell hb1 zb
  have z3 := on_cell hb1 z3
  have Hp := Lib.hid hp
  have HmR := Lib.hid mR
  have HP1 := Lib.hid P1
  clear z0 z1 z2 z4 z5 z6 z7 cOn hLd P1 hp mR hvS hvR hb1
  go_upto_region 5 with fail
  obtain ⟨W2, hW2⟩ : ∃ W, W = W1.alloc (.cells #[.pointer (some ⟨p.rb, 0, none⟩)] 89) := ⟨_, rfl⟩
  obtain ⟨tb, htb⟩ : ∃ b, b = W1.heap.size := ⟨_, rfl⟩
  have P3 : Pre w W2 [(tb, .cells #[.pointer (some ⟨p.rb, 0, none⟩)] 89 (0, 0)), (ob, .cells oc 54 (0, 0)), (bb, .cells #[.pointer (some ⟨bk, 0, none⟩)] 49 (0, 0))] := by rw [hW2, htb]; exact HP1.out.alloc _
  have hb12 : Below W1.heap.size W1 W2 := by rw [hW2]; exact (Below.refl _ _).alloc (Nat.le_refl _) _
  have zt : W2.cell? ⟨tb, 0, none⟩ = some (.pointer (some ⟨p.rb, 0, none⟩)) := (P3.cell (List.mem_cons_self ..) (j := 0) rfl).1
  have zb := on_cell hb12 zb
  have z3 := on_cell hb12 z3
  have r0 := on_cell hb12 r0
  have s0 := on_cell hb12 s0
  have s1 := on_cell hb12 s1
  have cOf := Lib.hid (env_of_rf (HE.out.stay P3.below) HmR.out n)
  have HP3 := Lib.hid P3
  rw [← hW2, ← htb]
  clear hW2 htb hb12 P3 r1
  go_upto_region 6 with (first | (go_at_call 57; (with_reducible refine cOf.out.mono ?_); rintro e V3 ⟨vn, rfl, hO3, hb3⟩; obtain ⟨na, nc, rfl⟩ := owns_shape hO3))
  obtain ⟨nums, hnums⟩ : ∃ l, l = ofK p.rows (.int .i64 n) := ⟨_, rfl⟩
  rw [← hnums] at hO3 ⊢
  obtain ⟨nl, hnl⟩ : ∃ m, m = nums.length := ⟨_, rfl⟩
  rw [← hnl] at hO3 ⊢
  obtain ⟨NL, P4, hNL⟩ := HP3.out.list hb3 hO3 (Nat.le_refl _)
  obtain ⟨W3, hW3⟩ : ∃ W, W = V3.alloc (.cells #[.slice na nl nc] 22) := ⟨_, rfl⟩
  obtain ⟨nb, hnb⟩ : ∃ b, b = V3.heap.size := ⟨_, rfl⟩
  obtain ⟨Bs, hBs⟩ : ∃ l, l = (nb, Obj.cells #[.slice na nl nc] 22 (0, 0)) :: (NL ++ [(tb, .cells #[.pointer (some ⟨p.rb, 0, none⟩)] 89 (0, 0)), (ob, .cells oc 54 (0, 0)), (bb, .cells #[.pointer (some ⟨bk, 0, none⟩)] 49 (0, 0))]) := ⟨_, rfl⟩
  have P5 : Pre w W3 Bs := by rw [hBs, hW3, hnb]; exact P4.alloc _
  have hb23 : Below W2.heap.size W2 W3 := by rw [hW3]; exact hb3.trans (((Below.refl _ _).alloc (Nat.le_refl _) _).mono hb3.size)
  have zn : W3.cell? ⟨nb, 0, none⟩ = some (.slice na nl nc) := (P5.cell (by rw [hBs]; exact List.mem_cons_self ..) (j := 0) rfl).1
  have zt := on_cell hb23 zt
  have zb := on_cell hb23 zb
  have z3 := on_cell hb23 z3
  have r0 := on_cell hb23 r0
  have s0 := on_cell hb23 s0
  have s1 := on_cell hb23 s1
  have HP5 := Lib.hid P5
  have HNL : Hid (BoxRow Bs 3 1 (.slice na nl nc) nl (nums.map (Value.int .i64))) := Lib.hid (hNL.mono fun x hx _ => by rw [hBs]; exact List.mem_cons_of_mem _ (List.mem_append.2 (.inl hx)))
  have HNL0 := Lib.hid hNL
  have HNums := Lib.hid hnums
  have HNl := Lib.hid hnl
  have HBs := Lib.hid hBs
  rw [← hW3, ← hnb]
  clear hW3 hnb hb23 P5 P4 hNL hO3 hb3 cOf hnums hnl hBs
  obtain ⟨bl, hbl⟩ : ∃ l, l = bornOf p n := ⟨_, rfl⟩
  have hq := HPP.out p (List.mem_of_getElem? Hp.out)
  have hlp := HLm.out.rs p (List.mem_of_getElem? Hp.out)
  have hnl6 : nl ≤ 1048576 := by
    have := of_len p.rows n
    rw [show p.rows.length = p.rs.length from List.length_map _] at this
    rw [HNl.out, HNums.out]
    omega
  have hbll : bl.length = nl := by rw [hbl, HNl.out, HNums.out]; unfold bornOf; rw [List.length_map]
  have HAt : Hid (∀ j, j < nl → ∃ (m : Nat) (y : Int), nums[j]? = some (m : Int) ∧ bl[j]? = some y ∧ p.born[m]? = some y) := Lib.hid (fun j hj => by
    rw [HNl.out, HNums.out] at hj
    obtain ⟨m, y, r, q1, q2, q3, -⟩ := bornOf_at hq hj
    rw [HNums.out, hbl]
    exact ⟨m, y, q1, q2, q3⟩)
  have Hbll := Lib.hid hbll
  have Hbl := Lib.hid hbl
  clear hbll hbl hq hlp
  go_upto_region 7 with fail
  obtain ⟨hb, hhb⟩ : ∃ b, b = W3.heap.size := ⟨_, rfl⟩
  obtain ⟨W4, hW4⟩ : ∃ W, W = W3.alloc (.cells #[.slice none 0 0] 22) := ⟨_, rfl⟩
  have hv4 : W4.heap[hb]? = some (.cells #[.slice none 0 0] 22 (0, 0)) := by rw [hW4, hhb]; exact (MapKept.heap_alloc _ _).1
  have hb34 : Below W3.heap.size W3 W4 := by rw [hW4]; exact (Below.refl _ _).alloc (Nat.le_refl _) _
  rw [← hW4, ← hhb]
  have Hhb := Lib.hid hhb
  clear hW4 hhb
  go_wp2_with fail
  go_loopw [9] (fun i wr => ∃ (j : Nat) (vh : Value), j ≤ nl ∧ i = .int .i64 j ∧ Below W3.heap.size W3 wr ∧ wr.heap[hb]? = some (.cells #[vh] 22 (0, 0)) ∧ wr.ownsRow (hb + 1) 3 1 vh j ((bl.take j).map (Value.int .i64))) (fun i _ => nl - (intOf i).toNat)
  case atStart => exact ⟨0, .slice none 0 0, Nat.zero_le _, rfl, hb34, hv4, World.ownsRow_nil _ _ _ _⟩
  case round =>
    clear hv4 hb34
    obtain ⟨j, vh, hj, rfl, hbelW, hvh, hownw⟩ := hrel
    have s2 := on_cell hbelW zn
    by_cases hlt : j < nl
    · obtain ⟨m, y, hm, hy, hby⟩ := HAt.out j hlt
      have Pw := HP5.out.later hbelW
      obtain ⟨gB, oB, cB, s1', s4⟩ := (HE.out.stay Pw.below).refBorn HmR.out hby
      obtain ⟨gN, rfl, s3⟩ := Pw.elem HNL.out hm
      have s0' := s0
      have hml : m < p.rows.length := by
        have h1 := (List.getElem?_eq_some_iff.1 hby).1
        have h2 := (HPP.out p (List.mem_of_getElem? Hp.out)).len
        rw [show p.rows.length = p.rs.length from List.length_map _]
        omega
      have HY := Lib.hid hy
      have kk : ∀ {a : Addr} {u : Value}, W3.cell? a = some u → a.block < hb := fun {a u} h => by rw [Hhb.out]; exact World.block_lt_of_cell? _ _ h
      have q0 := kk zt
      have q2 := kk zn
      obtain ⟨gN', e', s3'⟩ := HP5.out.elem HNL.out hm
      cases e'
      have q3 := kk s3'
      obtain ⟨gB', oB', cB', s1'', s4'⟩ := (HE.out.stay HP5.out.below).refBorn HmR.out hby
      have s1e := on_cell hbelW s1''
      rw [s1'] at s1e
      simp only [Option.some.injEq, Value.slice.injEq, Addr.mk.injEq] at s1e
      obtain ⟨⟨rfl, rfl, -⟩, -, rfl⟩ := s1e
      have q4 := kk s4'
      have q1 := kk s1''
      simp only at q0 q1 q2 q3 q4
      have k0 : tb < hb + 1 := by omega
      have k1 : p.rb < hb + 1 := by omega
      have k2 : nb < hb + 1 := by omega
      have k3 : gN < hb + 1 := by omega
      have k4 : gB < hb + 1 := by omega
      have f0 : tb ≠ hb := by omega
      have f1 : p.rb ≠ hb := by omega
      have f2 : nb ≠ hb := by omega
      have f3 : gN ≠ hb := by omega
      have f4 : gB ≠ hb := by omega
      have zt' := on_cell hbelW zt
      clear s1'' s4' s3' kk Pw hm hy hby zt zb z3 r0 s0 s1 zn s0'
      have s1 := s1'
      have s0 := zt'
      clear s1' zt'
      go_upto_region 10 with fail
      obtain ⟨V0, hV0⟩ : ∃ V, V = wr.drew := ⟨_, rfl⟩
      have HV0 : Hid (Below hb wr V0) := Lib.hid (by rw [hV0]; exact (Below.refl _ _).drew)
      have hv0 : V0.heap[hb]? = some (.cells #[vh] 22 (0, 0)) := by rw [hV0]; exact hvh
      have hown : V0.ownsRow (hb + 1) 3 1 vh j ((bl.take j).map (Value.int .i64)) := by rw [hV0]; exact hownw
      have t0 : V0.cell? ⟨tb, 0, none⟩ = some (.pointer (some ⟨p.rb, 0, none⟩)) := by rw [hV0]; exact s0
      have t1 : V0.cell? ⟨p.rb, 2, none⟩ = some (.slice (some ⟨gB, oB, none⟩) p.rows.length cB) := by rw [hV0]; exact s1
      have t2 : V0.cell? ⟨nb, 0, none⟩ = some (.slice (some ⟨gN, 0, none⟩) nl nc) := by rw [hV0]; exact s2
      have t3 : V0.cell? ⟨gN, j, none⟩ = some (.int .i64 (m : Int)) := by rw [hV0]; exact s3
      have t4 : V0.cell? ⟨gB, oB + m, none⟩ = some (.int .i64 y) := by rw [hV0]; exact s4
      have h8 : V0.cell? ⟨hb, 0, none⟩ = some vh := by simp [World.cell?, hv0]
      have hz0 : hb < V0.heap.size := (Array.getElem?_eq_some_iff.1 hv0).1
      clear s0 s1 s2 s3 s4 hvh hownw
      refine wp_region_noPanic ?_
      refine wp_region_held_drew (S := (fun w' => w'.cell? ⟨tb, 0, none⟩ = some (.pointer (some ⟨p.rb, 0, none⟩)) ∧ w'.cell? ⟨p.rb, 2, none⟩ = some (.slice (some ⟨gB, oB, none⟩) p.rows.length cB) ∧ w'.cell? ⟨nb, 0, none⟩ = some (.slice (some ⟨gN, 0, none⟩) nl nc) ∧ w'.cell? ⟨gN, j, none⟩ = some (.int .i64 (m : Int)) ∧ w'.cell? ⟨gB, oB + m, none⟩ = some (.int .i64 y))) (by kernel_rfl) ?_ (fun hHeld => ?_)
      · rw [← hV0]; exact ⟨t0, t1, t2, t3, t4⟩
      rw [← hV0] at hHeld ⊢
      clear hV0
      refine wpAnyH_take (i := 1) (oi := ⟨some 41, _, _, _, _, _⟩) (v := ?_) rfl (by kernel_rfl) (by kernel_rfl) (by kernel_rfl) (fun _ _ _ h => h) (Or.inl ⟨by rfl, ?_⟩) (by assumption) ?_
      rotate_left 1
      · intro w hSw
        (try dsimp only at hSw)
        go_simp
        all_goals with_reducible rfl
      (try simp only [Act.put, List.setIfInBounds_toArray, List.set_cons_zero, List.set_cons_succ])
      refine wpAnyH_take (i := 2) (oi := ⟨some 42, _, _, _, _, _⟩) (v := ?_) rfl (by kernel_rfl) (by kernel_rfl) (by kernel_rfl) (fun _ _ _ h => h) (Or.inl ⟨by rfl, ?_⟩) (by assumption) ?_
      rotate_left 1
      · intro w hSw
        (try dsimp only at hSw)
        go_simp
        all_goals with_reducible rfl
      (try simp only [Act.put, List.setIfInBounds_toArray, List.set_cons_zero, List.set_cons_succ])
      refine wpAnyH_take (i := 3) (oi := ⟨some 43, _, _, _, _, _⟩) (v := ?_) rfl (by kernel_rfl) (by kernel_rfl) (by kernel_rfl) (fun _ _ _ h => h) (Or.inl ⟨by rfl, ?_⟩) (by assumption) ?_
      rotate_left 1
      · intro w hSw
        (try dsimp only at hSw)
        go_simp
        all_goals with_reducible rfl
      (try simp only [Act.put, List.setIfInBounds_toArray, List.set_cons_zero, List.set_cons_succ])
      refine wpAnyH_take (i := 4) (oi := ⟨some 44, _, _, _, _, _⟩) (v := ?_) rfl (by kernel_rfl) (by kernel_rfl) (by kernel_rfl) (fun _ _ _ h => h) (Or.inl ⟨by rfl, ?_⟩) (by assumption) ?_
      rotate_left 1
      · intro w hSw
        (try dsimp only at hSw)
        go_simp
        all_goals with_reducible rfl
      (try simp only [Act.put, List.setIfInBounds_toArray, List.set_cons_zero, List.set_cons_succ])
      refine wpAnyH_take (i := 5) (oi := ⟨some 45, _, _, _, _, _⟩) (v := ?_) rfl (by kernel_rfl) (by kernel_rfl) (by kernel_rfl) (fun _ _ _ h => h) (Or.inl ⟨by rfl, ?_⟩) (by assumption) ?_
      rotate_left 1
      · intro w hSw
        (try dsimp only at hSw)
        go_simp
        all_goals with_reducible rfl
      (try simp only [Act.put, List.setIfInBounds_toArray, List.set_cons_zero, List.set_cons_succ])
      refine wpAnyH_take (i := 6) (oi := ⟨some 46, _, _, _, _, _⟩) (v := ?_) rfl (by kernel_rfl) (by kernel_rfl) (by kernel_rfl) (fun _ _ _ h => h) (Or.inl ⟨by rfl, ?_⟩) (by assumption) ?_
      rotate_left 1
      · intro w hSw
        (try dsimp only at hSw)
        go_simp
        all_goals with_reducible rfl
      (try simp only [Act.put, List.setIfInBounds_toArray, List.set_cons_zero, List.set_cons_succ])
      refine wpAnyH_take (i := 7) (oi := ⟨some 47, _, _, _, _, _⟩) (v := ?_) rfl (by kernel_rfl) (by kernel_rfl) (by kernel_rfl) (fun _ _ _ h => h) (Or.inl ⟨by rfl, ?_⟩) (by assumption) ?_
      rotate_left 1
      · intro w hSw
        (try dsimp only at hSw)
        go_simp
        all_goals with_reducible rfl
      (try simp only [Act.put, List.setIfInBounds_toArray, List.set_cons_zero, List.set_cons_succ])
      refine wpAnyH_take (i := 8) (oi := ⟨some 48, _, _, _, _, _⟩) (v := ?_) rfl (by kernel_rfl) (by kernel_rfl) (by kernel_rfl) (fun _ _ _ h => h) (Or.inl ⟨by rfl, ?_⟩) (by assumption) ?_
      rotate_left 1
      · intro w hSw
        (try dsimp only at hSw)
        go_simp
        all_goals with_reducible rfl
      (try simp only [Act.put, List.setIfInBounds_toArray, List.set_cons_zero, List.set_cons_succ])
      refine wpAnyH_take (i := 9) (oi := ⟨some 49, _, _, _, _, _⟩) (v := ?_) rfl (by kernel_rfl) (by kernel_rfl) (by kernel_rfl) (fun _ _ _ h => h) (Or.inl ⟨by rfl, ?_⟩) (by assumption) ?_
      rotate_left 1
      · intro w hSw
        (try dsimp only at hSw)
        go_simp
        all_goals with_reducible rfl
      (try simp only [Act.put, List.setIfInBounds_toArray, List.set_cons_zero, List.set_cons_succ])
      refine wpAnyH_take (i := 10) (oi := ⟨some 50, _, _, _, _, _⟩) (v := ?_) rfl (by kernel_rfl) (by kernel_rfl) (by kernel_rfl) (fun _ _ _ h => h) (Or.inl ⟨by rfl, ?_⟩) (by assumption) ?_
      rotate_left 1
      · intro w hSw
        (try dsimp only at hSw)
        go_simp
        all_goals with_reducible rfl
      (try simp only [Act.put, List.setIfInBounds_toArray, List.set_cons_zero, List.set_cons_succ])
      refine wpAnyH_ready (rs := [0, 11]) (by kernel_rfl) (by simp) ?_
      refine AllReadyH.cons (o := _) rfl (fun K hK => ?_) ?_
      · go_simp
        refine hK.out _ _ ?_ (fun hHeld => ?_)
        · exact ⟨t0, t1, t2, t3, t4⟩
        clear hK K
        (try simp only [Act.put, List.setIfInBounds_toArray, List.set_cons_zero, List.set_cons_succ])
        refine wpAnyH_ready (rs := [11]) (by kernel_rfl) (by simp) ?_
        refine AllReadyH.cons (o := _) rfl (fun K hK => ?_) ?_
        · go_simp
          obtain ⟨V2, hV2⟩ : ∃ W, W = V0.alloc (.cells #[.int .i64 y] 3) := ⟨_, rfl⟩
          obtain ⟨q2, hq2⟩ : ∃ b, b = V0.heap.size := ⟨_, rfl⟩
          rw [← hV2, ← hq2]
          have hb2 : Below V0.heap.size V0 V2 := by rw [hV2]; exact (Below.refl V0.heap.size V0).alloc (Below.refl V0.heap.size V0).size _
          have src2 : Source V2 (some ⟨q2, 0, none⟩) 1 1 [.int .i64 y] := by rw [hV2, hq2]; exact source_new V0 [.int .i64 y] 3
          have hx2 := on_cell hb2 h8
          clear hV2 hq2
          refine hK.out _ _ ?_ (fun hHeld => ?_)
          · exact ⟨on_cell hb2 t0, on_cell hb2 t1, on_cell hb2 t2, on_cell hb2 t3, on_cell hb2 t4⟩
          clear hK K
          (try simp only [Act.put, List.setIfInBounds_toArray, List.set_cons_zero, List.set_cons_succ])
          refine wpAnyH_ready (rs := [12]) (by kernel_rfl) (by simp) ?_
          refine AllReadyH.cons (o := _) rfl (fun K hK => ?_) ?_
          · have ho3 := owns_below hown hb2 (Nat.le_refl _)
            have hz3 := hb2.size
            refine step_append_any elemInt _ rfl _ _ rfl (hb + 1) _ j ((bl.take j).map (Value.int .i64)) rfl ho3 (some ⟨q2, 0, none⟩) 1 1 [.int .i64 y] rfl src2 rfl (by simp [Value.oneCell']) (by unfold maxLen; omega) (by omega) (by omega) ?_
            intro v3 V3 hown3 hgrow3 _
            have hg3 : Below (hb + 1) V0 V3 := (hb2.mono (by omega)).trans (grown_below hgrow3 (fun g e => (ho3.lt g e).1) (by omega))
            have hf3 : V3.heap[hb]? = some (.cells #[vh] 22 (0, 0)) := (hg3.block hb (Nat.lt_succ_self _)).trans hv0
            have hk3 : V3.cell? ⟨hb, 0, none⟩ = some vh := by simp [World.cell?, hf3]
            have hr3 : V3.frozen? ⟨hb, 0, none⟩ = false := by simp [World.frozen?, hf3]
            have hs3 : V3.cell? ⟨tb, 0, none⟩ = some (.pointer (some ⟨p.rb, 0, none⟩)) ∧ V3.cell? ⟨p.rb, 2, none⟩ = some (.slice (some ⟨gB, oB, none⟩) p.rows.length cB) ∧ V3.cell? ⟨nb, 0, none⟩ = some (.slice (some ⟨gN, 0, none⟩) nl nc) ∧ V3.cell? ⟨gN, j, none⟩ = some (.int .i64 (m : Int)) ∧ V3.cell? ⟨gB, oB + m, none⟩ = some (.int .i64 y) := ⟨hg3.cell k0 |>.trans t0, hg3.cell k1 |>.trans t1, hg3.cell k2 |>.trans t2, hg3.cell k3 |>.trans t3, hg3.cell k4 |>.trans t4⟩
            obtain ⟨x3, y3, rfl⟩ := owns_shape hown3
            refine hK.out _ _ ?_ (fun hHeld => ?_)
            · exact hs3
            clear hK K
            (try simp only [Act.put, List.setIfInBounds_toArray, List.set_cons_zero, List.set_cons_succ])
            refine wpAnyH_ready (rs := [13]) (by kernel_rfl) (by simp) ?_
            refine AllReadyH.cons (o := _) rfl (fun K hK => ?_) ?_
            · go_simp
              refine hK.out _ _ ?_ (fun hHeld => ?_)
              · exact ⟨(World.cell?_setCell_far _ _ _ _ (Ne.symm f0)).trans hs3.1, (World.cell?_setCell_far _ _ _ _ (Ne.symm f1)).trans hs3.2.1, (World.cell?_setCell_far _ _ _ _ (Ne.symm f2)).trans hs3.2.2.1, (World.cell?_setCell_far _ _ _ _ (Ne.symm f3)).trans hs3.2.2.2.1, (World.cell?_setCell_far _ _ _ _ (Ne.symm f4)).trans hs3.2.2.2.2⟩
              clear hK K
              (try simp only [Act.put, List.setIfInBounds_toArray, List.set_cons_zero, List.set_cons_succ])
              refine wpAnyH_done (by kernel_rfl) ?_ _
              refine NoPanic.normal ?_
              have hfin : ∃ vh', (V3.setCell ⟨hb, 0, none⟩ (.slice x3 (j + 1) y3)).heap[hb]? = some (.cells #[vh'] 22 (0, 0)) ∧ (V3.setCell ⟨hb, 0, none⟩ (.slice x3 (j + 1) y3)).ownsRow (hb + 1) 3 1 vh' (j + 1) ((bl.take (j + 1)).map (Value.int .i64)) ∧ Below hb V0 (V3.setCell ⟨hb, 0, none⟩ (.slice x3 (j + 1) y3)) := by
                refine ⟨(.slice x3 (j + 1) y3), heap_setCell hf3 (j := 0) (.slice x3 (j + 1) y3), ?_, (hg3.mono (Nat.le_succ _)).setCell (Nat.le_refl _) _⟩
                rw [take_snoc' HY.out, List.map_append]
                exact owns_block hown3 (fun g e => Below.heap_setCell _ _ _ _ (fun e' => by have h1 := (hown3.lt g e).1; have e' : g = hb := e'; omega))
              obtain ⟨vh', hv', hown', hbel'⟩ := hfin
              have HF := Lib.hid (⟨hv', hown', hbel'⟩ : _ ∧ _ ∧ _)
              clear hv' hown' hbel'
              go_wp2_with fail
              go_roundw
              case rel => exact ⟨j + 1, vh', by omega, by go_num, (hbelW.trans (by rw [← Hhb.out]; exact HV0.out.trans HF.out.2.2)), HF.out.1, HF.out.2.1⟩
              case measure => simp [intOf]; omega
            exact AllReadyH.nil
          exact AllReadyH.nil
        exact AllReadyH.nil
      refine AllReadyH.cons (o := _) rfl (fun K hK => ?_) ?_
      · go_simp
        obtain ⟨V5, hV5⟩ : ∃ W, W = V0.alloc (.cells #[.int .i64 y] 3) := ⟨_, rfl⟩
        obtain ⟨q5, hq5⟩ : ∃ b, b = V0.heap.size := ⟨_, rfl⟩
        rw [← hV5, ← hq5]
        have hb5 : Below V0.heap.size V0 V5 := by rw [hV5]; exact (Below.refl V0.heap.size V0).alloc (Below.refl V0.heap.size V0).size _
        have src5 : Source V5 (some ⟨q5, 0, none⟩) 1 1 [.int .i64 y] := by rw [hV5, hq5]; exact source_new V0 [.int .i64 y] 3
        have hx5 := on_cell hb5 h8
        clear hV5 hq5
        refine hK.out _ _ ?_ (fun hHeld => ?_)
        · exact ⟨on_cell hb5 t0, on_cell hb5 t1, on_cell hb5 t2, on_cell hb5 t3, on_cell hb5 t4⟩
        clear hK K
        (try simp only [Act.put, List.setIfInBounds_toArray, List.set_cons_zero, List.set_cons_succ])
        refine wpAnyH_ready (rs := [0]) (by kernel_rfl) (by simp) ?_
        refine AllReadyH.cons (o := _) rfl (fun K hK => ?_) ?_
        · go_simp
          refine hK.out _ _ ?_ (fun hHeld => ?_)
          · exact ⟨on_cell hb5 t0, on_cell hb5 t1, on_cell hb5 t2, on_cell hb5 t3, on_cell hb5 t4⟩
          clear hK K
          (try simp only [Act.put, List.setIfInBounds_toArray, List.set_cons_zero, List.set_cons_succ])
          refine wpAnyH_ready (rs := [12]) (by kernel_rfl) (by simp) ?_
          refine AllReadyH.cons (o := _) rfl (fun K hK => ?_) ?_
          · have ho7 := owns_below hown hb5 (Nat.le_refl _)
            have hz7 := hb5.size
            refine step_append_any elemInt _ rfl _ _ rfl (hb + 1) _ j ((bl.take j).map (Value.int .i64)) rfl ho7 (some ⟨q5, 0, none⟩) 1 1 [.int .i64 y] rfl src5 rfl (by simp [Value.oneCell']) (by unfold maxLen; omega) (by omega) (by omega) ?_
            intro v7 V7 hown7 hgrow7 _
            have hg7 : Below (hb + 1) V0 V7 := (hb5.mono (by omega)).trans (grown_below hgrow7 (fun g e => (ho7.lt g e).1) (by omega))
            have hf7 : V7.heap[hb]? = some (.cells #[vh] 22 (0, 0)) := (hg7.block hb (Nat.lt_succ_self _)).trans hv0
            have hk7 : V7.cell? ⟨hb, 0, none⟩ = some vh := by simp [World.cell?, hf7]
            have hr7 : V7.frozen? ⟨hb, 0, none⟩ = false := by simp [World.frozen?, hf7]
            have hs7 : V7.cell? ⟨tb, 0, none⟩ = some (.pointer (some ⟨p.rb, 0, none⟩)) ∧ V7.cell? ⟨p.rb, 2, none⟩ = some (.slice (some ⟨gB, oB, none⟩) p.rows.length cB) ∧ V7.cell? ⟨nb, 0, none⟩ = some (.slice (some ⟨gN, 0, none⟩) nl nc) ∧ V7.cell? ⟨gN, j, none⟩ = some (.int .i64 (m : Int)) ∧ V7.cell? ⟨gB, oB + m, none⟩ = some (.int .i64 y) := ⟨hg7.cell k0 |>.trans t0, hg7.cell k1 |>.trans t1, hg7.cell k2 |>.trans t2, hg7.cell k3 |>.trans t3, hg7.cell k4 |>.trans t4⟩
            obtain ⟨x7, y7, rfl⟩ := owns_shape hown7
            refine hK.out _ _ ?_ (fun hHeld => ?_)
            · exact hs7
            clear hK K
            (try simp only [Act.put, List.setIfInBounds_toArray, List.set_cons_zero, List.set_cons_succ])
            refine wpAnyH_ready (rs := [13]) (by kernel_rfl) (by simp) ?_
            refine AllReadyH.cons (o := _) rfl (fun K hK => ?_) ?_
            · go_simp
              refine hK.out _ _ ?_ (fun hHeld => ?_)
              · exact ⟨(World.cell?_setCell_far _ _ _ _ (Ne.symm f0)).trans hs7.1, (World.cell?_setCell_far _ _ _ _ (Ne.symm f1)).trans hs7.2.1, (World.cell?_setCell_far _ _ _ _ (Ne.symm f2)).trans hs7.2.2.1, (World.cell?_setCell_far _ _ _ _ (Ne.symm f3)).trans hs7.2.2.2.1, (World.cell?_setCell_far _ _ _ _ (Ne.symm f4)).trans hs7.2.2.2.2⟩
              clear hK K
              (try simp only [Act.put, List.setIfInBounds_toArray, List.set_cons_zero, List.set_cons_succ])
              refine wpAnyH_done (by kernel_rfl) ?_ _
              refine NoPanic.normal ?_
              have hfin : ∃ vh', (V7.setCell ⟨hb, 0, none⟩ (.slice x7 (j + 1) y7)).heap[hb]? = some (.cells #[vh'] 22 (0, 0)) ∧ (V7.setCell ⟨hb, 0, none⟩ (.slice x7 (j + 1) y7)).ownsRow (hb + 1) 3 1 vh' (j + 1) ((bl.take (j + 1)).map (Value.int .i64)) ∧ Below hb V0 (V7.setCell ⟨hb, 0, none⟩ (.slice x7 (j + 1) y7)) := by
                refine ⟨(.slice x7 (j + 1) y7), heap_setCell hf7 (j := 0) (.slice x7 (j + 1) y7), ?_, (hg7.mono (Nat.le_succ _)).setCell (Nat.le_refl _) _⟩
                rw [take_snoc' HY.out, List.map_append]
                exact owns_block hown7 (fun g e => Below.heap_setCell _ _ _ _ (fun e' => by have h1 := (hown7.lt g e).1; have e' : g = hb := e'; omega))
              obtain ⟨vh', hv', hown', hbel'⟩ := hfin
              have HF := Lib.hid (⟨hv', hown', hbel'⟩ : _ ∧ _ ∧ _)
              clear hv' hown' hbel'
              go_wp2_with fail
              go_roundw
              case rel => exact ⟨j + 1, vh', by omega, by go_num, (hbelW.trans (by rw [← Hhb.out]; exact HV0.out.trans HF.out.2.2)), HF.out.1, HF.out.2.1⟩
              case measure => simp [intOf]; omega
            exact AllReadyH.nil
          exact AllReadyH.nil
        exact AllReadyH.nil
      exact AllReadyH.nil
    · have hje : nl = j := by omega
      subst hje
      rw [List.take_of_length_le (by rw [Hbll.out]; exact Nat.le_refl _)] at hownw
      obtain ⟨w5, hw5⟩ : ∃ x, x = wr := ⟨_, rfl⟩
      subst hw5
      obtain ⟨ha, hc, rfl⟩ := owns_shape hownw
      obtain ⟨BL, P6, hBL⟩ := HP5.out.two hbelW (Nat.le_of_eq Hhb.out.symm) hvh hownw
      have zt := on_cell hbelW zt
      have zb := on_cell hbelW zb
      have z3 := on_cell hbelW z3
      have s0 := on_cell hbelW s0
      have s1 := on_cell hbelW s1
      have HP6 := Lib.hid P6
      have HBL := Lib.hid hBL
      have zh : w5.cell? ⟨hb, 0, none⟩ = some (.slice ha nl hc) := by simp [World.cell?, hvh]
      clear P6 hBL hvh hownw hbelW hj hlt r0 zn zt zh
      go_upto_region 12 with fail
      obtain ⟨kb, hkb⟩ : ∃ b, b = w5.heap.size := ⟨_, rfl⟩
      obtain ⟨W6, hW6⟩ : ∃ W, W = w5.alloc (.cells #[.bool true] 4) := ⟨_, rfl⟩
      have hbW6 : Below w5.heap.size w5 W6 := by rw [hW6]; exact (Below.refl _ _).alloc (Nat.le_refl _) _
      have HP7 : Hid (Pre w W6 ((kb, Obj.cells #[.bool true] 4 (0, 0)) :: _)) := Lib.hid (by rw [hW6, hkb]; exact HP6.out.alloc _)
      have zb := on_cell hbW6 zb
      have z3 := on_cell hbW6 z3
      have s0 := on_cell hbW6 s0
      have s1 := on_cell hbW6 s1
      rw [← hW6, ← hkb]
      have Hkb := Lib.hid hkb
      clear hW6 hkb hbW6
      go_upto_region 13 with fail
      obtain ⟨cb, hcb⟩ : ∃ b, b = W6.heap.size := ⟨_, rfl⟩
      obtain ⟨W7, hW7⟩ : ∃ W, W = W6.alloc (.cells #[.int .i64 0] 3) := ⟨_, rfl⟩
      have hbW7 : Below W6.heap.size W6 W7 := by rw [hW7]; exact (Below.refl _ _).alloc (Nat.le_refl _) _
      have HP8 : Hid (Pre w W7 ((cb, Obj.cells #[.int .i64 0] 3 (0, 0)) :: _)) := Lib.hid (by rw [hW7, hcb]; exact HP7.out.alloc _)
      have zb := on_cell hbW7 zb
      have z3 := on_cell hbW7 z3
      have s0 := on_cell hbW7 s0
      have s1 := on_cell hbW7 s1
      rw [← hW7, ← hcb]
      have Hcb := Lib.hid hcb
      clear hW7 hcb hbW7
      go_upto_region 14 with fail
      obtain ⟨ab, hab⟩ : ∃ b, b = W7.heap.size := ⟨_, rfl⟩
      obtain ⟨W8, hW8⟩ : ∃ W, W = W7.alloc (.cells #[.int .i64 0] 3) := ⟨_, rfl⟩
      have hbW8 : Below W7.heap.size W7 W8 := by rw [hW8]; exact (Below.refl _ _).alloc (Nat.le_refl _) _
      have HP9 : Hid (Pre w W8 ((ab, Obj.cells #[.int .i64 0] 3 (0, 0)) :: _)) := Lib.hid (by rw [hW8, hab]; exact HP8.out.alloc _)
      have zb := on_cell hbW8 zb
      have z3 := on_cell hbW8 z3
      have s0 := on_cell hbW8 s0
      have s1 := on_cell hbW8 s1
      rw [← hW8, ← hab]
      have Hab := Lib.hid hab
      clear hW8 hab hbW8
      go_upto_region 15 with fail
      obtain ⟨sb, hsb⟩ : ∃ b, b = W8.heap.size := ⟨_, rfl⟩
      obtain ⟨W9, hW9⟩ : ∃ W, W = W8.alloc (.cells #[.bool false] 4) := ⟨_, rfl⟩
      have hbW9 : Below W8.heap.size W8 W9 := by rw [hW9]; exact (Below.refl _ _).alloc (Nat.le_refl _) _
      have HP10 : Hid (Pre w W9 ((sb, Obj.cells #[.bool false] 4 (0, 0)) :: _)) := Lib.hid (by rw [hW9, hsb]; exact HP9.out.alloc _)
      have zb := on_cell hbW9 zb
      have z3 := on_cell hbW9 z3
      have s0 := on_cell hbW9 s0
      have s1 := on_cell hbW9 s1
      rw [← hW9, ← hsb]
      have Hsb := Lib.hid hsb
      clear hW9 hsb hbW9
      have hsz7 : W6.heap.size = cb ∧ cb < ab ∧ ab < sb := by
        have h1 := Hcb.out
        have h2 := Hab.out
        have h3 := Hsb.out
        have h4 := HP9.out.lt (List.mem_cons_self ..)
        have h5 := HP8.out.lt (List.mem_cons_self ..)
        simp only at h4 h5
        exact ⟨h1.symm, by omega, by omega⟩
      have hKc : ∀ x ∈ eK bb ob tb nb hb kb bk p.rb oc na ha nl nc hc (BL ++ NL), x ∈ (kb, Obj.cells #[.bool true] 4 (0, 0)) :: (BL ++ (hb, Obj.cells #[.slice ha nl hc] 22 (0, 0)) :: Bs) := fun x hx => by
        rw [HBs.out]
        unfold eK at hx
        simp only [List.mem_cons, List.mem_append, List.not_mem_nil, or_false] at hx ⊢
        rcases hx with h | h | h | h | h | h | h | h
        · exact .inr (.inr (.inr (.inr (.inr (.inr (.inr h))))))
        · exact .inr (.inr (.inr (.inr (.inr (.inr (.inl h))))))
        · exact .inr (.inr (.inr (.inr (.inr (.inl h)))))
        · exact .inr (.inr (.inr (.inl h)))
        · exact .inr (.inr (.inl h))
        · exact .inl h
        · exact .inr (.inl h)
        · exact .inr (.inr (.inr (.inr (.inl h))))
      have hN : BoxRow (BL ++ NL) 3 1 (.slice na nl nc) nl (nums.map (Value.int .i64)) := HNL0.out.mono fun x hx _ => List.mem_append.2 (.inr hx)
      have hH : BoxRow (BL ++ NL) 3 1 (.slice ha nl hc) nl (bl.map (Value.int .i64)) := HBL.out.mono fun x hx _ => List.mem_append.2 (.inl hx)
      have cE := each_call (w := w) (W := W9.drew) (ab := ab) (cb := cb) (sb := sb) (bb := bb) (ob := ob) (tb := tb) (nb := nb) (hb := hb) (kb := kb) (k := k) (U := U) (t := t) (p := p) (na := na) (ha := ha) (nc := nc) (hc := hc) (us := us) (NB := BL ++ NL) 10 on ra L rc n place id ia inn ic say HE.out HB.out HPP.out Hp.out HLm.out hrn hU2 htot Hul.out HIn.out
        (HP10.out.later (Below.refl _ _).drew) (by
          rw [← HNums.out, ← HNl.out, Hbk.out, ← HOC.out]
          intro x hx
          have h1 := hKc x hx
          have h2 := HP7.out.lt h1
          exact ⟨List.mem_cons_of_mem _ (List.mem_cons_of_mem _ (List.mem_cons_of_mem _ h1)), by omega, by omega, by omega⟩) ⟨by omega, by omega, by omega⟩
        (List.mem_cons_of_mem _ (List.mem_cons_self ..)) (List.mem_cons_of_mem _ (List.mem_cons_of_mem _ (List.mem_cons_self ..))) (List.mem_cons_self ..)
        (by rw [← HNums.out, ← HNl.out]; exact hN) (by rw [← HNums.out, ← HNl.out, ← Hbl.out]; exact hH)
      unfold CallEnd at cE
      rw [← HNums.out, ← HNl.out, Hbk.out, ← HOC.out, ← Hbl.out] at cE
      have HcE := Lib.hid cE
      have HN2 := Lib.hid hN
      have HH2 := Lib.hid hH
      clear cE hKc hsz7 hN hH
      refine wp_region_noPanic ?_
      refine wp_region_held_drew (S := (fun w' => w'.cell? ⟨bb, 0, none⟩ = some (.pointer (some ⟨bk, 0, none⟩)) ∧ w'.cell? ⟨ob, 3, none⟩ = some (.int .i64 n))) (by kernel_rfl) ?_ (fun hHeld => ?_)
      · exact ⟨zb, z3⟩
      refine wpAnyH_take (i := 0) (oi := ⟨some 53, _, _, _, _, _⟩) (v := ?_) rfl (by kernel_rfl) (by kernel_rfl) (by kernel_rfl) (fun _ _ _ h => h) (Or.inl ⟨by rfl, ?_⟩) (by assumption) ?_
      rotate_left 1
      · intro w hSw
        (try dsimp only at hSw)
        go_simp
        all_goals with_reducible rfl
      (try simp only [Act.put, List.setIfInBounds_toArray, List.set_cons_zero, List.set_cons_succ])
      refine wpAnyH_take (i := 1) (oi := ⟨some 54, _, _, _, _, _⟩) (v := ?_) rfl (by kernel_rfl) (by kernel_rfl) (by kernel_rfl) (fun _ _ _ h => h) (Or.inl ⟨by rfl, ?_⟩) (by assumption) ?_
      rotate_left 1
      · intro w hSw
        (try dsimp only at hSw)
        go_simp
        all_goals with_reducible rfl
      (try simp only [Act.put, List.setIfInBounds_toArray, List.set_cons_zero, List.set_cons_succ])
      refine wpAnyH_take (i := 2) (oi := ⟨some 55, _, _, _, _, _⟩) (v := ?_) rfl (by kernel_rfl) (by kernel_rfl) (by kernel_rfl) (fun _ _ _ h => h) (Or.inl ⟨by rfl, ?_⟩) (by assumption) ?_
      rotate_left 1
      · intro w hSw
        (try dsimp only at hSw)
        go_simp
        all_goals with_reducible rfl
      (try simp only [Act.put, List.setIfInBounds_toArray, List.set_cons_zero, List.set_cons_succ])
      refine wpAnyH_take (i := 4) (oi := ⟨some 57, _, _, _, _, _⟩) (v := ?_) rfl (by kernel_rfl) (by kernel_rfl) (by kernel_rfl) (fun _ _ _ h => h) (Or.inl ⟨by rfl, ?_⟩) (by assumption) ?_
      rotate_left 1
      · intro w hSw
        (try dsimp only at hSw)
        go_simp
        all_goals with_reducible rfl
      (try simp only [Act.put, List.setIfInBounds_toArray, List.set_cons_zero, List.set_cons_succ])
      refine wpAnyH_take (i := 7) (oi := ⟨some 60, _, _, _, _, _⟩) (v := ?_) rfl (by kernel_rfl) (by kernel_rfl) (by kernel_rfl) (fun _ _ _ h => h) (Or.inl ⟨by rfl, ?_⟩) (by assumption) ?_
      rotate_left 1
      · intro w hSw
        (try dsimp only at hSw)
        go_simp
        all_goals with_reducible rfl
      (try simp only [Act.put, List.setIfInBounds_toArray, List.set_cons_zero, List.set_cons_succ])
      refine wpAnyH_take (i := 8) (oi := ⟨some 61, _, _, _, _, _⟩) (v := ?_) rfl (by kernel_rfl) (by kernel_rfl) (by kernel_rfl) (fun _ _ _ h => h) (Or.inl ⟨by rfl, ?_⟩) (by assumption) ?_
      rotate_left 1
      · intro w hSw
        (try dsimp only at hSw)
        go_simp
        all_goals with_reducible rfl
      (try simp only [Act.put, List.setIfInBounds_toArray, List.set_cons_zero, List.set_cons_succ])
      refine wpAnyH_take (i := 9) (oi := ⟨some 62, _, _, _, _, _⟩) (v := ?_) rfl (by kernel_rfl) (by kernel_rfl) (by kernel_rfl) (fun _ _ _ h => h) (Or.inl ⟨by rfl, ?_⟩) (by assumption) ?_
      rotate_left 1
      · intro w hSw
        (try dsimp only at hSw)
        go_simp
        all_goals with_reducible rfl
      (try simp only [Act.put, List.setIfInBounds_toArray, List.set_cons_zero, List.set_cons_succ])
      refine wpAnyH_ready (rs := [3]) (by kernel_rfl) (by simp) ?_
      refine AllReadyH.cons (o := _) rfl (fun K hK => ?_) ?_
      · go_simp
        refine hK.out _ _ ?_ (fun hHeld => ?_)
        · exact ⟨zb, z3⟩
        clear hK K
        (try simp only [Act.put, List.setIfInBounds_toArray, List.set_cons_zero, List.set_cons_succ])
        refine wpAnyH_take (i := 5) (oi := ⟨some 58, _, _, _, _, _⟩) (v := ?_) rfl (by kernel_rfl) (by kernel_rfl) (by kernel_rfl) (fun _ _ _ h => h) (Or.inl ⟨by rfl, ?_⟩) (by assumption) ?_
        rotate_left 1
        · intro w hSw
          (try dsimp only at hSw)
          go_simp
          all_goals with_reducible rfl
        (try simp only [Act.put, List.setIfInBounds_toArray, List.set_cons_zero, List.set_cons_succ])
        refine wpAnyH_ready (rs := [6]) (by kernel_rfl) (by simp) ?_
        refine AllReadyH.cons (o := _) rfl (fun K hK => ?_) ?_
        · go_simp
          refine hK.out _ _ ?_ (fun hHeld => ?_)
          · exact ⟨zb, z3⟩
          clear hK K
          (try simp only [Act.put, List.setIfInBounds_toArray, List.set_cons_zero, List.set_cons_succ])
          refine wpAnyH_ready (rs := [10]) (by kernel_rfl) (by simp) ?_
          refine AllReadyH.cons (o := _) rfl (fun K hK => ?_) ?_
          · go_simp
            refine HcE.out.mono ?_
            rintro e W10 ⟨rfl, hC⟩
            have HC := Lib.hid hC
            have hS10 : W10.cell? ⟨bb, 0, none⟩ = some (.pointer (some ⟨bk, 0, none⟩)) ∧ W10.cell? ⟨ob, 3, none⟩ = some (.int .i64 n) := by
              obtain ⟨NX, βr, τr, Cr, an, cn, stop, p', han, hcn, hNX, M, -⟩ := hC
              obtain ⟨-, -, -, yb, yo, -⟩ := EMid.cells (LB := []) (by rw [List.append_nil]; exact M)
              exact ⟨yb, yo 3 _ (by rw [HOC.out]; rfl)⟩
            clear hC HcE
            refine hK.out _ _ ?_ (fun hHeld => ?_)
            · exact hS10
            clear hK K
            (try simp only [Act.put, List.setIfInBounds_toArray, List.set_cons_zero, List.set_cons_succ])
            refine wpAnyH_done (by kernel_rfl) ?_ _
            refine NoPanic.normal ?_
            obtain ⟨NX, βr, τr, Cr, an, cn, stop, p', han, hcn, hNX, M, LM, hp', hrb, hd⟩ := HC.out
            have hcU : cn - inn ≤ U := by
              have h1 := HLm.out.rs p (List.mem_of_getElem? Hp.out)
              have h2 := of_len p.rows n
              rw [show p.rows.length = p.rs.length from List.length_map _] at h2
              have h3 := HNl.out
              rw [HNums.out] at h3
              omega
            have HLim : Hid (Lim U βr (t + v)) := Lib.hid ((LM.fin hcU).mono (Htv.out cn))
            have HM := Lib.hid M
            have HD := Lib.hid hd
            have HNX : Hid (BoxRow NX 3 1 (.slice na nl nc) nl (nums.map (Value.int .i64))) := Lib.hid (HN2.out.mono fun x hx _ => hNX x hx)
            have HHX : Hid (BoxRow NX 3 1 (.slice ha nl hc) nl (bl.map (Value.int .i64))) := Lib.hid (HH2.out.mono fun x hx _ => hNX x hx)
            have HmR' : Hid (rfE βr.ar k p' ∈ ents βr.ar βr.ps) := Lib.hid (mem_ents.2 ⟨k, p', hp', .inr rfl⟩)
            have Hrb := Lib.hid hrb
            clear hNX M LM hp' hrb hd hcU HC hS10 hHeld zb z3 s0 s1
            go_wp2_with fail
            go_loopw [] (fun wr => ∃ (x : Nat) (Cx : List Box), x ≤ nl ∧ Hid (EMid w0 β C w (eK bb ob tb nb hb kb bk p.rb oc na ha nl nc hc NX) ab cb sb x cn stop βr τr Cx wr) ∧ Hid (stop = true ∨ ∀ i, x ≤ i → i < nl → ∃ (m : Nat) (y : Int), nums[i]? = some (m : Int) ∧ bl[i]? = some y ∧ p'.born[m]? ≠ some y)) (fun wr => nl - cntAt ab wr)
            case atStart => exact ⟨an, Cr, han, HM, HD⟩
            case round =>
              clear HM HD
              obtain ⟨x, Cx, hxn, HMx, HDx⟩ := hrel
              obtain ⟨⟨ya, yaf⟩, -, ⟨ys, -⟩, yb, -, yt, yn, yh, ⟨yk, -⟩⟩ := EMid.cells (LB := []) (by rw [List.append_nil]; exact HMx.out)
              have hmu : cntAt ab wr = x := by unfold cntAt; rw [ya]; simp [intOf]
              by_cases hlt2 : x < nl
              · obtain ⟨m, y, hm, hy, -⟩ := HAt.out x hlt2
                obtain ⟨gn, rfl, en⟩ := EMid.elem (LB := []) (by rw [List.append_nil]; exact HMx.out) HNX.out hm
                obtain ⟨gh, rfl, eh⟩ := EMid.elem (LB := []) (by rw [List.append_nil]; exact HMx.out) HHX.out hy
                have cS := env_stays_rf (HMx.out.st.E.stay (Below.refl _ _).drew) HmR'.out m y
                rw [Hrb.out] at cS
                by_cases hlv : p'.born[m]? = some y
                · have hst : stop = true := by
                    rcases HDx.out with h | h
                    · exact h
                    · obtain ⟨m', y', q1, q2, q3⟩ := h x (Nat.le_refl _) hlt2
                      rw [hm] at q1
                      rw [hy] at q2
                      simp only [Option.some.injEq, Int.natCast_inj] at q1 q2
                      subst q1
                      subst q2
                      exact absurd hlv q3
                  subst hst
                  rw [show decide (p'.born[m]? = some y) = true by simpa using hlv] at cS
                  have HcS := Lib.hid cS
                  clear cS hm hy hlv
                  go_upto_region 16 with fail
                  go_region_held3 (fun w' => w'.cell? ⟨ab, 0, none⟩ = some (.int .i64 (x : Int)) ∧ w'.cell? ⟨nb, 0, none⟩ = some (.slice (some ⟨gn, 0, none⟩) nl nc) ∧ w'.cell? ⟨tb, 0, none⟩ = some (.pointer (some ⟨p.rb, 0, none⟩)) ∧ w'.cell? ⟨hb, 0, none⟩ = some (.slice (some ⟨gh, 0, none⟩) nl hc) ∧ w'.cell? ⟨gn, x, none⟩ = some (.int .i64 (m : Int)) ∧ w'.cell? ⟨gh, x, none⟩ = some (.int .i64 y)) (first | assumption | exact ⟨ya, yn, yt, yh, en, eh⟩ | go_keep) (first
                    | (go_at_call 65
                       with_reducible refine HcS.out.mono ?_
                       rintro e W ⟨rfl, rfl⟩
                       have hS : (wr.drew).cell? ⟨ab, 0, none⟩ = some (.int .i64 (x : Int)) ∧ (wr.drew).cell? ⟨nb, 0, none⟩ = some (.slice (some ⟨gn, 0, none⟩) nl nc) ∧ (wr.drew).cell? ⟨tb, 0, none⟩ = some (.pointer (some ⟨p.rb, 0, none⟩)) ∧ (wr.drew).cell? ⟨hb, 0, none⟩ = some (.slice (some ⟨gh, 0, none⟩) nl hc) ∧ (wr.drew).cell? ⟨gn, x, none⟩ = some (.int .i64 (m : Int)) ∧ (wr.drew).cell? ⟨gh, x, none⟩ = some (.int .i64 y) := ⟨ya, yn, yt, yh, en, eh⟩))
                  have HcK := Lib.hid (by
                    have h := kept_any (HMx.out.below (Below.refl _ _).drew).st.E HMx.out.st.ok (by have := HLim.out.lists; have := U_lists hU hU2; omega) HMx.out.st.ok.big
                    rw [show βr.bk = β.bk from HMx.out.st.bk, Hbk.out] at h
                    exact h)
                  have HFin : Hid (∀ w', Below wr.drew.heap.size wr.drew w' → FlatEnd w0 β C U (t + v) w (.returned (.bool true)) w') := Lib.hid (fun w' hb => ⟨rfl, βr, τr, Cx, (HMx.out.below (Below.refl _ _).drew).st.later hb, HMx.out.l, HLim.out⟩)
                  clear HMx HDx
                  clear HcS hmu ya yaf yt yn yh en eh hS
                  go_upto_region 18 with fail
                  go_wp2_with (first | (go_at_call 27; (with_reducible refine HcK.out.mono ?_); rintro e W ⟨rfl, hbw⟩))
                  go_ret
                  exact HFin.out _ hbw
                · rw [show decide (p'.born[m]? = some y) = false by simpa using hlv] at cS
                  have HcS := Lib.hid cS
                  clear cS
                  go_upto_region 16 with fail
                  go_region_held3 (fun w' => w'.cell? ⟨ab, 0, none⟩ = some (.int .i64 (x : Int)) ∧ w'.cell? ⟨nb, 0, none⟩ = some (.slice (some ⟨gn, 0, none⟩) nl nc) ∧ w'.cell? ⟨tb, 0, none⟩ = some (.pointer (some ⟨p.rb, 0, none⟩)) ∧ w'.cell? ⟨hb, 0, none⟩ = some (.slice (some ⟨gh, 0, none⟩) nl hc) ∧ w'.cell? ⟨gn, x, none⟩ = some (.int .i64 (m : Int)) ∧ w'.cell? ⟨gh, x, none⟩ = some (.int .i64 y)) (first | assumption | exact ⟨ya, yn, yt, yh, en, eh⟩ | go_keep) (first
                    | (go_at_call 65
                       with_reducible refine HcS.out.mono ?_
                       rintro e W ⟨rfl, rfl⟩
                       have hS : (wr.drew).cell? ⟨ab, 0, none⟩ = some (.int .i64 (x : Int)) ∧ (wr.drew).cell? ⟨nb, 0, none⟩ = some (.slice (some ⟨gn, 0, none⟩) nl nc) ∧ (wr.drew).cell? ⟨tb, 0, none⟩ = some (.pointer (some ⟨p.rb, 0, none⟩)) ∧ (wr.drew).cell? ⟨hb, 0, none⟩ = some (.slice (some ⟨gh, 0, none⟩) nl hc) ∧ (wr.drew).cell? ⟨gn, x, none⟩ = some (.int .i64 (m : Int)) ∧ (wr.drew).cell? ⟨gh, x, none⟩ = some (.int .i64 y) := ⟨ya, yn, yt, yh, en, eh⟩))
                  go_wp2_with fail
                  go_roundw
                  case rel =>
                    obtain ⟨C', M'⟩ := (HMx.out.below (Below.refl _ _).drew).setA (x + 1)
                    exact ⟨x + 1, C', by omega, Lib.hid M', Lib.hid (HDx.out.imp (fun h => h) (fun h i h1 h2 => h i (by omega) h2))⟩
                  case measure =>
                    have h2 : cntAt ab (wr.setCell ⟨ab, 0, none⟩ (.int .i64 ((x : Int) + 1))).drew = x + 1 := by
                      show cntAt ab (wr.setCell ⟨ab, 0, none⟩ (.int .i64 ((x : Int) + 1))) = x + 1
                      unfold cntAt
                      rw [World.cell?_setCell_same' _ _ _ (by show (wr.cell? ⟨ab, 0, none⟩).isSome = true; rw [ya]; rfl)]
                      simp [intOf]
                    rw [hmu, h2]
                    omega
              · have hxe : x = nl := by omega
                subst hxe
                have hdd : decide (x < x) = false := by simp
                cases stop with
                | true =>
                  go_upto_region 16 with fail
                  go_quiet (fail)
                  have HcK := Lib.hid (by
                    have h := kept_any (HMx.out.below (below_drewN (Below.refl _ _) nq)).st.E HMx.out.st.ok (by have := HLim.out.lists; have := U_lists hU hU2; omega) HMx.out.st.ok.big
                    rw [show βr.bk = β.bk from HMx.out.st.bk, Hbk.out] at h
                    exact h)
                  have HFin : Hid (∀ w', Below (wr.drewN nq).heap.size (wr.drewN nq) w' → FlatEnd w0 β C U (t + v) w (.returned (.bool true)) w') := Lib.hid (fun w' hb => ⟨rfl, βr, τr, Cx, (HMx.out.below (below_drewN (Below.refl _ _) nq)).st.later hb, HMx.out.l, HLim.out⟩)
                  clear HMx HDx
                  clear hmu ya yaf yt yn yh
                  go_upto_region 18 with fail
                  go_wp2_with (first | (go_at_call 27; (with_reducible refine HcK.out.mono ?_); rintro e W ⟨rfl, hbw⟩))
                  go_ret
                  exact HFin.out _ hbw
                | false =>
                  go_upto_region 16 with fail
                  go_quiet (fail)
                  have HcK := Lib.hid (by
                    have h := kept_any (HMx.out.below (below_drewN (Below.refl _ _) nq)).st.E HMx.out.st.ok (by have := HLim.out.lists; have := U_lists hU hU2; omega) HMx.out.st.ok.big
                    rw [show βr.bk = β.bk from HMx.out.st.bk, Hbk.out] at h
                    exact h)
                  have HFin : Hid (∀ w', Below (wr.drewN nq).heap.size (wr.drewN nq) w' → FlatEnd w0 β C U (t + v) w (.returned (.bool true)) w') := Lib.hid (fun w' hb => ⟨rfl, βr, τr, Cx, (HMx.out.below (below_drewN (Below.refl _ _) nq)).st.later hb, HMx.out.l, HLim.out⟩)
                  clear HMx HDx
                  clear hmu yaf yt yh
                  go_upto_region 18 with fail
                  go_wp2_with (first | (go_at_call 27; (with_reducible refine HcK.out.mono ?_); rintro e W ⟨rfl, hbw⟩))
                  go_ret
                  exact HFin.out _ hbw
          exact AllReadyH.nil
        exact AllReadyH.nil
      exact AllReadyH.nil
end Go.Proofs.Ytgodidoibcomcaa.Bk

namespace Go.Proofs.Ytgodidoibcomcaa.Bk
open Go.RowKit Go.Proofs.Ytgodidoibcomcaa

set_option linter.unusedSimpArgs false in
set_option maxHeartbeats 8000000 in
set_option maxRecDepth 8000 in
theorem each_flat {w0 : World} {τ : Own} {w : World} {β : Book} {C : List Box} {U u v : Nat} {Ops : Option Addr → Nat → Nat → Prop} (E : Env w0 τ w (ents β.ar β.ps) [] C) (B : BookOk β C) (HP : ∀ p ∈ β.ps, PrOk p) (hL : Lim U β v) (x : OpD) (hkind : (x.kind != 10) = true) (hx : OpIn Ops w0 x u) (hU : v + u ≤ U) (hU2 : U ≤ 1048576) :
    Calls Try.prog 30 #[.pointer (some ⟨β.bk, 0, none⟩), .agg x.cells] w (FlatEnd w0 β C U (v + u) w) := by
  obtain ⟨bk, hbk⟩ : ∃ b, β.bk = b := ⟨_, rfl⟩
  obtain ⟨oc, hoc⟩ : ∃ oc, oc = x.cells := ⟨_, rfl⟩
  obtain ⟨Wa, hWa⟩ : ∃ W, W = w.alloc (.cells #[.pointer (some ⟨bk, 0, none⟩)] 49) := ⟨_, rfl⟩
  obtain ⟨bb, hbb⟩ : ∃ b, b = w.heap.size := ⟨_, rfl⟩
  obtain ⟨Wb, hWb⟩ : ∃ W, W = Wa.alloc (.cells x.cells 54) := ⟨_, rfl⟩
  obtain ⟨ob, hob⟩ : ∃ b, b = Wa.heap.size := ⟨_, rfl⟩
  obtain ⟨τ2, E2⟩ : ∃ τ2, Env w0 τ2 Wb (ents β.ar β.ps) [] ((ob, .cells oc 54 (0, 0)) :: (bb, .cells #[.pointer (some ⟨bk, 0, none⟩)] 49 (0, 0)) :: C) := ⟨_, by rw [hWb, hob, hoc]; exact ((show Env w0 _ Wa (ents β.ar β.ps) [] ((bb, .cells #[.pointer (some ⟨bk, 0, none⟩)] 49 (0, 0)) :: C) by rw [hWa, hbb]; exact E.box _)).box _⟩
  have hsz : w.heap.size ≤ Wb.heap.size := by rw [hWb, hWa]; simp; omega
  have hF := flat_any E2 (B.more (fun x hx => List.mem_cons_of_mem _ (List.mem_cons_of_mem _ hx))) HP x hx hL hU hU2
  rw [hbk] at hF
  have HFin : Hid (∀ e w', FlatEnd w0 β ((ob, .cells oc 54 (0, 0)) :: (bb, .cells #[.pointer (some ⟨bk, 0, none⟩)] 49 (0, 0)) :: C) U (v + u) Wb e w' → FlatEnd w0 β C U (v + u) w e w') := Lib.hid (fun e w' h => by
    obtain ⟨rfl, β', τ', C', ST, hl, hlim⟩ := h
    exact ⟨rfl, β', τ', C', ST.less (fun x hx => List.mem_cons_of_mem _ (List.mem_cons_of_mem _ hx)) hsz, hl, hlim⟩)
  have mob : (ob, Obj.cells oc 54 (0, 0)) ∈ ((ob, Obj.cells oc 54 (0, 0)) :: (bb, .cells #[.pointer (some ⟨bk, 0, none⟩)] 49 (0, 0)) :: C) := List.mem_cons_self ..
  have z : ∀ (j : Nat) y, oc[j]? = some y → Wb.cell? ⟨ob, j, none⟩ = some y := fun j y hy => (E2.cellAt mob hy).1
  have zb : Wb.cell? ⟨bb, 0, none⟩ = some (.pointer (some ⟨bk, 0, none⟩)) := (E2.cellAt (List.mem_cons_of_mem _ (List.mem_cons_self ..)) (j := 0) rfl).1
  clear mob E2 hL hx B HP E
  obtain ⟨kind, on, ra, rc, l, n, place, id, ia, inn, ic, say⟩ := x
  simp only at hkind
  rw [hoc] at z
  obtain ⟨L, hLl⟩ : ∃ L, l.length = L := ⟨_, rfl⟩
  unfold OpD.cells opCells at z hF hWb
  unfold OpD.cells opCells
  simp only at hF z ⊢
  rw [hLl] at z hF hWb ⊢
  rw [hbk]
  have z0 : Wb.cell? ⟨ob, 0, none⟩ = some (.int .i64 kind) := z 0 _ rfl
  have z1 : Wb.cell? ⟨ob, 1, none⟩ = some (.int .i64 on) := z 1 _ rfl
  have z2 : Wb.cell? ⟨ob, 2, none⟩ = some (.slice ra L rc) := z 2 _ rfl
  have z3 : Wb.cell? ⟨ob, 3, none⟩ = some (.int .i64 n) := z 3 _ rfl
  have z4 : Wb.cell? ⟨ob, 4, none⟩ = some (.int .i64 place) := z 4 _ rfl
  have z5 : Wb.cell? ⟨ob, 5, none⟩ = some (.int .i64 id) := z 5 _ rfl
  have z6 : Wb.cell? ⟨ob, 6, none⟩ = some (.slice ia inn ic) := z 6 _ rfl
  have z7 : Wb.cell? ⟨ob, 7, none⟩ = some (.bool say) := z 7 _ rfl
  have cF := Lib.hid hF
  have HWa := Lib.hid hWa
  have HWb := Lib.hid hWb
  have Hbb := Lib.hid hbb
  have Hob : Hid (ob = w.heap.size + 1) := Lib.hid (by rw [hob, hWa]; simp)
  clear hF hWa hWb hbb hob z hoc hbk hLl
  go_enter Try.func30, Try.ntmps30
  go_upto_region 1 with fail
  rw [← HWa.out, ← HWb.out, ← Hob.out, ← Hbb.out]
  go_wp2_with (first | (go_at_call 26; (with_reducible refine cF.out.mono ?_); intro e W1 hW1; have HW1 := Lib.hid (HFin.out _ _ hW1); obtain ⟨rfl, -⟩ := hW1))
  go_ret
  exact HW1.out

theorem Mid.each {w0 : World} {bk U t u d : Nat} {β : Book} {τ : Own} {C : List Box} {w : World} (M : Mid w0 bk U t β τ C w) (x : OpD) (hx : OpIn (OpsE w0 d) w0 x u) (ht : t + u ≤ U) (hU : U ≤ 1048576) :
    Calls Try.prog 30 #[.pointer (some ⟨bk, 0, none⟩), .agg x.cells] w fun e w' => e = .returned (.bool true) ∧ ∃ β' τ' C', Hid (Mid w0 bk U (t + u) β' τ' C' w') := by
  have h : Calls Try.prog 30 #[.pointer (some ⟨β.bk, 0, none⟩), .agg x.cells] w (FlatEnd w0 β C U (t + u) w) := by
    by_cases h10 : x.kind = 10
    · exact each_ten M.E M.B M.P x h10 hx M.L ht hU
    · exact each_flat M.E M.B M.P M.L x (by simpa using h10) hx ht hU
  rw [M.bk] at h
  refine h.mono ?_
  rintro e w' ⟨rfl, β', τ', C', S, l, hl⟩
  exact ⟨rfl, β', τ', C', Lib.hid (M.step S l hl)⟩
set_option maxHeartbeats 8000000 in
set_option maxRecDepth 8000 in
theorem eaches_any (w : World) (aa sa : Option Addr) (ca sc n d u : Nat) (ar : List Int) (ha : IntsZ (fun _ => True) w aa ca ar) (hl : ar.length ≤ 1048576) (hs : OpsE w d sa n u) (hu : u ≤ 1048576) :
    Calls Try.prog 10 #[.slice aa ar.length ca, .slice sa n sc] w fun e w' => e = .returned (.bool true) ∧ Below w.heap.size w w' := by
  have HS := Lib.hid hs
  have hn6 : n ≤ 1048576 := Nat.le_trans hs.count hu
  by_cases hok : ArOk ar
  · have cB := Lib.hid (begin_any aa ca ar ha hok)
    clear ha hs hok
    go_enter Try.func10, Try.ntmps10
    go_upto_region 2 with (first | (go_at_call 25; refine cB.out.mono ?_; rintro e W1 ⟨β, τ, C, rfl, hE, hB, hbar, hbn, hbl, sb, rb, hbp⟩))
    have HM := Lib.hid (Mid.begin (U := u) hE hB hbar hbn hbl hbp)
    obtain ⟨bk, hbk⟩ : ∃ b, β.bk = b := ⟨_, rfl⟩
    rw [hbk] at HM ⊢
    clear hE hB hbar hbn hbl hbp hbk cB
    go_wp2_with fail
    go_loopw [8] (fun i wr => ∃ (k : Nat) (us : List Nat) (βr : Book) (τr : Own) (Cr : List Box) (t : Nat), k ≤ n ∧ i = .int .i64 k ∧ t ≤ u ∧ Hid (Mid w bk u t βr τr Cr wr) ∧ Hid (t = (us.take k).sum ∧ (n = 0 ∨ ∃ d' b off, sa = some ⟨b, off, none⟩ ∧ us.length = n ∧ us.sum ≤ u ∧ ∀ (i v : Nat), us[i]? = some v → ∃ x : OpD, (∀ (j : Nat) y, x.cells[j]? = some y → w.cell? ⟨b, off + i * 8 + j, none⟩ = some y) ∧ OpIn (OpsE w d') w x v))) (fun i _ => n - (intOf i).toNat)
    case atStart =>
      rcases HS.out.at with h | ⟨d', b, off, h1, us, h2, h3, h4⟩
      · exact ⟨0, [], β, τ, C, 0, Nat.zero_le _, rfl, Nat.zero_le _, HM, Lib.hid ⟨by simp, .inl h⟩⟩
      · exact ⟨0, us, β, τ, C, 0, Nat.zero_le _, rfl, Nat.zero_le _, HM, Lib.hid ⟨by simp, .inr ⟨d', b, off, h1, h2, by omega, h4⟩⟩⟩
    case round =>
      obtain ⟨k, us, βr, τr, Cr, t, hk, rfl, htu, HMr, HU⟩ := hrel
      by_cases hlt : k < n
      · obtain ⟨ht, hn0 | ⟨d', b, off, rfl, hul, hus, hall⟩⟩ := HU.out
        · omega
        · obtain ⟨v, hv⟩ : ∃ v, us[k]? = some v := ⟨_, List.getElem?_eq_getElem (by omega)⟩
          obtain ⟨x, hc, hin⟩ := hall k v hv
          have hsum := take_sum_succ hv
          have hle := take_sum_le us (k + 1)
          have cF := Lib.hid (HMr.out.each x hin (by omega) hu)
          obtain ⟨kind, on, ra, rc, l, nn, place, id, ia, inn, ic, say⟩ := x
          have c0 := on_cell HMr.out.E.below (hc 0 _ rfl)
          have c1 := on_cell HMr.out.E.below (hc 1 _ rfl)
          have c2 := on_cell HMr.out.E.below (hc 2 _ rfl)
          have c3 := on_cell HMr.out.E.below (hc 3 _ rfl)
          have c4 := on_cell HMr.out.E.below (hc 4 _ rfl)
          have c5 := on_cell HMr.out.E.below (hc 5 _ rfl)
          have c6 := on_cell HMr.out.E.below (hc 6 _ rfl)
          have c7 := on_cell HMr.out.E.below (hc 7 _ rfl)
          unfold OpD.cells opCells at cF c0 c1 c2 c3 c4 c5 c6 c7
          simp only [List.getElem_toArray, List.getElem_cons_zero, List.getElem_cons_succ] at c0 c1 c2 c3 c4 c5 c6 c7
          simp only at cF
          rw [Nat.add_zero] at c0
          have htv : t + v ≤ u := by omega
          have HT : Hid (t + v = (us.take (k + 1)).sum ∧ (n = 0 ∨ ∃ d' b' off', (some ⟨b, off, none⟩ : Option Addr) = some ⟨b', off', none⟩ ∧ us.length = n ∧ us.sum ≤ u ∧ ∀ (i v : Nat), us[i]? = some v → ∃ x : OpD, (∀ (j : Nat) y, x.cells[j]? = some y → w.cell? ⟨b', off' + i * 8 + j, none⟩ = some y) ∧ OpIn (OpsE w d') w x v)) := Lib.hid ⟨by omega, .inr ⟨d', b, off, rfl, hul, hus, hall⟩⟩
          have hln : (us.take k).sum ≤ u := by omega
          clear hall hc hin hv hsum hle ht hul hus HU
          go_wp2_with (first
            | (go_at_call 30; refine cF.out.mono ?_; rintro e W2 ⟨rfl, β2, τ2, C2, HM2⟩))
          go_roundw
          case rel => exact ⟨k + 1, us, β2, τ2, C2, t + v, by omega, by go_num, htv, HM2, HT⟩
          case measure => simp [intOf]; omega
      · have cW := Lib.hid (HMr.out.whole htu hu)
        go_wp2_with (first | (go_at_call 28; refine cW.out.mono ?_; rintro e W4 ⟨rfl, hb4⟩))
        go_ret
        exact ⟨rfl, hb4⟩
  · have cB := Lib.hid (begin_bad aa ca ar ha (by omega) hok)
    clear ha hs hok
    go_enter Try.func10, Try.ntmps10
    go_wp2_with (first | (go_at_call 25; refine cB.out.mono ?_; rintro e W1 ⟨rfl, hb1⟩))
    go_ret
    exact ⟨rfl, hb1⟩
end Go.Proofs.Ytgodidoibcomcaa.Bk

namespace Go.Proofs.Ytgodidoibcomcaa.Bk
open Go.RowKit Go.ChangeShapes Go.WideShapes Go.Proofs.Ytgodidoibcomcaa
namespace Op
open Go.Proofs.Ytgodidoibcomcaa.Op

theorem mem_le {H : Type} {d : DataW H} {l : List (DataW H)} (h : d ∈ l) : Rows.uptoBulk d ≤ Rows.uptoBulkAll l := by
  induction l with
  | nil => cases h
  | cons x r ih =>
    simp only [Rows.uptoBulkAll]
    rcases List.mem_cons.1 h with rfl | h
    · omega
    · have := ih h
      omega
theorem cellsBool2 : Try.prog.cellsOf 4 = 1 := by kernel_rfl
theorem cellsOp : Try.prog.cellsOf 54 = 8 := by kernel_rfl
theorem cellsOps : Try.prog.cellsOf 48 = 1 := by kernel_rfl
section
variable {H : Type} {enc : TypeId × Value → H} {W : World} {held : Bool}
theorem open_rows2 {fuel : Nat} {v : Value} {x : DataW H × List MemPlace} (h : DataW.trod enc Try.prog W 0 (fun _ => true) held fuel 29 [v] = some x) :
    ∃ a c l, v = .slice a l.length c ∧ RowsZ (fun _ => True) W a c l ∧ l.length ≤ c ∧ (∀ r ∈ l, RowOk r) ∧ (∀ r ∈ l, r.2.length ≤ Rows.uptoBulk x.1) ∧ l.length + 1 ≤ Rows.uptoBulk x.1 := by
  rcases Deep.open_slice Try.underlying29 h with ⟨h1, rfl⟩ | ⟨a, len, cap, m, n, D, Pl, h1, _, hl, hm, hmm, rfl, hx⟩
  · simp at h1
    subst h1
    exact ⟨none, 0, [], rfl, ⟨.inl rfl, fun _ => ⟨rfl, rfl⟩⟩, by simp, by simp, by simp, by simp [Rows.uptoBulk]⟩
  · simp at h1 hmm
    subst h1; subst hmm
    rw [cellsRow] at hx
    have hi : ∀ i, i < len → ∃ s : Int × Option Addr × Nat × List Int, W.cell? (a.add (i * 2)) = some (.int .i64 s.1) ∧ W.cell? (a.add (i * 2 + 1)) = some (.slice s.2.1 s.2.2.2.length s.2.2.1) ∧ IntsZ (fun _ => True) W s.2.1 s.2.2.1 s.2.2.2 ∧ RowOk (s.1, s.2.2.2) ∧ s.2.2.2.length ≤ Rows.uptoBulk (D i) := by
      intro i hi
      obtain ⟨cs, c1, c2⟩ := hx i (by omega)
      obtain ⟨_, hlen, hc⟩ := World.cells?_some c1
      match cs, hlen with
      | [u0, u1], _ =>
        obtain ⟨y0, y1, k, hD, _, t0, t1⟩ := trod_struct2 Try.underlying28 c2
        have t0' : DataW.trod enc Try.prog W 0 (fun _ => true) held k 3 [u0] = some y0 := by simpa [cellsInt] using t0
        have t1' : DataW.trod enc Try.prog W 0 (fun _ => true) held k 22 [u1] = some y1 := by simpa [cellsInts] using t1
        obtain ⟨nv, e2, _, e3⟩ := DataW.trod_int Try.underlying3 t0'
        obtain ⟨ai, ci, xs, e4, hI, hR, hml, hbk⟩ := open_ints t1'
        simp at e2
        subst e2; subst e4
        have g0 := hc 0 (by omega)
        have g1 := hc 1 (by omega)
        have hD' : D i = .agg [y0.1, y1.1] := congrArg Prod.fst hD
        refine ⟨(nv, ai, ci, xs), ?_, ?_, hI, ⟨rng_wf e3, by unfold maxLen at hml; simpa using hml, hR⟩, ?_⟩
        · simpa [Addr.add] using g0
        · rw [Deep.add_add] at g1
          simpa using g1
        · rw [hD']
          simp only [Rows.uptoBulk, Rows.uptoBulkAll]
          omega
    obtain ⟨f, hf⟩ := Deep.choose_lt (α := Int × Option Addr × Nat × List Int) hi
    have hlen2 := length_le ((List.range len).map D)
    refine ⟨some a, m, (List.range len).map (fun i => ((f i).1, (f i).2.2.2)), by simp, ⟨?_, fun h => by cases h⟩, by simp; omega, ?_, ?_, ?_⟩
    · rcases Nat.eq_zero_or_pos len with h0 | h0
      · exact .inl (by simp [h0])
      · obtain ⟨b, o, sp⟩ := a
        have hs : sp = none := by
          have := World.cell?_spot (hf 0 h0).1
          simpa [Addr.add] using this
        subst hs
        refine .inr ⟨b, o, rfl, trivial, fun i hi => ?_⟩
        have hi' : i < len := by simpa using hi
        obtain ⟨g0, g1, g2, _⟩ := hf i hi'
        rw [addr_add] at g0 g1
        rw [← Nat.add_assoc] at g1
        refine ⟨by simpa using g0, (f i).2.1, (f i).2.2.1, by simpa using g1, by simpa using g2⟩
    · intro y hy
      obtain ⟨i, hi, rfl⟩ := List.mem_map.1 hy
      exact (hf i (by simpa using hi)).2.2.2.1
    · intro y hy
      obtain ⟨i, hi, rfl⟩ := List.mem_map.1 hy
      have h1 := (hf i (by simpa using hi)).2.2.2.2
      have h2 := mem_le (l := (List.range len).map D) (List.mem_map.2 ⟨i, hi, rfl⟩)
      simp only [Rows.uptoBulk]
      omega
    · simp only [Rows.uptoBulk, List.length_map, List.length_range] at hlen2 ⊢
      omega

theorem open_opsE (b : Nat) : ∀ (fuel : Nat) (v : Value) (x : DataW H × List MemPlace), DataW.trod enc Try.prog W 0 (fun _ => true) held fuel 48 [v] = some x → Rows.uptoBulk x.1 ≤ b → b ≤ 1048576 →
    ∃ a n c, v = .slice a n c ∧ OpsE W b a n (Rows.uptoBulk x.1) := by
  induction b with
  | zero =>
    intro fuel v x _ hb
    have := one_le x.1
    omega
  | succ b ih =>
    intro fuel v x h hb h6
    rcases Deep.open_slice Try.underlying48 h with ⟨h1, rfl⟩ | ⟨a, len, cap, m, n, D, Pl, h1, _, hl, hm, hmm, rfl, hx⟩
    · simp at h1
      subst h1
      exact ⟨none, 0, 0, rfl, .inl ⟨rfl, by simp [Rows.uptoBulk]⟩⟩
    · simp at h1 hmm
      subst h1; subst hmm
      rw [cellsOp] at hx
      refine ⟨some a, len, m, rfl, ?_⟩
      simp only [Rows.uptoBulk] at hb ⊢
      have hi : ∀ i, i < len → ∃ y : OpD, (∀ j u, y.cells[j]? = some u → W.cell? (a.add (i * 8 + j)) = some u) ∧ OpIn (OpsE W b) W y (Rows.uptoBulk (D i)) := by
        intro i hi
        obtain ⟨cs, c1, c2⟩ := hx i (by omega)
        obtain ⟨_, hlen, hc⟩ := World.cells?_some c1
        have hDle := mem_le (l := (List.range len).map D) (List.mem_map.2 ⟨i, List.mem_range.2 hi, rfl⟩)
        match cs, hlen with
        | [u0, u1, u2, u3, u4, u5, u6, u7], _ =>
          obtain ⟨xs, k, _, hD, hl8, hlx, hf⟩ := DataW.trod_struct Try.underlying54 c2
          match xs, hlx with
          | [y0, y1, y2, y3, y4, y5, y6, y7], _ =>
            have t0 := hf 0 _ rfl
            have t1 := hf 1 _ rfl
            have t2 := hf 2 _ rfl
            have t3 := hf 3 _ rfl
            have t4 := hf 4 _ rfl
            have t5 := hf 5 _ rfl
            have t6 := hf 6 _ rfl
            have t7 := hf 7 _ rfl
            simp [cellsInt, cellsRows, cellsBool2, cellsOps] at t0 t1 t2 t3 t4 t5 t6 t7
            obtain ⟨n0, e0, _, w0⟩ := DataW.trod_int Try.underlying3 t0
            obtain ⟨n1, e1, _, _⟩ := DataW.trod_int Try.underlying3 t1
            obtain ⟨ra, rc, l, rfl, S2, C2, R2, A2, B2⟩ := open_rows2 t2
            obtain ⟨n3, e3, _, w3⟩ := DataW.trod_int Try.underlying3 t3
            obtain ⟨n4, e4, _, w4⟩ := DataW.trod_int Try.underlying3 t4
            obtain ⟨n5, e5, _, w5⟩ := DataW.trod_int Try.underlying3 t5
            obtain ⟨b7, e7, _⟩ := DataW.trod_bool Try.underlying4 t7
            simp at e0 e1 e3 e4 e5 e7
            subst e0; subst e1; subst e3; subst e4; subst e5; subst e7
            have hD' : D i = .agg [y0.1, y1.1, y2.1, y3.1, y4.1, y5.1, y6.1, y7.1] := congrArg Prod.fst hD
            rw [hD'] at hDle ⊢
            simp only [Rows.uptoBulk, Rows.uptoBulkAll] at hDle ⊢
            have q0 := one_le y0.1
            have q1 := one_le y1.1
            have q3 := one_le y3.1
            have q4 := one_le y4.1
            have q5 := one_le y5.1
            have q7 := one_le y7.1
            obtain ⟨ia, inn, ic, rfl, hin⟩ := ih k u6 y6 t6 (by omega) (by omega)
            refine ⟨⟨n0, n1, ra, rc, l, n3, n4, n5, ia, inn, ic, b7⟩, fun j u hu => ?_, ⟨S2, C2, R2, fun r hr => by have := A2 r hr; omega, rng_wf w0, rng_wf w3, rng_wf w4, rng_wf w5, _, hin, by show Rows.uptoBulk y6.1 + l.length + 8 ≤ _; omega⟩⟩
            have hj : j < 8 := by
              have := (Array.getElem?_eq_some_iff.1 hu).1
              simpa [OpD.cells, opCells] using this
            have hcj := hc j hj
            rw [Deep.add_add] at hcj
            rw [hcj, ← hu]
            rcases j with _ | _ | _ | _ | _ | _ | _ | _ | j <;> first | rfl | omega
      have hsum := sum_le len (fun i => Rows.uptoBulk (D i)) D (fun i _ => Nat.le_refl _)
      have hsp : ∃ bb off, a = ⟨bb, off, none⟩ ∨ len = 0 := by
        rcases Nat.eq_zero_or_pos len with h0 | h0
        · exact ⟨0, 0, .inr h0⟩
        · obtain ⟨y, hy, _⟩ := hi 0 h0
          obtain ⟨bb, o, sp⟩ := a
          have hs : sp = none := by
            have := World.cell?_spot (hy 0 _ rfl)
            simpa [Addr.add] using this
          exact ⟨bb, o, .inl (by rw [hs])⟩
      rcases hsp with ⟨bb, off, rfl | h0⟩
      · refine .inr ⟨bb, off, rfl, (List.range len).map (fun i => Rows.uptoBulk (D i)), by simp, by omega, fun i v hv => ?_⟩
        have hil : i < len := by simpa using (List.getElem?_eq_some_iff.1 hv).1
        obtain ⟨y, hy, ho⟩ := hi i hil
        have e : v = Rows.uptoBulk (D i) := by
          rw [List.getElem?_map, List.getElem?_range hil] at hv
          simpa using hv.symm
        rw [e]
        exact ⟨y, fun j u hu => by
          have := hy j u hu
          rw [addr_add, ← Nat.add_assoc] at this
          exact this, ho⟩
      · exact .inl ⟨h0, by omega⟩
end
end Op
end Go.Proofs.Ytgodidoibcomcaa.Bk

namespace Go.Proofs.Ytgodidoibcomcaa.storeEachLaw
open Go.ChangeShapes Go.WideShapes Go.ChangeAt Go.RowKit Go.Joins

theorem own : ownKnob Try.prog.godebug = none := by kernel_rfl
theorem laidOut : laidOutB Try.prog = true := by kernel_rfl

set_option maxRecDepth 100000 in
theorem contract (H : Type) (enc : TypeId × Value → H) (W : World) (base : Nat) (args : Array Value) (ds gs : List (DataW H)) (before : List MemPlace)
    (hval0 : ∀ (j : Nat) t v, Try.f10.params[j]? = some t → args[j]? = some v → Value.okWide Try.prog W .any base t v)
    (hW : DataW.Whole enc Try.prog Try.f10.params.toList Rows.storeEachSpec.vars false W args.toList ds gs before) (hk : Rows.uptoSmall H (ds ++ gs) = true) :
    Calls Try.prog 10 args W fun e W' => ∃ v, e = .returned v ∧ Rows.storeEachSpec.post enc Try.prog Try.f10 false true false false W args v W' := by
  have hval : ∀ (j : Nat) t v, Try.f10.params[j]? = some t → args[j]? = some v → Value.okWide Try.prog W .any base t v := hval0
  have hW' := hW
  obtain ⟨p, q, hA0, hV, rfl, hfz, hnd⟩ := hW
  have hA : DataW.TrodAll enc Try.prog W 0 (fun _ => true) true Try.f10.params.toList args.toList ds p := hA0
  rw [Try.params10] at hA hval
  obtain ⟨v0, vs0, d0, ds0, p0, q0, hargs, rfl, rfl, h0, r0⟩ := trodAll_cons hA
  obtain ⟨v1, vs1, d1, ds1, p1, q1, rfl, rfl, rfl, h1, r1⟩ := trodAll_cons r0
  obtain ⟨rfl, rfl, rfl⟩ := trodAll_nil r1
  obtain rfl : args = #[v0, v1] := by cases args; simp_all
  obtain ⟨rfl, rfl⟩ := trodVars_none hV
  have k0 := h0
  have lt0 : ∀ x ∈ p0, x.block < W.heap.size := by obtain ⟨m, hm⟩ := k0; exact DataW.trod_lt m _ _ _ hm
  have k1 := h1
  have lt1 : ∀ x ∈ p1, x.block < W.heap.size := by obtain ⟨m, hm⟩ := k1; exact DataW.trod_lt m _ _ _ hm
  have hbulk := of_decide_eq_true hk
  simp only [List.append_nil] at hbulk
  simp only [Rows.uptoBulkAll] at hbulk
  obtain ⟨fu0, hf0⟩ := h0
  obtain ⟨ao0, av0, ac0, rfl⟩ := okWide_slice Try.underlying22 (hval 0 22 v0 rfl rfl)
  obtain ⟨a0, cp0, l0, ev0, S0, R0, M0, B0⟩ := Op.open_ints (by simpa [Value.cells] using hf0)
  rw [ev0] at hf0 k0 hW' ⊢
  simp only at B0
  unfold maxLen at M0
  obtain ⟨fu1, hf1⟩ := h1
  obtain ⟨ao1, av1, ac1, rfl⟩ := okWide_slice Try.underlying48 (hval 1 48 v1 rfl rfl)
  obtain ⟨a1, n1, cp1, ev1, S1⟩ := Bk.Op.open_opsE 1048576 fu1 _ _ (by simpa [Value.cells] using hf1) (by simp only; omega) (Nat.le_refl _)
  rw [ev1] at hf1 k1 hW' ⊢
  simp only at S1
  clear hA0 hval0
  simp only [List.append_nil] at hW'
  refine (Bk.eaches_any W a0 a1 cp0 cp1 n1 1048576 _ l0 S0 (by omega) S1 (by omega)).mono fun e W' ⟨he, bel⟩ => ?_
  subst he
  exact ⟨_, rfl, _, _, _, [], _, [], hW', trodAll_mk1 (shut_bool Try.underlying4 _), (trodAll_cons_mk (Below.trod laidOut (by kernel_rfl) (of_decide_eq_true (by kernel_rfl)) k0 bel lt0) (trodAll_cons_mk (Below.trod laidOut (by kernel_rfl) (of_decide_eq_true (by kernel_rfl)) k1 bel lt1) trodAll_mk0)), rfl, bel.frame _, fun h => by cases h⟩

set_option maxRecDepth 100000 in
theorem lifted (os : Os) (started : os.Started) (H : Type) (enc : TypeId × Value → H) (F : Stop.Interp) :
    ReturnsInHanded {} Try.checked os 10 .any ((Rows.OpenSpec.upto Rows.storeEachSpec).pre6 enc Try.prog Try.f10 Rows.storeEachUptoRow.domain false) (((Rows.OpenSpec.upto Rows.storeEachSpec).at F).post enc Try.prog Try.f10 false true false false) := by
  refine returnsInHanded_of_cond (C := Try.checked) (s := Rows.OpenSpec.upto Rows.storeEachSpec) (k := Rows.uptoSmall) rfl own started (by kernel_rfl) Try.func10
    (OpenSpec.witness (enc := enc) (C := Try.checked) (s := Rows.OpenSpec.upto Rows.storeEachSpec) (k := Rows.uptoSmall) rfl false ⟨#[], #[.slice none 0 0, .slice none 0 0], []⟩ 8 (by kernel_rfl) (by kernel_rfl) (by kernel_rfl)
      (x := ([.nil, .nil], [], [])) (by kernel_rfl) rfl (by kernel_rfl)) ?_
  intro W base args ds gs before hval hW _ hk _
  exact contract H enc W base args ds gs before hval hW hk

theorem proved : Rows.StoreEachUptoSaid :=
  OpenClaim.holds_of_cond 10 Try.f10 rfl rfl rfl rfl rfl rfl rfl ⟨rfl, rfl, rfl, rfl, rfl⟩ rfl rfl rfl rfl rfl (by kernel_rfl) Try.func10 (by kernel_rfl)
    (of_decide_eq_true (by kernel_rfl)) (by unfold Func.isWrapper; first | (rw [if_pos (by decide +kernel)]; kernel_rfl) | (rw [if_neg (by decide +kernel)]; exact ⟨rfl, rfl⟩))
    (fun os started H enc _ F => lifted os started H enc F)
#print axioms proved
end Go.Proofs.Ytgodidoibcomcaa.storeEachLaw
