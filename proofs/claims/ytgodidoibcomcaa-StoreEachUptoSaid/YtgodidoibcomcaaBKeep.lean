/-
  keep: a list that was handed out is written full, and one longer; both are put down with what stands in them.
-/
import Derived.Test.YtgodidoibcomcaaBBook
namespace Go.Proofs.Ytgodidoibcomcaa.Bk
open Go.RowKit Go.Proofs.Ytgodidoibcomcaa

theorem map_set_int (ys : List Int) (k : Nat) (z : Int) : (ys.set k z).map (Value.int .i64) = (ys.map (Value.int .i64)).set k (.int .i64 z) := List.map_set
/-- a cell of a row in a box is written -/
theorem BoxRow.set {C : List Box} {g n cap : Nat} {cur : Array Value} {ys : List Int} (h1 : (g, Obj.cells cur 3 (0, 0)) ∈ C) (hn : n ≤ cap) (hc : cap ≤ maxLen) (hs : cur.size = cap * 1) (ht : cur.toList.take (n * 1) = ys.map (Value.int .i64)) (hl : ys.length = n) {k : Nat} (z : Int) :
    BoxRow (upd C g (.cells (cur.setIfInBounds k (.int .i64 z)) 3 (0, 0))) 3 1 (.slice (some ⟨g, 0, none⟩) n cap) n ((ys.set k z).map (Value.int .i64)) := by
  refine ⟨by simp [hl], .inr ⟨g, cap, _, rfl, mem_upd h1, hn, hc, by simpa using hs, ?_⟩⟩
  rw [Array.toList_setIfInBounds, List.take_set, ht, map_set_int]

/-- between the rounds of keep -/
structure KLoop (w0 : World) (τ : Own) (S : List Ent) (β : Book) (C : List Box) (v : Value) (n : Nat) (w : World) (m : Int) (ys : List Int) (wr : World) (Cr : List Box) : Prop where
  E : Env w0 τ wr S [] Cr
  head : (β.bk, Obj.cells #[β.vS, β.vR, β.vL, .int .i64 m] 96 (0, 0)) ∈ Cr
  row : BoxRow Cr 3 1 v n (ys.map (Value.int .i64))
  len : ys.length = n
  old : ∀ x ∈ C, x.1 ≠ β.bk → v.ownBlock ≠ some x.1 → x ∈ Cr
  size : w.heap.size ≤ wr.heap.size

section
variable {w0 : World} {τ : Own} {S : List Ent} {β : Book} {C : List Box} {v : Value} {n : Nat} {w : World} {m : Int} {ys : List Int} {wr : World} {Cr : List Box}
theorem KLoop.tick (K : KLoop w0 τ S β C v n w m ys wr Cr) (hs : ∀ z ∈ S, z.s ≠ boxS) (m' : Int) : ∃ C', KLoop w0 τ S β C v n w m' ys (wr.setCell ⟨β.bk, 3, none⟩ (.int .i64 m')) C' := by
  have hne : v.ownBlock ≠ some β.bk := K.row.apartHead K.head K.E (by decide)
  refine ⟨_, K.E.setAt hs K.head 3 (.int .i64 m'), mem_upd K.head, K.row.mono fun x hx hv => mem_upd_ne hx (fun e => hne (by rw [hv, e])), K.len, fun x hx h1 h2 => mem_upd_ne (K.old x hx h1 h2) h1, by simpa using K.size⟩
theorem KLoop.at (K : KLoop w0 τ S β C v n w m ys wr Cr) (hs : ∀ z ∈ S, z.s ≠ boxS) {k : Nat} (hk : k < n) : ∃ g cap x, v = .slice (some ⟨g, 0, none⟩) n cap ∧ g ≠ β.bk ∧ wr.cell? ⟨g, k, none⟩ = some (.int .i64 x) ∧ wr.frozen? ⟨g, k, none⟩ = false ∧
    ∀ z, ∃ C', KLoop w0 τ S β C v n w m (ys.set k z) (wr.setCell ⟨g, k, none⟩ (.int .i64 z)) C' := by
  have hne : v.ownBlock ≠ some β.bk := K.row.apartHead K.head K.E (by decide)
  rcases K.row with ⟨h1, ⟨h2, h3⟩ | ⟨g, cap, cur, rfl, h4, h5, h6, h7, h8⟩⟩
  · omega
  · have hx : (ys.map (Value.int .i64))[k]? = some (.int .i64 (ys[k]'(by rw [K.len]; exact hk))) := by rw [List.getElem?_map, List.getElem?_eq_getElem (by rw [K.len]; exact hk)]; rfl
    have hcur : cur[k]? = some (.int .i64 (ys[k]'(by rw [K.len]; exact hk))) := by
      rw [← h8, List.getElem?_take, if_pos (by omega)] at hx
      simpa using hx
    have hc := K.E.cellAt h4 hcur
    refine ⟨g, cap, _, rfl, fun e => hne (by rw [e]; rfl), hc.1, hc.2, fun z => ⟨_, K.E.setAt hs h4 k (.int .i64 z), mem_upd_ne K.head (fun e => hne (congrArg some e).symm), BoxRow.set h4 h5 h6 h7 h8 K.len z, by simpa using K.len, fun x hx h1 h2 => mem_upd_ne (K.old x hx h1 h2) (fun e => h2 (by rw [e]; rfl)), by simpa using K.size⟩⟩

/-- what keep leaves -/
def KeepEnd (w0 : World) (S : List Ent) (β : Book) (C : List Box) (v : Value) (n : Nat) (w : World) (e : Ending) (w' : World) : Prop :=
  ∃ τ' C' vL' lists', e = .returned (.tuple #[]) ∧ Env w0 τ' w' S [] C' ∧ BookOk { β with vL := vL', next := β.next + n + 1, lists := lists' } C' ∧ lists'.length = β.lists.length + 2 ∧ w.heap.size ≤ w'.heap.size ∧
    (∀ x ∈ C, x.1 ≠ β.bk → v.ownBlock ≠ some x.1 → β.vL.ownBlock ≠ some x.1 → x ∈ C') ∧ (vL'.ownBlock = β.vL.ownBlock ∨ ∃ g, vL'.ownBlock = some g ∧ w.heap.size ≤ g) ∧
    ∀ u, Off β u → (∀ g, u.ownBlock = some g → g < w.heap.size ∧ v.ownBlock ≠ some g) → Off { β with lists := lists' } u

/-- both rows of marks stand -/
structure KA (w0 : World) (S : List Ent) (β : Book) (C : List Box) (v : Value) (n : Nat) (w : World) (m : Int) (v2 : Value) (ys zs : List Int) (τ : Own) (W : World) (Cr : List Box) : Prop where
  E : Env w0 τ W S [] Cr
  head : (β.bk, Obj.cells #[β.vS, β.vR, β.vL, .int .i64 m] 96 (0, 0)) ∈ Cr
  r1 : BoxRow Cr 3 1 v n (ys.map (Value.int .i64))
  r2 : BoxRow Cr 3 1 v2 (n + 1) (zs.map (Value.int .i64))
  l1 : ys.length = n
  l2 : zs.length = n + 1
  old : ∀ x ∈ C, x.1 ≠ β.bk → v.ownBlock ≠ some x.1 → x ∈ Cr
  size : w.heap.size ≤ W.heap.size
  f2 : ∀ g, v2.ownBlock = some g → v.ownBlock = some g ∨ w.heap.size ≤ g
theorem KA.sub {v2 : Value} {zs : List Int} {τ' : Own} {W W' : World} {C1 C2 : List Box} (K : KA w0 S β C v n w m v2 ys zs τ W C1) (E' : Env w0 τ' W' S [] C2) (h : ∀ x ∈ C1, x ∈ C2) (hsz : W.heap.size ≤ W'.heap.size) : KA w0 S β C v n w m v2 ys zs τ' W' C2 :=
  ⟨E', h _ K.head, K.r1.mono fun x hx _ => h x hx, K.r2.mono fun x hx _ => h x hx, K.l1, K.l2, fun x hx h1 h2 => h x (K.old x hx h1 h2), Nat.le_trans K.size hsz, K.f2⟩
theorem KLoop.more (K : KLoop w0 τ S β C v n w m ys wr Cr) (hs : ∀ z ∈ S, z.s ≠ boxS) {wA w2 : World} {v2 : Value} {z : Int} (hbA : Below wr.heap.size wr wA) (hown : w2.ownsRow 0 3 1 v2 (n + 1) (ys.map (Value.int .i64) ++ [.int .i64 z]))
    (hg : (∃ a cap, v = .slice a n cap ∧ v2 = .slice a (n + 1) cap ∧ wA.grownBy w2 v.ownBlock) ∨ (v2.ownBlock = some wA.heap.size ∧ wA.grownBy w2 none)) : ∃ τ' C', KA w0 S β C v n w m v2 ys (ys ++ [z]) τ' w2 C' := by
  have hne : v.ownBlock ≠ some β.bk := K.row.apartHead K.head K.E (by decide)
  have hsz : wr.heap.size ≤ w2.heap.size := Nat.le_trans hbA.size (by rcases hg with ⟨_, _, _, _, h⟩ | ⟨_, h⟩ <;> exact h.size)
  obtain ⟨τ', C', E', hr, hk, _, ha⟩ := K.row.grow K.E hs hbA hown hg
  refine ⟨τ', C', E', hk _ K.head hne, ?_, by rw [List.map_append]; exact hr, K.len, by simp [K.len], fun x hx h1 h2 => hk x (K.old x hx h1 h2) h2, Nat.le_trans K.size hsz, fun g hgv => ?_⟩
  · rcases hg with ⟨a, cap, h1, h2, _⟩ | ⟨h1, _⟩
    · rw [h2] at hr
      have h5 := K.row
      rw [h1] at h5 ⊢
      exact h5.before hr
    · rcases ha with ha | ⟨ha, _⟩
      · refine K.row.mono fun x hx hv => absurd ?_ (Nat.lt_irrefl x.1)
        have hx2 := (K.E.boxes x hx).2
        have hlt := (Array.getElem?_eq_some_iff.1 hx2).1
        have : wA.heap.size = x.1 := by rw [h1, hv] at ha; exact Option.some.inj ha
        have := hbA.size
        omega
      · exact K.row.mono fun x hx _ => ha x hx
  · rcases hg with ⟨a, cap, h1, h2, _⟩ | ⟨h1, _⟩
    · exact .inl (by rw [h1]; rw [h2] at hgv; cases a <;> exact hgv)
    · rw [h1] at hgv
      cases hgv
      exact .inr (Nat.le_trans K.size hbA.size)
theorem KA.lsRow {v2 : Value} {zs : List Int} {τ : Own} {W : World} {C4 : List Box} (K : KA w0 S β C v n w m v2 ys zs τ W C4) {τ0 : Own} (E0 : Env w0 τ0 w S [] C) (B : BookOk β C) {us0 : List Value} (hv0 : BoxRow C 3 1 v n us0) : BoxRow C4 102 2 β.vL β.lists.length (β.lists.flatMap fun x => [x.1, x.2]) :=
  B.ls.mono fun x hx hb => K.old x hx (fun e' => B.ls.apartHead B.head E0 (by decide) (by rw [hb, e'])) (fun e' => hv0.apart B.ls E0 (by decide) e' hb)
theorem BoxRow.ints {L : List RSl} {a : Option Addr} {c : Nat} (h : BoxRow C 3 1 (.slice a n c) n (ys.map (Value.int .i64))) (E : Env w0 τ w S L C) (hl : ys.length = n) : Ints w a ys := by
  have := h.owns E
  subst hl
  obtain ⟨a', c', e, hI⟩ := intsZ_of_row this
  simp only [Value.slice.injEq] at e
  obtain ⟨rfl, _, rfl⟩ := e
  exact hI.ints
theorem cells_new (w : World) (cs : List Value) (ty : TypeId) : ∀ j u, cs[j]? = some u → (w.alloc (.cells cs.toArray ty)).cell? ((⟨w.heap.size, 0, none⟩ : Addr).add j) = some u := by
  rcases source_new w cs ty with ⟨h, _⟩ | ⟨ad, h1, h2⟩
  · cases h
  · cases h1; exact h2
theorem two_block {wA w5 : World} {v v' : Value} {n k b : Nat} (hg : (∃ a cap, v = .slice a n cap ∧ v' = .slice a k cap ∧ wA.grownBy w5 v.ownBlock) ∨ (v'.ownBlock = some wA.heap.size ∧ wA.grownBy w5 none)) (hlt : b < wA.heap.size) (hne : v.ownBlock ≠ some b) : w5.heap[b]? = wA.heap[b]? := by
  rcases hg with ⟨_, _, _, _, h⟩ | ⟨_, h⟩
  · exact h.block b hlt (fun e => hne e.symm)
  · exact h.block b hlt (by simp)
theorem KA.fin {v2 M1 M2 vL' : Value} {zs : List Int} {τ : Own} {W wA w5 : World} {C4 : List Box} (K : KA w0 S β C v n w (β.next + n + 1) v2 ys zs τ W C4) {τ0 : Own} (E0 : Env w0 τ0 w S [] C) (hs : ∀ z ∈ S, z.s ≠ boxS) (B : BookOk β C) (hoff : Off β v) {us0 : List Value} (hv0 : BoxRow C 3 1 v n us0)
    (q1 : BoxRow C4 3 1 M1 n (ys.map (Value.int .i64))) (q2 : BoxRow C4 3 1 M2 (n + 1) (zs.map (Value.int .i64))) (f1 : ∀ g, M1.ownBlock = some g → w.heap.size ≤ g) (f2 : ∀ g, M2.ownBlock = some g → w.heap.size ≤ g)
    (hbA : Below W.heap.size W wA) (hown : w5.ownsRow 0 102 2 vL' (β.lists.length + 2) ((β.lists.flatMap fun x => [x.1, x.2]) ++ [v, M1, v2, M2]))
    (hg : (∃ a cap, β.vL = .slice a β.lists.length cap ∧ vL' = .slice a (β.lists.length + 2) cap ∧ wA.grownBy w5 β.vL.ownBlock) ∨ (vL'.ownBlock = some wA.heap.size ∧ wA.grownBy w5 none)) :
    KeepEnd w0 S β C v n w (.returned (.tuple #[])) (w5.setCell ⟨β.bk, 2, none⟩ vL') := by
  -- a row of C in other blocks than the head's and v's is one of C4
  have up : ∀ {e : TypeId} {size k : Nat} {u : Value} {us : List Value}, BoxRow C e size u k us → e ≠ 96 → (∀ g, v.ownBlock = some g → u.ownBlock ≠ some g) → BoxRow C4 e size u k us := fun h he hv => h.mono fun x hx hb => K.old x hx (fun e' => h.apartHead B.head E0 he (by rw [hb, e'])) (fun e' => hv _ e' hb)
  have vne : ∀ {e : TypeId} {size k : Nat} {u : Value} {us : List Value}, BoxRow C e size u k us → e ≠ 3 → ∀ g, v.ownBlock = some g → u.ownBlock ≠ some g := fun h he g hg => hv0.apart h E0 (Ne.symm he) hg
  have ls4 := up B.ls (by decide) (vne B.ls (by decide))
  obtain ⟨τ5, C5, E5, rL, keep5, back5, alt5⟩ := ls4.grow K.E hs hbA hown hg
  have head5 := keep5 _ K.head (ls4.apartHead K.head K.E (by decide))
  have E6 := E5.setAt hs head5 2 vL'
  have up46 : ∀ {e : TypeId} {size k : Nat} {u : Value} {us : List Value}, BoxRow C4 e size u k us → e ≠ 96 → e ≠ 102 → BoxRow (upd C5 β.bk (.cells ((#[β.vS, β.vR, β.vL, .int .i64 (β.next + n + 1)] : Array Value).setIfInBounds 2 vL') 96 (0, 0))) e size u k us := fun h he hl => h.mono fun x hx hb =>
    mem_upd_ne (keep5 x hx (fun e' => ls4.apart h K.E (Ne.symm hl) e' hb)) (fun e' => h.apartHead K.head K.E he (by rw [hb, e']))
  have hsz : W.heap.size ≤ w5.heap.size := Nat.le_trans hbA.size (by rcases hg with ⟨_, _, _, _, h⟩ | ⟨_, h⟩ <;> exact h.size)
  refine ⟨τ5, _, vL', β.lists ++ [(v, M1), (v2, M2)], rfl, E6, ⟨mem_upd head5, up46 (up B.st (by decide) (vne B.st (by decide))) (by decide) (by decide), up46 (up B.rf (by decide) (vne B.rf (by decide))) (by decide) (by decide), ?_, fun x hx => ?_, B.many, B.pos⟩, by simp, by simpa using Nat.le_trans K.size hsz, fun x hx h1 h2 h3 => mem_upd_ne (keep5 x (K.old x hx h1 h2) h3) h1, ?_, fun u hu hug x hx g hgu => ?_⟩
  · have : (β.lists ++ [(v, M1), (v2, M2)]).length = β.lists.length + 2 := by simp
    show BoxRow _ _ 2 vL' (β.lists ++ [(v, M1), (v2, M2)]).length ((β.lists ++ [(v, M1), (v2, M2)]).flatMap fun x => [x.1, x.2])
    rw [this, List.flatMap_append]
    exact rL.mono fun x hx hb => mem_upd_ne hx (fun e' => rL.apartHead head5 E5 (by decide) (by rw [hb, e']))
  · rcases List.mem_append.1 hx with hx | hx
    · obtain ⟨us, h1, h2⟩ := B.kept x hx
      exact ⟨us, up46 (up h1 (by decide) (fun g hg => (hoff x hx g hg).1)) (by decide) (by decide), up46 (up h2 (by decide) (fun g hg => (hoff x hx g hg).2)) (by decide) (by decide)⟩
    · rcases List.mem_cons.1 hx with rfl | hx
      · exact ⟨ys, by rw [K.l1]; exact up46 K.r1 (by decide) (by decide), by rw [K.l1]; exact up46 q1 (by decide) (by decide)⟩
      · rw [List.mem_singleton] at hx
        subst hx
        exact ⟨zs, by rw [K.l2]; exact up46 K.r2 (by decide) (by decide), by rw [K.l2]; exact up46 q2 (by decide) (by decide)⟩
  · rcases hg with ⟨a, cap, h1, h2, _⟩ | ⟨h1, _⟩
    · exact .inl (by rw [h1, h2]; cases a <;> rfl)
    · exact .inr ⟨_, h1, Nat.le_trans K.size hbA.size⟩
  · obtain ⟨hlt, hvg⟩ := hug g hgu
    rcases List.mem_append.1 hx with hx | hx
    · exact hu x hx g hgu
    · rcases List.mem_cons.1 hx with rfl | hx
      · exact ⟨hvg, fun e => by have := f1 g e; omega⟩
      · rw [List.mem_singleton] at hx
        subst hx
        exact ⟨fun e => by rcases K.f2 g e with h | h; exact hvg h; omega, fun e => by have := f2 g e; omega⟩

set_option linter.unusedSimpArgs false in
set_option maxHeartbeats 8000000 in
set_option maxRecDepth 8000 in
theorem keep_any (E : Env w0 τ w S [] C) (hs : ∀ z ∈ S, z.s ≠ boxS) (B : BookOk β C) (xs : List Int) (hrow : BoxRow C 3 1 v xs.length (xs.map (Value.int .i64))) (hoff : Off β v) (hn : xs.length ≤ 1000000000) (h0 : 0 ≤ β.next) (hnext : β.next + xs.length + 1 ≤ 1000000000000000) (hll : (β.lists.length + 2) * 48 ≤ 140737488355328) :
    Calls Try.prog 58 #[.pointer (some ⟨β.bk, 0, none⟩), v] w (KeepEnd w0 S β C v xs.length w) := by
  obtain ⟨n, hne⟩ : ∃ n, xs.length = n := ⟨_, rfl⟩
  rw [hne] at hrow hn hnext ⊢
  have K0 : KLoop w0 τ S β C v n w β.next xs w C := ⟨E, B.head, hrow, hne, fun x hx _ _ => hx, Nat.le_refl _⟩
  obtain ⟨av, cv, rfl⟩ := hrow.shape
  have HK0 := Lib.hid K0
  have HB := Lib.hid B
  have HO := Lib.hid hoff
  have HE := Lib.hid E
  have HS := Lib.hid hs
  obtain ⟨bk, hbk⟩ : ∃ b, β.bk = b := ⟨_, rfl⟩
  obtain ⟨N0, hN0⟩ : ∃ b, β.next = b := ⟨_, rfl⟩
  have Hbk := Lib.hid hbk
  have HN0 := Lib.hid hN0
  rw [hN0] at h0 hnext HK0
  rw [hbk]
  clear K0 B hoff E hs hrow hne hbk hN0
  go_enter Try.func58, Try.ntmps58
  go_wp2
  go_loopw [4] (fun i wr => ∃ (k : Nat) (ys : List Int) (Cr : List Box), k ≤ n ∧ i = .int .i64 k ∧ Hid (KLoop w0 τ S β C (.slice av n cv) n w (N0 + k) ys wr Cr)) (fun i _ => n - (intOf i).toNat)
  case atStart => exact ⟨0, xs, C, Nat.zero_le _, rfl, by simpa using HK0⟩
  case round =>
    obtain ⟨k, ys, Cr, hk, rfl, HK⟩ := hrel
    obtain ⟨d3, f3⟩ := HK.out.E.cellAt HK.out.head (j := 3) rfl
    rw [Hbk.out] at d3 f3
    by_cases hlt : k < n
    · obtain ⟨C1, K1⟩ := HK.out.tick HS.out (N0 + k + 1)
      obtain ⟨g, cap, x, hv, hgb, dg, fg, hset⟩ := K1.at HS.out hlt
      rw [Hbk.out] at hgb dg fg hset
      cases hv
      obtain ⟨e3, -⟩ := K1.E.cellAt K1.head (j := 3) rfl
      rw [Hbk.out] at e3
      obtain ⟨C2, K2⟩ := hset (-1000 - (N0 + k + 1))
      have HK2 := Lib.hid K2
      obtain ⟨W1, hW1⟩ : ∃ W, W = wr.setCell ⟨bk, 3, none⟩ (.int .i64 (N0 + k + 1)) := ⟨_, rfl⟩
      rw [← hW1] at dg fg e3 HK2
      clear hset K1 K2
      go_upto_region 4 with fail
      rw [← hW1]
      clear hW1
      go_wp2_with fail
      go_roundw
      case rel => exact ⟨k + 1, _, C2, by omega, by go_num, by
        have e : N0 + ((k + 1 : Nat) : Int) = N0 + k + 1 := by omega
        rw [e]; exact HK2⟩
      case measure => simp [intOf]; omega
    · have hke : k = n := by omega
      rw [hke] at HK
      obtain ⟨C1, K1⟩ := HK.out.tick HS.out (N0 + n + 1)
      obtain ⟨e3, -⟩ := K1.E.cellAt K1.head (j := 3) rfl
      rw [Hbk.out] at e3 K1
      have HK1 := Lib.hid K1
      obtain ⟨W1, hW1⟩ : ∃ W, W = wr.setCell ⟨bk, 3, none⟩ (.int .i64 (N0 + n + 1)) := ⟨_, rfl⟩
      rw [← hW1] at HK1 e3
      obtain ⟨VA, hVA⟩ : ∃ W, W = W1.alloc (.cells #[.int .i64 (-1000 - (N0 + n + 1))] 3) := ⟨_, rfl⟩
      have bA : Below W1.heap.size W1 VA := by rw [hVA]; exact (Below.refl _ _).alloc (Nat.le_refl _) _
      have srcA : ∀ j u, [Value.int .i64 (-1000 - (N0 + n + 1))][j]? = some u → VA.cell? ((⟨W1.heap.size, 0, none⟩ : Addr).add j) = some u := by rw [hVA]; exact cells_new W1 [.int .i64 (-1000 - (N0 + n + 1))] 3
      have hownA := owns_below (HK1.out.row.owns HK1.out.E) bA (Nat.le_refl _)
      have HVA := Lib.hid hVA
      clear K1 hVA
      go_upto_region 6 with fail
      rw [← hW1]
      clear hW1 d3 f3
      go_upto_region 7 with (first | (at_builtin; rw [← HVA.out]; refine wpList_append_two elemInt _ rfl _ _ rfl 0 _ n (ys.map (Value.int .i64)) rfl hownA ⟨W1.heap.size, 0, none⟩ 1 1 [.int .i64 (-1000 - (N0 + n + 1))] rfl srcA rfl (by simp [Value.oneCell']) (by unfold maxLen; omega) (by omega) (Nat.zero_le _) ?_; intro v2 W2 hown2 hg2))
      obtain ⟨τ2, C2, K2⟩ := HK1.out.more HS.out bA hown2 hg2
      obtain ⟨a2, c2, rfl⟩ := K2.r2.shape
      obtain ⟨zs, hzs⟩ : ∃ zs, ys ++ [-1000 - (N0 + n + 1)] = zs := ⟨_, rfl⟩
      rw [hzs] at K2
      obtain ⟨aL, cL, hvL⟩ := HB.out.ls.shape
      have HvL := Lib.hid hvL
      obtain ⟨nl, hnl⟩ : ∃ k, β.lists.length = k := ⟨_, rfl⟩
      have Hnl := Lib.hid hnl
      have HK2 := Lib.hid K2
      rw [hnl] at hll
      clear K2 hown2 hg2 hzs hvL hnl HK1 HK hownA srcA bA HVA e3
      have hrow2 := HK0.out.row
      have HR0 := Lib.hid hrow2
      clear hrow2
      obtain ⟨V1, hV1⟩ : ∃ V, V = W2.drew := ⟨_, rfl⟩
      have hB1 : Below W2.heap.size W2 V1 := by rw [hV1]; exact (Below.refl _ _).drew
      have HK1 := Lib.hid (HK2.out.sub (HK2.out.E.stay hB1) (fun x h => h) hB1.size)
      refine wp_region_noPanic ?_
      refine wp_region_held_drew (S := (fun _ => True)) (by kernel_rfl) ?_ (fun hHeld => ?_)
      · exact trivial
      rw [← hV1]
      clear hV1
      refine wpAnyH_take (i := 0) (oi := ⟨some 42, _, _, _, _, _⟩) (v := ?_) rfl (by kernel_rfl) (by kernel_rfl) (by kernel_rfl) (fun _ _ _ h => h) (Or.inl ⟨by rfl, ?_⟩) (by assumption) ?_
      rotate_left 1
      · intro w hSw
        (try dsimp only at hSw)
        go_simp
        all_goals with_reducible rfl
      (try simp only [Act.put, List.setIfInBounds_toArray, List.set_cons_zero, List.set_cons_succ])
      refine wpAnyH_take (i := 1) (oi := ⟨some 43, _, _, _, _, _⟩) (v := ?_) rfl (by kernel_rfl) (by kernel_rfl) (by kernel_rfl) (fun _ _ _ h => h) (Or.inl ⟨by rfl, ?_⟩) (by assumption) ?_
      rotate_left 1
      · intro w hSw
        (try dsimp only at hSw)
        go_simp
        all_goals with_reducible rfl
      (try simp only [Act.put, List.setIfInBounds_toArray, List.set_cons_zero, List.set_cons_succ])
      refine wpAnyH_take (i := 2) (oi := ⟨some 44, _, _, _, _, _⟩) (v := ?_) rfl (by kernel_rfl) (by kernel_rfl) (by kernel_rfl) (fun _ _ _ h => h) (Or.inl ⟨by rfl, ?_⟩) (by assumption) ?_
      rotate_left 1
      · intro w hSw
        (try dsimp only at hSw)
        go_simp
        all_goals with_reducible rfl
      (try simp only [Act.put, List.setIfInBounds_toArray, List.set_cons_zero, List.set_cons_succ])
      refine wpAnyH_take (i := 3) (oi := ⟨some 45, _, _, _, _, _⟩) (v := ?_) rfl (by kernel_rfl) (by kernel_rfl) (by kernel_rfl) (fun _ _ _ h => h) (Or.inl ⟨by rfl, ?_⟩) (by assumption) ?_
      rotate_left 1
      · intro w hSw
        (try dsimp only at hSw)
        go_simp
        all_goals with_reducible rfl
      (try simp only [Act.put, List.setIfInBounds_toArray, List.set_cons_zero, List.set_cons_succ])
      refine wpAnyH_take (i := 5) (oi := ⟨some 47, _, _, _, _, _⟩) (v := ?_) rfl (by kernel_rfl) (by kernel_rfl) (by kernel_rfl) (fun _ _ _ h => h) (Or.inl ⟨by rfl, ?_⟩) (by assumption) ?_
      rotate_left 1
      · intro w hSw
        (try dsimp only at hSw)
        go_simp
        all_goals with_reducible rfl
      (try simp only [Act.put, List.setIfInBounds_toArray, List.set_cons_zero, List.set_cons_succ])
      refine wpAnyH_take (i := 6) (oi := ⟨some 48, _, _, _, _, _⟩) (v := ?_) rfl (by kernel_rfl) (by kernel_rfl) (by kernel_rfl) (fun _ _ _ h => h) (Or.inl ⟨by rfl, ?_⟩) (by assumption) ?_
      rotate_left 1
      · intro w hSw
        (try dsimp only at hSw)
        go_simp
        all_goals with_reducible rfl
      (try simp only [Act.put, List.setIfInBounds_toArray, List.set_cons_zero, List.set_cons_succ])
      refine wpAnyH_take (i := 9) (oi := ⟨some 51, _, _, _, _, _⟩) (v := ?_) rfl (by kernel_rfl) (by kernel_rfl) (by kernel_rfl) (fun _ _ _ h => h) (Or.inl ⟨by rfl, ?_⟩) (by assumption) ?_
      rotate_left 1
      · intro w hSw
        (try dsimp only at hSw)
        go_simp
        all_goals with_reducible rfl
      (try simp only [Act.put, List.setIfInBounds_toArray, List.set_cons_zero, List.set_cons_succ])
      refine wpAnyH_take (i := 10) (oi := ⟨some 52, _, _, _, _, _⟩) (v := ?_) rfl (by kernel_rfl) (by kernel_rfl) (by kernel_rfl) (fun _ _ _ h => h) (Or.inl ⟨by rfl, ?_⟩) (by assumption) ?_
      rotate_left 1
      · intro w hSw
        (try dsimp only at hSw)
        go_simp
        all_goals with_reducible rfl
      (try simp only [Act.put, List.setIfInBounds_toArray, List.set_cons_zero, List.set_cons_succ])
      refine wpAnyH_ready (rs := [4, 7]) (by kernel_rfl) (by simp) ?_
      refine AllReadyH.cons (o := _) rfl (fun K hK => ?_) ?_
      · have dL := (HK1.out.E.cellAt HK1.out.head (j := 2) rfl).1
        rw [Hbk.out, show (#[β.vS, β.vR, β.vL, Value.int .i64 (N0 + n + 1)] : Array Value)[2] = β.vL from rfl, HvL.out, Hnl.out] at dL
        go_simp
        refine hK.out _ _ ?_ (fun hHeld => ?_)
        · exact trivial
        clear hK K
        (try simp only [Act.put, List.setIfInBounds_toArray, List.set_cons_zero, List.set_cons_succ])
        refine wpAnyH_ready (rs := [7]) (by kernel_rfl) (by simp) ?_
        refine AllReadyH.cons (o := _) rfl (fun K hK => ?_) ?_
        · have cK := lints_own av cv ys _ (HK1.out.r1.ints HK1.out.E HK1.out.l1) (by have := HK1.out.l1; omega)
          rw [HK1.out.l1] at cK
          go_simp
          with_reducible refine cK.mono ?_
          rintro e V3 ⟨x3, rfl, hI3, hb3⟩
          obtain ⟨aM1, cM1, rfl⟩ := owns_shape hI3
          obtain ⟨t3, C3, E3, rM3, sub3, -⟩ := BoxRow.ofOwns HK1.out.E hb3 hI3 (Nat.le_refl _)
          have fM1 : Hid (∀ g, (Value.slice aM1 ys.length cM1).ownBlock = some g → w.heap.size ≤ g) := Lib.hid (fun g e => Nat.le_trans HK1.out.size (hI3.lt g e).1)
          have HK103 := Lib.hid (HK1.out.sub E3 sub3 hb3.size)
          have HM3 := Lib.hid rM3
          rw [HK1.out.l1] at fM1 HM3 ⊢
          clear E3 rM3 sub3 hI3 hb3
          refine hK.out _ _ ?_ (fun hHeld => ?_)
          · exact trivial
          clear hK K
          (try simp only [Act.put, List.setIfInBounds_toArray, List.set_cons_zero, List.set_cons_succ])
          refine wpAnyH_take (i := 8) (oi := ⟨some 50, _, _, _, _, _⟩) (v := ?_) rfl (by kernel_rfl) (by kernel_rfl) (by kernel_rfl) (fun _ _ _ h => h) (Or.inl ⟨by rfl, ?_⟩) (by assumption) ?_
          rotate_left 1
          · intro w hSw
            (try dsimp only at hSw)
            go_simp
            all_goals with_reducible rfl
          (try simp only [Act.put, List.setIfInBounds_toArray, List.set_cons_zero, List.set_cons_succ])
          refine wpAnyH_ready (rs := [11]) (by kernel_rfl) (by simp) ?_
          refine AllReadyH.cons (o := _) rfl (fun K hK => ?_) ?_
          · have cK := lints_own a2 c2 zs _ (HK103.out.r2.ints HK103.out.E HK103.out.l2) (by have := HK103.out.l2; omega)
            rw [HK103.out.l2] at cK
            go_simp
            with_reducible refine cK.mono ?_
            rintro e V4 ⟨x4, rfl, hI4, hb4⟩
            obtain ⟨aM2, cM2, rfl⟩ := owns_shape hI4
            obtain ⟨t4, C4, E4, rM4, sub4, -⟩ := BoxRow.ofOwns HK103.out.E hb4 hI4 (Nat.le_refl _)
            have fM2 : Hid (∀ g, (Value.slice aM2 zs.length cM2).ownBlock = some g → w.heap.size ≤ g) := Lib.hid (fun g e => Nat.le_trans HK103.out.size (hI4.lt g e).1)
            have HK104 := Lib.hid (HK103.out.sub E4 sub4 hb4.size)
            have HM4 := Lib.hid rM4
            have HM4' := Lib.hid (HM3.out.mono fun x hx _ => sub4 x hx)
            rw [HK103.out.l2] at fM2 HM4 ⊢
            clear E4 rM4 sub4 hI4 hb4
            refine hK.out _ _ ?_ (fun hHeld => ?_)
            · exact trivial
            clear hK K
            (try simp only [Act.put, List.setIfInBounds_toArray, List.set_cons_zero, List.set_cons_succ])
            refine wpAnyH_take (i := 12) (oi := ⟨some 54, _, _, _, _, _⟩) (v := ?_) rfl (by kernel_rfl) (by kernel_rfl) (by kernel_rfl) (fun _ _ _ h => h) (Or.inl ⟨by rfl, ?_⟩) (by assumption) ?_
            rotate_left 1
            · intro w hSw
              (try dsimp only at hSw)
              go_simp
              all_goals with_reducible rfl
            (try simp only [Act.put, List.setIfInBounds_toArray, List.set_cons_zero, List.set_cons_succ])
            refine wpAnyH_ready (rs := [13]) (by kernel_rfl) (by simp) ?_
            refine AllReadyH.cons (o := _) rfl (fun K hK => ?_) ?_
            · go_simp
              obtain ⟨V5, hV5⟩ : ∃ W, W = V4.alloc (.cells #[.slice av n cv, .slice aM1 n cM1, .slice a2 (n + 1) c2, .slice aM2 (n + 1) cM2] 102) := ⟨_, rfl⟩
              obtain ⟨q5, hq5⟩ : ∃ b, b = V4.heap.size := ⟨_, rfl⟩
              rw [← hV5, ← hq5]
              have hb5 : Below V4.heap.size V4 V5 := by rw [hV5]; exact (Below.refl _ _).alloc (Nat.le_refl _) _
              have src5 : ∀ (j : Nat) (u : Value), ([.slice av n cv, .slice aM1 n cM1, .slice a2 (n + 1) c2, .slice aM2 (n + 1) cM2] : List Value)[j]? = some u → V5.cell? ((⟨q5, 0, none⟩ : Addr).add j) = some u := by rw [hV5, hq5]; exact cells_new V4 [.slice av n cv, .slice aM1 n cM1, .slice a2 (n + 1) c2, .slice aM2 (n + 1) cM2] 102
              have ho5 := owns_below ((HK104.out.lsRow HE.out HB.out HR0.out).owns HK104.out.E) hb5 (Nat.le_refl _)
              rw [HvL.out, Hnl.out] at ho5
              clear hV5 hq5
              refine hK.out _ _ ?_ (fun hHeld => ?_)
              · exact trivial
              clear hK K
              (try simp only [Act.put, List.setIfInBounds_toArray, List.set_cons_zero, List.set_cons_succ])
              refine wpAnyH_ready (rs := [14]) (by kernel_rfl) (by simp) ?_
              refine AllReadyH.cons (o := _) rfl (fun K hK => ?_) ?_
              · refine step_append_two elemList _ rfl _ _ rfl 0 _ nl _ rfl ho5 ⟨q5, 0, none⟩ 2 2 [.slice av n cv, .slice aM1 n cM1, .slice a2 (n + 1) c2, .slice aM2 (n + 1) cM2] rfl src5 rfl (by simp [Value.oneCell']) (by unfold maxLen; omega) (by omega) (Nat.zero_le _) ?_
                intro v6 V6 hown6 hg6
                obtain ⟨x6, y6, rfl⟩ := owns_slice (n := nl + 1) hown6
                have hlt6 : bk < V5.heap.size := by have := World.block_lt_of_cell? _ _ (on_cell hb5 (HK104.out.E.cellAt HK104.out.head (j := 2) rfl).1); rw [Hbk.out] at this; exact this
                have hne6 := (HK104.out.lsRow HE.out HB.out HR0.out).apartHead HK104.out.head HK104.out.E (by decide)
                rw [HvL.out, Hbk.out] at hne6
                have hbk6 := two_block hg6 hlt6 (by rw [← Hnl.out]; exact hne6)
                have dd := on_cell hb5 (HK104.out.E.cellAt HK104.out.head (j := 2) rfl).1
                rw [Hbk.out, show (#[β.vS, β.vR, β.vL, Value.int .i64 (N0 + n + 1)] : Array Value)[2] = β.vL from rfl, HvL.out, Hnl.out] at dd
                have ff := (HK104.out.E.cellAt HK104.out.head (j := 2) rfl).2
                rw [Hbk.out] at ff
                have d6 := (World.cell?_of_block (w := V5) (a := ⟨bk, 2, none⟩) hbk6).trans dd
                have z6 : V6.frozen? ⟨bk, 2, none⟩ = false := (World.frozen?_of_block (w := V5) (a := ⟨bk, 2, none⟩) hbk6).trans ((hb5.frozen (p := ⟨bk, 2, none⟩) (by have := World.block_lt_of_cell? _ _ (HK104.out.E.cellAt HK104.out.head (j := 2) rfl).1; rw [Hbk.out] at this; exact this)).trans ff)
                have hfin6 : Hid (KeepEnd w0 S β C (.slice av n cv) n w (.returned (.tuple #[])) (V6.setCell ⟨bk, 2, none⟩ (.slice (some ⟨x6, 0, none⟩) (nl + 2) y6))) := Lib.hid (by
                  have h := KA.fin (by rw [HN0.out]; exact HK104.out) HE.out HS.out HB.out HO.out HR0.out HM4'.out HM4.out fM1.out fM2.out hb5 (by rw [Hnl.out]; exact hown6) (by rw [HvL.out, Hnl.out]; exact hg6)
                  rw [Hbk.out] at h; exact h)
                clear hown6 hg6 dd ff hbk6 hne6
                refine hK.out _ _ ?_ (fun hHeld => ?_)
                · exact trivial
                clear hK K
                (try simp only [Act.put, List.setIfInBounds_toArray, List.set_cons_zero, List.set_cons_succ])
                refine wpAnyH_take (i := 15) (oi := ⟨some 57, _, _, _, _, _⟩) (v := ?_) rfl (by kernel_rfl) (by kernel_rfl) (by kernel_rfl) (fun _ _ _ h => h) (Or.inl ⟨by rfl, ?_⟩) (by assumption) ?_
                rotate_left 1
                · intro w hSw
                  (try dsimp only at hSw)
                  go_simp
                  all_goals with_reducible rfl
                (try simp only [Act.put, List.setIfInBounds_toArray, List.set_cons_zero, List.set_cons_succ])
                refine wpAnyH_take (i := 16) (oi := ⟨some 58, _, _, _, _, _⟩) (v := ?_) rfl (by kernel_rfl) (by kernel_rfl) (by kernel_rfl) (fun _ _ _ h => h) (Or.inl ⟨by rfl, ?_⟩) (by assumption) ?_
                rotate_left 1
                · intro w hSw
                  (try dsimp only at hSw)
                  go_simp
                  all_goals with_reducible rfl
                (try simp only [Act.put, List.setIfInBounds_toArray, List.set_cons_zero, List.set_cons_succ])
                refine wpAnyH_ready (rs := [17]) (by kernel_rfl) (by simp) ?_
                refine AllReadyH.cons (o := _) rfl (fun K hK => ?_) ?_
                · go_simp
                  refine hK.out _ _ ?_ (fun hHeld => ?_)
                  · exact trivial
                  clear hK K
                  (try simp only [Act.put, List.setIfInBounds_toArray, List.set_cons_zero, List.set_cons_succ])
                  refine wpAnyH_done (by kernel_rfl) ?_ _
                  refine NoPanic.normal ?_
                  go_wp2_with fail
                  first
                    | refine bodyPost_end (v := .tuple #[]) (results_none Try.results58 _ _ _) rfl ?_
                    | refine bodyPost_ret (v := .tuple #[]) (results_none Try.results58 _ _ _) rfl ?_
                  exact hfin6.out
                exact AllReadyH.nil
              exact AllReadyH.nil
            exact AllReadyH.nil
          exact AllReadyH.nil
        exact AllReadyH.nil
      refine AllReadyH.cons (o := _) rfl (fun K hK => ?_) ?_
      · have cK := lints_own av cv ys _ (HK1.out.r1.ints HK1.out.E HK1.out.l1) (by have := HK1.out.l1; omega)
        rw [HK1.out.l1] at cK
        go_simp
        with_reducible refine cK.mono ?_
        rintro e V8 ⟨x8, rfl, hI8, hb8⟩
        obtain ⟨aM1, cM1, rfl⟩ := owns_shape hI8
        obtain ⟨t8, C8, E8, rM8, sub8, -⟩ := BoxRow.ofOwns HK1.out.E hb8 hI8 (Nat.le_refl _)
        have fM1 : Hid (∀ g, (Value.slice aM1 ys.length cM1).ownBlock = some g → w.heap.size ≤ g) := Lib.hid (fun g e => Nat.le_trans HK1.out.size (hI8.lt g e).1)
        have HK108 := Lib.hid (HK1.out.sub E8 sub8 hb8.size)
        have HM8 := Lib.hid rM8
        rw [HK1.out.l1] at fM1 HM8 ⊢
        clear E8 rM8 sub8 hI8 hb8
        refine hK.out _ _ ?_ (fun hHeld => ?_)
        · exact trivial
        clear hK K
        (try simp only [Act.put, List.setIfInBounds_toArray, List.set_cons_zero, List.set_cons_succ])
        refine wpAnyH_take (i := 8) (oi := ⟨some 50, _, _, _, _, _⟩) (v := ?_) rfl (by kernel_rfl) (by kernel_rfl) (by kernel_rfl) (fun _ _ _ h => h) (Or.inl ⟨by rfl, ?_⟩) (by assumption) ?_
        rotate_left 1
        · intro w hSw
          (try dsimp only at hSw)
          go_simp
          all_goals with_reducible rfl
        (try simp only [Act.put, List.setIfInBounds_toArray, List.set_cons_zero, List.set_cons_succ])
        refine wpAnyH_ready (rs := [4, 11]) (by kernel_rfl) (by simp) ?_
        refine AllReadyH.cons (o := _) rfl (fun K hK => ?_) ?_
        · have dL := (HK108.out.E.cellAt HK108.out.head (j := 2) rfl).1
          rw [Hbk.out, show (#[β.vS, β.vR, β.vL, Value.int .i64 (N0 + n + 1)] : Array Value)[2] = β.vL from rfl, HvL.out, Hnl.out] at dL
          go_simp
          refine hK.out _ _ ?_ (fun hHeld => ?_)
          · exact trivial
          clear hK K
          (try simp only [Act.put, List.setIfInBounds_toArray, List.set_cons_zero, List.set_cons_succ])
          refine wpAnyH_ready (rs := [11]) (by kernel_rfl) (by simp) ?_
          refine AllReadyH.cons (o := _) rfl (fun K hK => ?_) ?_
          · have cK := lints_own a2 c2 zs _ (HK108.out.r2.ints HK108.out.E HK108.out.l2) (by have := HK108.out.l2; omega)
            rw [HK108.out.l2] at cK
            go_simp
            with_reducible refine cK.mono ?_
            rintro e V10 ⟨x10, rfl, hI10, hb10⟩
            obtain ⟨aM2, cM2, rfl⟩ := owns_shape hI10
            obtain ⟨t10, C10, E10, rM10, sub10, -⟩ := BoxRow.ofOwns HK108.out.E hb10 hI10 (Nat.le_refl _)
            have fM2 : Hid (∀ g, (Value.slice aM2 zs.length cM2).ownBlock = some g → w.heap.size ≤ g) := Lib.hid (fun g e => Nat.le_trans HK108.out.size (hI10.lt g e).1)
            have HK110 := Lib.hid (HK108.out.sub E10 sub10 hb10.size)
            have HM10 := Lib.hid rM10
            have HM10' := Lib.hid (HM8.out.mono fun x hx _ => sub10 x hx)
            rw [HK108.out.l2] at fM2 HM10 ⊢
            clear E10 rM10 sub10 hI10 hb10
            refine hK.out _ _ ?_ (fun hHeld => ?_)
            · exact trivial
            clear hK K
            (try simp only [Act.put, List.setIfInBounds_toArray, List.set_cons_zero, List.set_cons_succ])
            refine wpAnyH_take (i := 12) (oi := ⟨some 54, _, _, _, _, _⟩) (v := ?_) rfl (by kernel_rfl) (by kernel_rfl) (by kernel_rfl) (fun _ _ _ h => h) (Or.inl ⟨by rfl, ?_⟩) (by assumption) ?_
            rotate_left 1
            · intro w hSw
              (try dsimp only at hSw)
              go_simp
              all_goals with_reducible rfl
            (try simp only [Act.put, List.setIfInBounds_toArray, List.set_cons_zero, List.set_cons_succ])
            refine wpAnyH_ready (rs := [13]) (by kernel_rfl) (by simp) ?_
            refine AllReadyH.cons (o := _) rfl (fun K hK => ?_) ?_
            · go_simp
              obtain ⟨V11, hV11⟩ : ∃ W, W = V10.alloc (.cells #[.slice av n cv, .slice aM1 n cM1, .slice a2 (n + 1) c2, .slice aM2 (n + 1) cM2] 102) := ⟨_, rfl⟩
              obtain ⟨q11, hq11⟩ : ∃ b, b = V10.heap.size := ⟨_, rfl⟩
              rw [← hV11, ← hq11]
              have hb11 : Below V10.heap.size V10 V11 := by rw [hV11]; exact (Below.refl _ _).alloc (Nat.le_refl _) _
              have src11 : ∀ (j : Nat) (u : Value), ([.slice av n cv, .slice aM1 n cM1, .slice a2 (n + 1) c2, .slice aM2 (n + 1) cM2] : List Value)[j]? = some u → V11.cell? ((⟨q11, 0, none⟩ : Addr).add j) = some u := by rw [hV11, hq11]; exact cells_new V10 [.slice av n cv, .slice aM1 n cM1, .slice a2 (n + 1) c2, .slice aM2 (n + 1) cM2] 102
              have ho11 := owns_below ((HK110.out.lsRow HE.out HB.out HR0.out).owns HK110.out.E) hb11 (Nat.le_refl _)
              rw [HvL.out, Hnl.out] at ho11
              clear hV11 hq11
              refine hK.out _ _ ?_ (fun hHeld => ?_)
              · exact trivial
              clear hK K
              (try simp only [Act.put, List.setIfInBounds_toArray, List.set_cons_zero, List.set_cons_succ])
              refine wpAnyH_ready (rs := [14]) (by kernel_rfl) (by simp) ?_
              refine AllReadyH.cons (o := _) rfl (fun K hK => ?_) ?_
              · refine step_append_two elemList _ rfl _ _ rfl 0 _ nl _ rfl ho11 ⟨q11, 0, none⟩ 2 2 [.slice av n cv, .slice aM1 n cM1, .slice a2 (n + 1) c2, .slice aM2 (n + 1) cM2] rfl src11 rfl (by simp [Value.oneCell']) (by unfold maxLen; omega) (by omega) (Nat.zero_le _) ?_
                intro v12 V12 hown12 hg12
                obtain ⟨x12, y12, rfl⟩ := owns_slice (n := nl + 1) hown12
                have hlt12 : bk < V11.heap.size := by have := World.block_lt_of_cell? _ _ (on_cell hb11 (HK110.out.E.cellAt HK110.out.head (j := 2) rfl).1); rw [Hbk.out] at this; exact this
                have hne12 := (HK110.out.lsRow HE.out HB.out HR0.out).apartHead HK110.out.head HK110.out.E (by decide)
                rw [HvL.out, Hbk.out] at hne12
                have hbk12 := two_block hg12 hlt12 (by rw [← Hnl.out]; exact hne12)
                have dd := on_cell hb11 (HK110.out.E.cellAt HK110.out.head (j := 2) rfl).1
                rw [Hbk.out, show (#[β.vS, β.vR, β.vL, Value.int .i64 (N0 + n + 1)] : Array Value)[2] = β.vL from rfl, HvL.out, Hnl.out] at dd
                have ff := (HK110.out.E.cellAt HK110.out.head (j := 2) rfl).2
                rw [Hbk.out] at ff
                have d12 := (World.cell?_of_block (w := V11) (a := ⟨bk, 2, none⟩) hbk12).trans dd
                have z12 : V12.frozen? ⟨bk, 2, none⟩ = false := (World.frozen?_of_block (w := V11) (a := ⟨bk, 2, none⟩) hbk12).trans ((hb11.frozen (p := ⟨bk, 2, none⟩) (by have := World.block_lt_of_cell? _ _ (HK110.out.E.cellAt HK110.out.head (j := 2) rfl).1; rw [Hbk.out] at this; exact this)).trans ff)
                have hfin12 : Hid (KeepEnd w0 S β C (.slice av n cv) n w (.returned (.tuple #[])) (V12.setCell ⟨bk, 2, none⟩ (.slice (some ⟨x12, 0, none⟩) (nl + 2) y12))) := Lib.hid (by
                  have h := KA.fin (by rw [HN0.out]; exact HK110.out) HE.out HS.out HB.out HO.out HR0.out HM10'.out HM10.out fM1.out fM2.out hb11 (by rw [Hnl.out]; exact hown12) (by rw [HvL.out, Hnl.out]; exact hg12)
                  rw [Hbk.out] at h; exact h)
                clear hown12 hg12 dd ff hbk12 hne12
                refine hK.out _ _ ?_ (fun hHeld => ?_)
                · exact trivial
                clear hK K
                (try simp only [Act.put, List.setIfInBounds_toArray, List.set_cons_zero, List.set_cons_succ])
                refine wpAnyH_take (i := 15) (oi := ⟨some 57, _, _, _, _, _⟩) (v := ?_) rfl (by kernel_rfl) (by kernel_rfl) (by kernel_rfl) (fun _ _ _ h => h) (Or.inl ⟨by rfl, ?_⟩) (by assumption) ?_
                rotate_left 1
                · intro w hSw
                  (try dsimp only at hSw)
                  go_simp
                  all_goals with_reducible rfl
                (try simp only [Act.put, List.setIfInBounds_toArray, List.set_cons_zero, List.set_cons_succ])
                refine wpAnyH_take (i := 16) (oi := ⟨some 58, _, _, _, _, _⟩) (v := ?_) rfl (by kernel_rfl) (by kernel_rfl) (by kernel_rfl) (fun _ _ _ h => h) (Or.inl ⟨by rfl, ?_⟩) (by assumption) ?_
                rotate_left 1
                · intro w hSw
                  (try dsimp only at hSw)
                  go_simp
                  all_goals with_reducible rfl
                (try simp only [Act.put, List.setIfInBounds_toArray, List.set_cons_zero, List.set_cons_succ])
                refine wpAnyH_ready (rs := [17]) (by kernel_rfl) (by simp) ?_
                refine AllReadyH.cons (o := _) rfl (fun K hK => ?_) ?_
                · go_simp
                  refine hK.out _ _ ?_ (fun hHeld => ?_)
                  · exact trivial
                  clear hK K
                  (try simp only [Act.put, List.setIfInBounds_toArray, List.set_cons_zero, List.set_cons_succ])
                  refine wpAnyH_done (by kernel_rfl) ?_ _
                  refine NoPanic.normal ?_
                  go_wp2_with fail
                  first
                    | refine bodyPost_end (v := .tuple #[]) (results_none Try.results58 _ _ _) rfl ?_
                    | refine bodyPost_ret (v := .tuple #[]) (results_none Try.results58 _ _ _) rfl ?_
                  exact hfin12.out
                exact AllReadyH.nil
              exact AllReadyH.nil
            exact AllReadyH.nil
          exact AllReadyH.nil
        refine AllReadyH.cons (o := _) rfl (fun K hK => ?_) ?_
        · have cK := lints_own a2 c2 zs _ (HK108.out.r2.ints HK108.out.E HK108.out.l2) (by have := HK108.out.l2; omega)
          rw [HK108.out.l2] at cK
          go_simp
          with_reducible refine cK.mono ?_
          rintro e V14 ⟨x14, rfl, hI14, hb14⟩
          obtain ⟨aM2, cM2, rfl⟩ := owns_shape hI14
          obtain ⟨t14, C14, E14, rM14, sub14, -⟩ := BoxRow.ofOwns HK108.out.E hb14 hI14 (Nat.le_refl _)
          have fM2 : Hid (∀ g, (Value.slice aM2 zs.length cM2).ownBlock = some g → w.heap.size ≤ g) := Lib.hid (fun g e => Nat.le_trans HK108.out.size (hI14.lt g e).1)
          have HK114 := Lib.hid (HK108.out.sub E14 sub14 hb14.size)
          have HM14 := Lib.hid rM14
          have HM14' := Lib.hid (HM8.out.mono fun x hx _ => sub14 x hx)
          rw [HK108.out.l2] at fM2 HM14 ⊢
          clear E14 rM14 sub14 hI14 hb14
          refine hK.out _ _ ?_ (fun hHeld => ?_)
          · exact trivial
          clear hK K
          (try simp only [Act.put, List.setIfInBounds_toArray, List.set_cons_zero, List.set_cons_succ])
          refine wpAnyH_take (i := 12) (oi := ⟨some 54, _, _, _, _, _⟩) (v := ?_) rfl (by kernel_rfl) (by kernel_rfl) (by kernel_rfl) (fun _ _ _ h => h) (Or.inl ⟨by rfl, ?_⟩) (by assumption) ?_
          rotate_left 1
          · intro w hSw
            (try dsimp only at hSw)
            go_simp
            all_goals with_reducible rfl
          (try simp only [Act.put, List.setIfInBounds_toArray, List.set_cons_zero, List.set_cons_succ])
          refine wpAnyH_ready (rs := [4, 13]) (by kernel_rfl) (by simp) ?_
          refine AllReadyH.cons (o := _) rfl (fun K hK => ?_) ?_
          · have dL := (HK114.out.E.cellAt HK114.out.head (j := 2) rfl).1
            rw [Hbk.out, show (#[β.vS, β.vR, β.vL, Value.int .i64 (N0 + n + 1)] : Array Value)[2] = β.vL from rfl, HvL.out, Hnl.out] at dL
            go_simp
            refine hK.out _ _ ?_ (fun hHeld => ?_)
            · exact trivial
            clear hK K
            (try simp only [Act.put, List.setIfInBounds_toArray, List.set_cons_zero, List.set_cons_succ])
            refine wpAnyH_ready (rs := [13]) (by kernel_rfl) (by simp) ?_
            refine AllReadyH.cons (o := _) rfl (fun K hK => ?_) ?_
            · go_simp
              obtain ⟨V16, hV16⟩ : ∃ W, W = V14.alloc (.cells #[.slice av n cv, .slice aM1 n cM1, .slice a2 (n + 1) c2, .slice aM2 (n + 1) cM2] 102) := ⟨_, rfl⟩
              obtain ⟨q16, hq16⟩ : ∃ b, b = V14.heap.size := ⟨_, rfl⟩
              rw [← hV16, ← hq16]
              have hb16 : Below V14.heap.size V14 V16 := by rw [hV16]; exact (Below.refl _ _).alloc (Nat.le_refl _) _
              have src16 : ∀ (j : Nat) (u : Value), ([.slice av n cv, .slice aM1 n cM1, .slice a2 (n + 1) c2, .slice aM2 (n + 1) cM2] : List Value)[j]? = some u → V16.cell? ((⟨q16, 0, none⟩ : Addr).add j) = some u := by rw [hV16, hq16]; exact cells_new V14 [.slice av n cv, .slice aM1 n cM1, .slice a2 (n + 1) c2, .slice aM2 (n + 1) cM2] 102
              have ho16 := owns_below ((HK114.out.lsRow HE.out HB.out HR0.out).owns HK114.out.E) hb16 (Nat.le_refl _)
              rw [HvL.out, Hnl.out] at ho16
              clear hV16 hq16
              refine hK.out _ _ ?_ (fun hHeld => ?_)
              · exact trivial
              clear hK K
              (try simp only [Act.put, List.setIfInBounds_toArray, List.set_cons_zero, List.set_cons_succ])
              refine wpAnyH_ready (rs := [14]) (by kernel_rfl) (by simp) ?_
              refine AllReadyH.cons (o := _) rfl (fun K hK => ?_) ?_
              · refine step_append_two elemList _ rfl _ _ rfl 0 _ nl _ rfl ho16 ⟨q16, 0, none⟩ 2 2 [.slice av n cv, .slice aM1 n cM1, .slice a2 (n + 1) c2, .slice aM2 (n + 1) cM2] rfl src16 rfl (by simp [Value.oneCell']) (by unfold maxLen; omega) (by omega) (Nat.zero_le _) ?_
                intro v17 V17 hown17 hg17
                obtain ⟨x17, y17, rfl⟩ := owns_slice (n := nl + 1) hown17
                have hlt17 : bk < V16.heap.size := by have := World.block_lt_of_cell? _ _ (on_cell hb16 (HK114.out.E.cellAt HK114.out.head (j := 2) rfl).1); rw [Hbk.out] at this; exact this
                have hne17 := (HK114.out.lsRow HE.out HB.out HR0.out).apartHead HK114.out.head HK114.out.E (by decide)
                rw [HvL.out, Hbk.out] at hne17
                have hbk17 := two_block hg17 hlt17 (by rw [← Hnl.out]; exact hne17)
                have dd := on_cell hb16 (HK114.out.E.cellAt HK114.out.head (j := 2) rfl).1
                rw [Hbk.out, show (#[β.vS, β.vR, β.vL, Value.int .i64 (N0 + n + 1)] : Array Value)[2] = β.vL from rfl, HvL.out, Hnl.out] at dd
                have ff := (HK114.out.E.cellAt HK114.out.head (j := 2) rfl).2
                rw [Hbk.out] at ff
                have d17 := (World.cell?_of_block (w := V16) (a := ⟨bk, 2, none⟩) hbk17).trans dd
                have z17 : V17.frozen? ⟨bk, 2, none⟩ = false := (World.frozen?_of_block (w := V16) (a := ⟨bk, 2, none⟩) hbk17).trans ((hb16.frozen (p := ⟨bk, 2, none⟩) (by have := World.block_lt_of_cell? _ _ (HK114.out.E.cellAt HK114.out.head (j := 2) rfl).1; rw [Hbk.out] at this; exact this)).trans ff)
                have hfin17 : Hid (KeepEnd w0 S β C (.slice av n cv) n w (.returned (.tuple #[])) (V17.setCell ⟨bk, 2, none⟩ (.slice (some ⟨x17, 0, none⟩) (nl + 2) y17))) := Lib.hid (by
                  have h := KA.fin (by rw [HN0.out]; exact HK114.out) HE.out HS.out HB.out HO.out HR0.out HM14'.out HM14.out fM1.out fM2.out hb16 (by rw [Hnl.out]; exact hown17) (by rw [HvL.out, Hnl.out]; exact hg17)
                  rw [Hbk.out] at h; exact h)
                clear hown17 hg17 dd ff hbk17 hne17
                refine hK.out _ _ ?_ (fun hHeld => ?_)
                · exact trivial
                clear hK K
                (try simp only [Act.put, List.setIfInBounds_toArray, List.set_cons_zero, List.set_cons_succ])
                refine wpAnyH_take (i := 15) (oi := ⟨some 57, _, _, _, _, _⟩) (v := ?_) rfl (by kernel_rfl) (by kernel_rfl) (by kernel_rfl) (fun _ _ _ h => h) (Or.inl ⟨by rfl, ?_⟩) (by assumption) ?_
                rotate_left 1
                · intro w hSw
                  (try dsimp only at hSw)
                  go_simp
                  all_goals with_reducible rfl
                (try simp only [Act.put, List.setIfInBounds_toArray, List.set_cons_zero, List.set_cons_succ])
                refine wpAnyH_take (i := 16) (oi := ⟨some 58, _, _, _, _, _⟩) (v := ?_) rfl (by kernel_rfl) (by kernel_rfl) (by kernel_rfl) (fun _ _ _ h => h) (Or.inl ⟨by rfl, ?_⟩) (by assumption) ?_
                rotate_left 1
                · intro w hSw
                  (try dsimp only at hSw)
                  go_simp
                  all_goals with_reducible rfl
                (try simp only [Act.put, List.setIfInBounds_toArray, List.set_cons_zero, List.set_cons_succ])
                refine wpAnyH_ready (rs := [17]) (by kernel_rfl) (by simp) ?_
                refine AllReadyH.cons (o := _) rfl (fun K hK => ?_) ?_
                · go_simp
                  refine hK.out _ _ ?_ (fun hHeld => ?_)
                  · exact trivial
                  clear hK K
                  (try simp only [Act.put, List.setIfInBounds_toArray, List.set_cons_zero, List.set_cons_succ])
                  refine wpAnyH_done (by kernel_rfl) ?_ _
                  refine NoPanic.normal ?_
                  go_wp2_with fail
                  first
                    | refine bodyPost_end (v := .tuple #[]) (results_none Try.results58 _ _ _) rfl ?_
                    | refine bodyPost_ret (v := .tuple #[]) (results_none Try.results58 _ _ _) rfl ?_
                  exact hfin17.out
                exact AllReadyH.nil
              exact AllReadyH.nil
            exact AllReadyH.nil
          refine AllReadyH.cons (o := _) rfl (fun K hK => ?_) ?_
          · go_simp
            obtain ⟨V19, hV19⟩ : ∃ W, W = V14.alloc (.cells #[.slice av n cv, .slice aM1 n cM1, .slice a2 (n + 1) c2, .slice aM2 (n + 1) cM2] 102) := ⟨_, rfl⟩
            obtain ⟨q19, hq19⟩ : ∃ b, b = V14.heap.size := ⟨_, rfl⟩
            rw [← hV19, ← hq19]
            have hb19 : Below V14.heap.size V14 V19 := by rw [hV19]; exact (Below.refl _ _).alloc (Nat.le_refl _) _
            have src19 : ∀ (j : Nat) (u : Value), ([.slice av n cv, .slice aM1 n cM1, .slice a2 (n + 1) c2, .slice aM2 (n + 1) cM2] : List Value)[j]? = some u → V19.cell? ((⟨q19, 0, none⟩ : Addr).add j) = some u := by rw [hV19, hq19]; exact cells_new V14 [.slice av n cv, .slice aM1 n cM1, .slice a2 (n + 1) c2, .slice aM2 (n + 1) cM2] 102
            have ho19 := owns_below ((HK114.out.lsRow HE.out HB.out HR0.out).owns HK114.out.E) hb19 (Nat.le_refl _)
            rw [HvL.out, Hnl.out] at ho19
            clear hV19 hq19
            refine hK.out _ _ ?_ (fun hHeld => ?_)
            · exact trivial
            clear hK K
            (try simp only [Act.put, List.setIfInBounds_toArray, List.set_cons_zero, List.set_cons_succ])
            refine wpAnyH_ready (rs := [4]) (by kernel_rfl) (by simp) ?_
            refine AllReadyH.cons (o := _) rfl (fun K hK => ?_) ?_
            · have dL := on_cell hb19 (HK114.out.E.cellAt HK114.out.head (j := 2) rfl).1
              rw [Hbk.out, show (#[β.vS, β.vR, β.vL, Value.int .i64 (N0 + n + 1)] : Array Value)[2] = β.vL from rfl, HvL.out, Hnl.out] at dL
              go_simp
              refine hK.out _ _ ?_ (fun hHeld => ?_)
              · exact trivial
              clear hK K
              (try simp only [Act.put, List.setIfInBounds_toArray, List.set_cons_zero, List.set_cons_succ])
              refine wpAnyH_ready (rs := [14]) (by kernel_rfl) (by simp) ?_
              refine AllReadyH.cons (o := _) rfl (fun K hK => ?_) ?_
              · refine step_append_two elemList _ rfl _ _ rfl 0 _ nl _ rfl ho19 ⟨q19, 0, none⟩ 2 2 [.slice av n cv, .slice aM1 n cM1, .slice a2 (n + 1) c2, .slice aM2 (n + 1) cM2] rfl src19 rfl (by simp [Value.oneCell']) (by unfold maxLen; omega) (by omega) (Nat.zero_le _) ?_
                intro v21 V21 hown21 hg21
                obtain ⟨x21, y21, rfl⟩ := owns_slice (n := nl + 1) hown21
                have hlt21 : bk < V19.heap.size := by have := World.block_lt_of_cell? _ _ (on_cell hb19 (HK114.out.E.cellAt HK114.out.head (j := 2) rfl).1); rw [Hbk.out] at this; exact this
                have hne21 := (HK114.out.lsRow HE.out HB.out HR0.out).apartHead HK114.out.head HK114.out.E (by decide)
                rw [HvL.out, Hbk.out] at hne21
                have hbk21 := two_block hg21 hlt21 (by rw [← Hnl.out]; exact hne21)
                have dd := on_cell hb19 (HK114.out.E.cellAt HK114.out.head (j := 2) rfl).1
                rw [Hbk.out, show (#[β.vS, β.vR, β.vL, Value.int .i64 (N0 + n + 1)] : Array Value)[2] = β.vL from rfl, HvL.out, Hnl.out] at dd
                have ff := (HK114.out.E.cellAt HK114.out.head (j := 2) rfl).2
                rw [Hbk.out] at ff
                have d21 := (World.cell?_of_block (w := V19) (a := ⟨bk, 2, none⟩) hbk21).trans dd
                have z21 : V21.frozen? ⟨bk, 2, none⟩ = false := (World.frozen?_of_block (w := V19) (a := ⟨bk, 2, none⟩) hbk21).trans ((hb19.frozen (p := ⟨bk, 2, none⟩) (by have := World.block_lt_of_cell? _ _ (HK114.out.E.cellAt HK114.out.head (j := 2) rfl).1; rw [Hbk.out] at this; exact this)).trans ff)
                have hfin21 : Hid (KeepEnd w0 S β C (.slice av n cv) n w (.returned (.tuple #[])) (V21.setCell ⟨bk, 2, none⟩ (.slice (some ⟨x21, 0, none⟩) (nl + 2) y21))) := Lib.hid (by
                  have h := KA.fin (by rw [HN0.out]; exact HK114.out) HE.out HS.out HB.out HO.out HR0.out HM14'.out HM14.out fM1.out fM2.out hb19 (by rw [Hnl.out]; exact hown21) (by rw [HvL.out, Hnl.out]; exact hg21)
                  rw [Hbk.out] at h; exact h)
                clear hown21 hg21 dd ff hbk21 hne21
                refine hK.out _ _ ?_ (fun hHeld => ?_)
                · exact trivial
                clear hK K
                (try simp only [Act.put, List.setIfInBounds_toArray, List.set_cons_zero, List.set_cons_succ])
                refine wpAnyH_take (i := 15) (oi := ⟨some 57, _, _, _, _, _⟩) (v := ?_) rfl (by kernel_rfl) (by kernel_rfl) (by kernel_rfl) (fun _ _ _ h => h) (Or.inl ⟨by rfl, ?_⟩) (by assumption) ?_
                rotate_left 1
                · intro w hSw
                  (try dsimp only at hSw)
                  go_simp
                  all_goals with_reducible rfl
                (try simp only [Act.put, List.setIfInBounds_toArray, List.set_cons_zero, List.set_cons_succ])
                refine wpAnyH_take (i := 16) (oi := ⟨some 58, _, _, _, _, _⟩) (v := ?_) rfl (by kernel_rfl) (by kernel_rfl) (by kernel_rfl) (fun _ _ _ h => h) (Or.inl ⟨by rfl, ?_⟩) (by assumption) ?_
                rotate_left 1
                · intro w hSw
                  (try dsimp only at hSw)
                  go_simp
                  all_goals with_reducible rfl
                (try simp only [Act.put, List.setIfInBounds_toArray, List.set_cons_zero, List.set_cons_succ])
                refine wpAnyH_ready (rs := [17]) (by kernel_rfl) (by simp) ?_
                refine AllReadyH.cons (o := _) rfl (fun K hK => ?_) ?_
                · go_simp
                  refine hK.out _ _ ?_ (fun hHeld => ?_)
                  · exact trivial
                  clear hK K
                  (try simp only [Act.put, List.setIfInBounds_toArray, List.set_cons_zero, List.set_cons_succ])
                  refine wpAnyH_done (by kernel_rfl) ?_ _
                  refine NoPanic.normal ?_
                  go_wp2_with fail
                  first
                    | refine bodyPost_end (v := .tuple #[]) (results_none Try.results58 _ _ _) rfl ?_
                    | refine bodyPost_ret (v := .tuple #[]) (results_none Try.results58 _ _ _) rfl ?_
                  exact hfin21.out
                exact AllReadyH.nil
              exact AllReadyH.nil
            exact AllReadyH.nil
          exact AllReadyH.nil
        exact AllReadyH.nil
      exact AllReadyH.nil
end
end Go.Proofs.Ytgodidoibcomcaa.Bk
