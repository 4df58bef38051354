/-
  The boxes of a world: one is written, a row in one of them grows, a new one is taken in.
-/
import Derived.Test.YtgodidoibcomcaaBTry
namespace Go.Proofs.Ytgodidoibcomcaa.Bk
open Go.RowKit Go.Proofs.Ytgodidoibcomcaa

section
variable {P : Program} {t e : TypeId} {z : Value} {size bytes : Nat}
/-- append: in place, or in a new block and all else as it was -/
theorem run_append_two (E : Elem P t e z size bytes) (w : World) (base : Nat) (ty : TypeId) (v : Value) (n : Nat) (xs : List Value) (hown : w.ownsRow base e size v n xs)
    (ad : Addr) (m c : Nat) (news : List Value) (hs : ∀ j u, news[j]? = some u → w.cell? (ad.add j) = some u) (hl : news.length = m * size) (h1 : ∀ u ∈ news, u.oneCell' = true)
    (h63 : n + m ≤ maxLen) (hbytes : (n + m) * bytes ≤ 140737488355328) (hbase : base ≤ w.heap.size) :
    ∃ v' w', (Builtin.append_ #[t, t] ty #[v, .slice (some ad) m c]).run P w = .ok v' w' ∧ w'.ownsRow base e size v' (n + m) (xs ++ news) ∧ ((∃ a cap, v = .slice a n cap ∧ v' = .slice a (n + m) cap ∧ w.grownBy w' v.ownBlock) ∨ (v'.ownBlock = some w.heap.size ∧ w.grownBy w' none)) := by
  obtain ⟨i, hi, hz0, hz1, hz2⟩ := info_parts E.info
  obtain ⟨v', w', hr, h2, h3, h4, -⟩ := run_append_own_at (P := P) w base t ty e i z size bytes E.ht hi hz0 hz1 hz2 E.zero E.pos v n xs hown ad m c news hl hs h1 h63 hbytes hbase
  refine ⟨v', w', hr, h2, ?_⟩
  have hsmall : n + m ≤ 9223372036854775807 := by simp only [maxLen] at h63; omega
  subst hz1
  subst hz2
  have new : ∀ o : Obj, w.grownBy (w.drew.alloc o) none := fun o => ⟨rfl, rfl, rfl, by simp, fun k hk _ => Below.heap_alloc w.drew o k hk⟩
  rcases hown.2 with ⟨rfl, rfl⟩ | ⟨g, cap, cur, rfl, hbg, hg, hnc, hcm, hcs, htake⟩
  · by_cases hm : m = 0
    · subst hm
      have := h4.2 ⟨rfl, rfl⟩
      subst this
      exact .inl ⟨none, 0, rfl, rfl, h3⟩
    · have hr2 := run_append_nil (P := P) w t ty e i z E.ht hi hz0 ad m c news hl hs (by omega) (by omega) (by have hb := hbytes; simp only [Nat.zero_add] at hb; omega)
      rw [hr] at hr2
      cases hr2
      exact .inr ⟨rfl, new _⟩
  · by_cases hroom : n + m ≤ cap
    · have hfit : n * i.size + news.length ≤ cur.size := by rw [hl, hcs, ← Nat.add_mul]; exact Nat.mul_le_mul_right _ hroom
      have hr2 := run_append_room (P := P) w t ty e i E.ht hi g n cap cur hg ad m c news hl hs h1 hroom hfit
      rw [hr] at hr2
      cases hr2
      exact .inl ⟨_, _, rfl, rfl, h3⟩
    · have holds : ∀ j u, xs[j]? = some u → w.cell? ((⟨g, 0, none⟩ : Addr).add j) = some u := hown.cells (g := g) rfl
      have hr2 := run_append_grow (P := P) w t ty e i z E.ht hi hz0 ⟨g, 0, none⟩ n cap xs hown.1 holds ad m c news hl hs (by omega) (by omega) (growslice_fits (by omega) hbytes)
      rw [hr] at hr2
      cases hr2
      exact .inr ⟨rfl, new _⟩

theorem wp_append_two (E : Elem P t e z size bytes) (w : World) {o : Oper} {a : Act} {K : Act → World → Prop} {Q : Exit → Act → World → Prop} (s x : Operand)
    (ho : o.op = .call { callee := .builtin .append, args := #[s, x], argTypes := #[t, t] })
    (base : Nat) (v : Value) (n : Nat) (xs : List Value) (hv : a.eval s = v) (hown : w.ownsRow base e size v n xs)
    (ad : Addr) (m c : Nat) (news : List Value) (hx : a.eval x = .slice (some ad) m c) (hs : ∀ j u, news[j]? = some u → w.cell? (ad.add j) = some u) (hl : news.length = m * size) (h1 : ∀ u ∈ news, u.oneCell' = true)
    (h63 : n + m ≤ maxLen) (hbytes : (n + m) * bytes ≤ 140737488355328) (hbase : base ≤ w.heap.size)
    (h : ∀ v' w', w'.ownsRow base e size v' (n + m) (xs ++ news) → ((∃ a cap, v = .slice a n cap ∧ v' = .slice a (n + m) cap ∧ w.grownBy w' v.ownBlock) ∨ (v'.ownBlock = some w.heap.size ∧ w.grownBy w' none)) → K (a.put o.dst v') w') : o.wp P a w K Q := by
  obtain ⟨v', w', hr, h2, h3⟩ := run_append_two E w base o.type v n xs hown ad m c news hs hl h1 h63 hbytes hbase
  unfold Oper.wp execOp
  simp only [ho, resolve, invoke, builtin, Sem.run_bind, Sem.run_pure, Result.andThen_ok, List.map_toArray, List.map_cons, List.map_nil, hv, hx, hr]
  exact h v' w' h2 h3
theorem wpList_append_two (E : Elem P t e z size bytes) (w : World) {ops : Array Oper} {rest : List Oper} {o : Oper} {a : Act} {Q : Exit → Act → World → Prop} (hgd : o.guard = none) (s x : Operand)
    (ho : o.op = .call { callee := .builtin .append, args := #[s, x], argTypes := #[t, t] })
    (base : Nat) (v : Value) (n : Nat) (xs : List Value) (hv : a.eval s = v) (hown : w.ownsRow base e size v n xs)
    (ad : Addr) (m c : Nat) (news : List Value) (hx : a.eval x = .slice (some ad) m c) (hs : ∀ j u, news[j]? = some u → w.cell? (ad.add j) = some u) (hl : news.length = m * size) (h1 : ∀ u ∈ news, u.oneCell' = true)
    (h63 : n + m ≤ maxLen) (hbytes : (n + m) * bytes ≤ 140737488355328) (hbase : base ≤ w.heap.size)
    (h : ∀ v' w', w'.ownsRow base e size v' (n + m) (xs ++ news) → ((∃ a cap, v = .slice a n cap ∧ v' = .slice a (n + m) cap ∧ w.grownBy w' v.ownBlock) ∨ (v'.ownBlock = some w.heap.size ∧ w.grownBy w' none)) → wpList P ops Q rest (a.put o.dst v') w') : wpList P ops Q (o :: rest) a w :=
  wpList_plain hgd fun _ hK => wp_append_two E w s x ho base v n xs hv hown ad m c news hx hs hl h1 h63 hbytes hbase fun v' w' h2 h3 => hK _ _ (h v' w' h2 h3)
theorem step_append_two (E : Elem P t e z size bytes) (w : World) {ops : Array Oper} {o : Oper} {a : Act} {K : Act → World → Prop} {Q : Exit → Act → World → Prop} {F : Prop} (hgd : o.guard = none) (s x : Operand)
    (ho : o.op = .call { callee := .builtin .append, args := #[s, x], argTypes := #[t, t] })
    (base : Nat) (v : Value) (n : Nat) (xs : List Value) (hv : a.eval s = v) (hown : w.ownsRow base e size v n xs)
    (ad : Addr) (m c : Nat) (news : List Value) (hx : a.eval x = .slice (some ad) m c) (hs : ∀ j u, news[j]? = some u → w.cell? (ad.add j) = some u) (hl : news.length = m * size) (h1 : ∀ u ∈ news, u.oneCell' = true)
    (h63 : n + m ≤ maxLen) (hbytes : (n + m) * bytes ≤ 140737488355328) (hbase : base ≤ w.heap.size)
    (h : ∀ v' w', w'.ownsRow base e size v' (n + m) (xs ++ news) → ((∃ a cap, v = .slice a n cap ∧ v' = .slice a (n + m) cap ∧ w.grownBy w' v.ownBlock) ∨ (v'.ownBlock = some w.heap.size ∧ w.grownBy w' none)) → K (a.put o.dst v') w') :
    if Region.wanted o (yielded ops a.tmps) = true then Oper.wp P o a w K Q else F := by
  have hw : Region.wanted o (yielded ops a.tmps) = true := by simp [Region.wanted, hgd]
  rw [if_pos hw]
  exact wp_append_two E w s x ho base v n xs hv hown ad m c news hx hs hl h1 h63 hbytes hbase h
end

/-- the block g of the boxes C holds o -/
def upd (C : List Box) (g : Nat) (o : Obj) : List Box := C.map fun x => if x.1 = g then (g, o) else x
theorem upd_keys (C : List Box) (g : Nat) (o : Obj) : (upd C g o).map (·.1) = C.map (·.1) := by
  unfold upd
  rw [List.map_map]
  apply List.map_congr_left
  intro x _
  simp only [Function.comp]
  split
  · rename_i h; exact h.symm
  · rfl
theorem mem_upd {C : List Box} {g : Nat} {o o0 : Obj} (h : (g, o0) ∈ C) : (g, o) ∈ upd C g o := List.mem_map.2 ⟨_, h, by simp⟩
theorem mem_upd_ne {C : List Box} {g : Nat} {o : Obj} {x : Box} (h : x ∈ C) (hn : x.1 ≠ g) : x ∈ upd C g o := List.mem_map.2 ⟨x, h, by simp [hn]⟩
theorem of_mem_upd {C : List Box} {g : Nat} {o : Obj} {x : Box} (h : x ∈ upd C g o) : x = (g, o) ∨ (x ∈ C ∧ x.1 ≠ g) := by
  obtain ⟨y, hy, he⟩ := List.mem_map.1 h
  split at he
  · exact .inl he.symm
  · rename_i hn
    subst he
    exact .inr ⟨hy, hn⟩

section
variable {w0 : World} {τ : Own} {w w' : World} {S : List Ent} {C : List Box}
theorem Env.one {L : List RSl} (E : Env w0 τ w S L C) {g : Nat} {o o' : Obj} (h : (g, o) ∈ C) (h' : (g, o') ∈ C) : o = o' := by
  have h1 := (E.boxes _ h).2
  rw [(E.boxes _ h').2] at h1
  exact (Option.some.inj h1).symm
/-- one box, and new blocks, are written -/
theorem Env.change {L : List RSl} (E : Env w0 τ w S L C) (hs : ∀ z ∈ S, z.s ≠ boxS) {g : Nat} {o o' : Obj} (hg : (g, o) ∈ C) (hw : w.grownBy w' (some g)) (ho : w'.heap[g]? = some o') : Env w0 τ w' S L (upd C g o') := by
  obtain ⟨t, c⟩ := E.boxes _ hg
  have T1 : Turn boxS (fun r => r = .still) τ τ w w' := ⟨hw.os, hw.tape, hw.output, hw.size, fun j hj hn => hw.block j hj (fun e => by cases e; exact hn _ t rfl), fun _ _ => rfl, fun j hj s' r e => (by rw [E.fresh j hj] at e; cases e), fun j hj => E.fresh j (Nat.le_trans hw.size hj)⟩
  have hlt : g < w.heap.size := (Array.getElem?_eq_some_iff.1 c).1
  refine ⟨T1.fresh, E.old, ?_, fun z hz => (E.st z hz).kept T1 (hs z hz), fun z hz => freeRows_turn T1 (E.rows z hz), fun x hx => ?_, by rw [upd_keys]; exact E.keys⟩
  · refine ⟨T1.os.trans E.below.os, T1.tape.trans E.below.tape, T1.output.trans E.below.output, Nat.le_trans E.below.size T1.size, fun i hi => ?_⟩
    rw [T1.keep i (Nat.lt_of_lt_of_le hi E.below.size) (fun r e => by rw [E.old i hi] at e; cases e)]
    exact E.below.block i hi
  · rcases of_mem_upd hx with rfl | ⟨hx, hn⟩
    · exact ⟨t, ho⟩
    · obtain ⟨t2, c2⟩ := E.boxes x hx
      exact ⟨t2, (hw.block _ (Array.getElem?_eq_some_iff.1 c2).1 (fun e => hn (by cases e; rfl))).trans c2⟩
theorem Env.setAt {L : List RSl} (E : Env w0 τ w S L C) (hs : ∀ z ∈ S, z.s ≠ boxS) {g : Nat} {cs : Array Value} {T : TypeId} {fr : Nat × Nat} (hg : (g, Obj.cells cs T fr) ∈ C) (j : Nat) (v : Value) : Env w0 τ (w.setCell ⟨g, j, none⟩ v) S L (upd C g (.cells (cs.setIfInBounds j v) T fr)) := by
  have hb := (Below.refl 0 w).setCell (p := ⟨g, j, none⟩) (Nat.zero_le _) v
  refine E.change hs hg ⟨hb.os, hb.tape, hb.output, by simp, fun i hi hn => Below.heap_setCell _ _ _ _ (fun e => hn (by rw [e]))⟩ (heap_setCell (E.boxes _ hg).2 v)
theorem Env.adopt {L : List RSl} (E : Env w0 τ w S L C) (hb : Below w.heap.size w w') {g : Nat} {o : Obj} (hg : w.heap.size ≤ g) (ho : w'.heap[g]? = some o) :
    Env w0 (adopted boxS .still g (g + 1) τ) w' S L ((g, o) :: C) := by
  have hlt := (Array.getElem?_eq_some_iff.1 ho).1
  have T : Turn boxS (fun _ => False) τ (adopted boxS .still g (g + 1) τ) w w' := ⟨hb.os, hb.tape, hb.output, hb.size, fun j hj _ => hb.block j hj, fun j hj => adopted_out (by omega), (fun j hj s' r e => by
    unfold adopted at e
    split at e
    · cases e; rfl
    · rw [E.fresh j hj] at e; cases e), fun j hj => by rw [adopted_out (by omega)]; exact E.fresh j (by omega)⟩
  obtain ⟨h1, h2, h3, h4, h5⟩ := E.turned T (.inr fun h => h)
  refine ⟨h1, h2, h3, fun z hz => (E.st z hz).idle T (fun _ h => h), h4, fun x hx => ?_, ?_⟩
  · rcases List.mem_cons.1 hx with rfl | hx
    · exact ⟨adopted_in (Nat.le_refl _) (Nat.lt_succ_self _), ho⟩
    · exact h5 x hx
  · rw [List.map_cons, List.nodup_cons]
    refine ⟨fun h => ?_, E.keys⟩
    obtain ⟨x, hx, he⟩ := List.mem_map.1 h
    have := (Array.getElem?_eq_some_iff.1 (E.boxes x hx).2).1
    rw [he] at this
    omega
theorem Env.mems {L : List RSl} {S' : List Ent} (E : Env w0 τ w S L C) (h : ∀ x ∈ S', x ∈ S) : Env w0 τ w S' L C := ⟨E.fresh, E.old, E.below, fun x hx => E.st x (h x hx), E.rows, E.boxes, E.keys⟩
theorem Env.cellAt {L : List RSl} (E : Env w0 τ w S L C) {g : Nat} {cs : Array Value} {T : TypeId} (hg : (g, Obj.cells cs T (0, 0)) ∈ C) {j : Nat} {v : Value} (hj : cs[j]? = some v) : w.cell? ⟨g, j, none⟩ = some v ∧ w.frozen? ⟨g, j, none⟩ = false := by
  have := (E.boxes _ hg).2
  simp [World.cell?, World.frozen?, this, hj]

/-- a row of n elements that lies in one of the boxes -/
def BoxRow (C : List Box) (e : TypeId) (size : Nat) (v : Value) (n : Nat) (xs : List Value) : Prop :=
  xs.length = n * size ∧ ((v = .slice none 0 0 ∧ n = 0) ∨ ∃ g cap cur, v = .slice (some ⟨g, 0, none⟩) n cap ∧ (g, Obj.cells cur e (0, 0)) ∈ C ∧ n ≤ cap ∧ cap ≤ maxLen ∧ cur.size = cap * size ∧ cur.toList.take (n * size) = xs)
theorem BoxRow.nil (C : List Box) (e : TypeId) (size : Nat) : BoxRow C e size (.slice none 0 0) 0 [] := ⟨by simp, .inl ⟨rfl, rfl⟩⟩
theorem BoxRow.owns {L : List RSl} {e : TypeId} {size n : Nat} {v : Value} {xs : List Value} (h : BoxRow C e size v n xs) (E : Env w0 τ w S L C) : w.ownsRow 0 e size v n xs := by
  rcases h with ⟨h1, h2 | ⟨g, cap, cur, h3, h4, h5⟩⟩
  · exact ⟨h1, .inl h2⟩
  · exact ⟨h1, .inr ⟨g, cap, cur, h3, Nat.zero_le _, (E.boxes _ h4).2, h5⟩⟩
theorem BoxRow.mono {C' : List Box} {e : TypeId} {size n : Nat} {v : Value} {xs : List Value} (h : BoxRow C e size v n xs) (hc : ∀ x ∈ C, (v.ownBlock = some x.1) → x ∈ C') : BoxRow C' e size v n xs := by
  rcases h with ⟨h1, h2 | ⟨g, cap, cur, h3, h4, h5⟩⟩
  · exact ⟨h1, .inl h2⟩
  · exact ⟨h1, .inr ⟨g, cap, cur, h3, hc _ h4 (by rw [h3]; rfl), h5⟩⟩
/-- a row that a call has made: its block is taken in -/
theorem BoxRow.ofOwns {L : List RSl} {B : Nat} {e : TypeId} {size n : Nat} {v : Value} {xs : List Value} (E : Env w0 τ w S L C) (hb : Below w.heap.size w w') (h : w'.ownsRow B e size v n xs) (hB : w.heap.size ≤ B) :
    ∃ τ' C', Env w0 τ' w' S L C' ∧ BoxRow C' e size v n xs ∧ (∀ x ∈ C, x ∈ C') ∧ (∀ x ∈ C', x ∈ C ∨ (w.heap.size ≤ x.1 ∧ v.ownBlock = some x.1)) := by
  rcases h with ⟨h1, h2 | ⟨g, cap, cur, h3, h4, h5, h6⟩⟩
  · exact ⟨τ, C, E.stay hb, ⟨h1, .inl h2⟩, fun x hx => hx, fun x hx => .inl hx⟩
  · refine ⟨_, _, E.adopt hb (Nat.le_trans hB h4) h5, ⟨h1, .inr ⟨g, cap, cur, h3, List.mem_cons_self .., h6⟩⟩, fun x hx => List.mem_cons_of_mem _ hx, fun x hx => ?_⟩
    rcases List.mem_cons.1 hx with rfl | hx
    · exact .inr ⟨Nat.le_trans hB h4, by rw [h3]; rfl⟩
    · exact .inl hx
/-- a row in a box grows, in place or into a new box -/
theorem BoxRow.grow {L : List RSl} {e : TypeId} {size n m : Nat} {v v' : Value} {xs news : List Value} {wA w2 : World} (h : BoxRow C e size v n xs) (E : Env w0 τ w S L C) (hs : ∀ z ∈ S, z.s ≠ boxS) (hbA : Below w.heap.size w wA)
    (hown : w2.ownsRow 0 e size v' (n + m) (xs ++ news)) (hg : (∃ a cap, v = .slice a n cap ∧ v' = .slice a (n + m) cap ∧ wA.grownBy w2 v.ownBlock) ∨ (v'.ownBlock = some wA.heap.size ∧ wA.grownBy w2 none)) :
    ∃ τ' C', Env w0 τ' w2 S L C' ∧ BoxRow C' e size v' (n + m) (xs ++ news) ∧ (∀ x ∈ C, v.ownBlock ≠ some x.1 → x ∈ C') ∧ (∀ x ∈ C', x ∈ C ∨ v'.ownBlock = some x.1) ∧ (v'.ownBlock = v.ownBlock ∨ ((∀ x ∈ C, x ∈ C') ∧ v'.ownBlock = some wA.heap.size)) := by
  have EA := E.stay hbA
  rcases hg with ⟨a, cap0, hva, hva', hg⟩ | ⟨hb, hg⟩
  · have hb : v'.ownBlock = v.ownBlock := by rw [hva, hva']; cases a <;> rfl
    rcases hown with ⟨h1, h2 | ⟨g, cap, cur, h3, h4, h5, h6⟩⟩
    · obtain ⟨rfl, h0⟩ := h2
      have hvn : v.ownBlock = none := hb.symm.trans rfl
      rw [hvn] at hg
      have hbel : Below wA.heap.size wA w2 := ⟨hg.os, hg.tape, hg.output, hg.size, fun j hj => hg.block j hj (by simp)⟩
      exact ⟨τ, C, EA.stay hbel, ⟨h1, .inl ⟨rfl, h0⟩⟩, fun x hx _ => hx, fun x hx => .inl hx, .inl hb⟩
    · have hvg : v.ownBlock = some g := by rw [← hb, h3]; rfl
      rcases h with ⟨_, ⟨h7, _⟩ | ⟨g', cap', cur', h7, h8, _⟩⟩
      · rw [h7] at hvg; cases hvg
      · rw [h7] at hvg
        cases hvg
        rw [h7] at hg
        refine ⟨τ, _, EA.change hs h8 hg h5, ⟨h1, .inr ⟨g', cap, cur, h3, mem_upd h8, h6⟩⟩, fun x hx hn => mem_upd_ne hx (fun e => hn (by rw [h7, e]; rfl)), fun x hx => ?_, .inl (by rw [hb])⟩
        rcases of_mem_upd hx with rfl | ⟨hx, _⟩
        · exact .inr (by rw [h3]; rfl)
        · exact .inl hx
  · have hbel : Below wA.heap.size wA w2 := ⟨hg.os, hg.tape, hg.output, hg.size, fun j hj => hg.block j hj (by simp)⟩
    rcases hown with ⟨h1, h2 | ⟨g, cap, cur, h3, h4, h5, h6⟩⟩
    · rw [h2.1] at hb; cases hb
    · have hgw : g = wA.heap.size := by rw [h3] at hb; cases hb; rfl
      refine ⟨_, _, EA.adopt hbel (g := g) (by omega) h5, ⟨h1, .inr ⟨g, cap, cur, h3, List.mem_cons_self .., h6⟩⟩, fun x hx _ => List.mem_cons_of_mem _ hx, fun x hx => ?_, .inr ⟨fun x hx => List.mem_cons_of_mem _ hx, hb⟩⟩
      rcases List.mem_cons.1 hx with rfl | hx
      · exact .inr (by rw [h3]; rfl)
      · exact .inl hx
/-- what stood in the row stands there still, by the old slice -/
theorem BoxRow.before {C' : List Box} {e : TypeId} {size n m : Nat} {a : Option Addr} {cap : Nat} {xs news : List Value} (h : BoxRow C e size (.slice a n cap) n xs) (h' : BoxRow C' e size (.slice a (n + m) cap) (n + m) (xs ++ news)) : BoxRow C' e size (.slice a n cap) n xs := by
  rcases h with ⟨h1, ⟨h2, h3⟩ | ⟨g, cap1, cur, h3, h4, h5, h6, h7, h8⟩⟩
  · exact ⟨h1, .inl ⟨h2, h3⟩⟩
  · cases h3
    rcases h' with ⟨q1, ⟨q2, q3⟩ | ⟨g', cap', cur', q3, q4, q5, q6, q7, q8⟩⟩
    · cases q2
    · cases q3
      refine ⟨h1, .inr ⟨g, cap, cur', rfl, q4, h5, h6, q7, ?_⟩⟩
      have := congrArg (List.take (n * size)) q8
      have hx : (xs ++ news).take (n * size) = xs := by rw [List.take_append_of_le_length (by omega)]; exact List.take_of_length_le (by omega)
      rw [List.take_take, Nat.min_eq_left (Nat.mul_le_mul_right _ (by omega)), hx] at this
      exact this
theorem BoxRow.shape {e : TypeId} {size n : Nat} {v : Value} {xs : List Value} (h : BoxRow C e size v n xs) : ∃ a c, v = .slice a n c := by
  rcases h with ⟨_, ⟨h, h0⟩ | ⟨g, cap, cur, h, _⟩⟩
  · exact ⟨none, 0, by rw [h, h0]⟩
  · exact ⟨_, _, h⟩
theorem BoxRow.box {e : TypeId} {size n g : Nat} {v : Value} {xs : List Value} (h : BoxRow C e size v n xs) (hg : v.ownBlock = some g) : ∃ cur, (g, Obj.cells cur e (0, 0)) ∈ C := by
  rcases h with ⟨_, ⟨h, h0⟩ | ⟨g', cap, cur, h, hc, _⟩⟩
  · rw [h] at hg; cases hg
  · rw [h] at hg; cases hg; exact ⟨cur, hc⟩
/-- rows of other elements lie in other blocks -/
theorem BoxRow.apart {L : List RSl} {e1 e2 : TypeId} {s1 s2 n1 n2 g : Nat} {v1 v2 : Value} {x1 x2 : List Value} (h1 : BoxRow C e1 s1 v1 n1 x1) (h2 : BoxRow C e2 s2 v2 n2 x2) (E : Env w0 τ w S L C) (hne : e1 ≠ e2) (hg : v1.ownBlock = some g) : v2.ownBlock ≠ some g := fun hg2 => by
  obtain ⟨c1, m1⟩ := h1.box hg
  obtain ⟨c2, m2⟩ := h2.box hg2
  have := E.one m1 m2
  simp only [Obj.cells.injEq] at this
  exact hne this.2.1
theorem BoxRow.apartHead {L : List RSl} {e1 e2 : TypeId} {s1 n1 g : Nat} {v1 : Value} {x1 : List Value} {cs : Array Value} (h1 : BoxRow C e1 s1 v1 n1 x1) (h2 : (g, Obj.cells cs e2 (0, 0)) ∈ C) (E : Env w0 τ w S L C) (hne : e1 ≠ e2) : v1.ownBlock ≠ some g := fun hg => by
  obtain ⟨c1, m1⟩ := h1.box hg
  have := E.one m1 h2
  simp only [Obj.cells.injEq] at this
  exact hne this.2.1
end
end Go.Proofs.Ytgodidoibcomcaa.Bk
