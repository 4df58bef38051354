/-
  The book of StoreScript, StoreTries, StoreEach: several of its texts in one.
-/
import Derived.Test.YtgodidoibcomcaaK2
import Derived.Test.YtgodidoibcomcaaSCopy
import Derived.Test.YtgodidoibcomcaaSOpen
namespace Go.Proofs.Ytgodidoibcomcaa.Bk
open Go.RowKit Go.Proofs.Ytgodidoibcomcaa

/-- births are none beyond the counts; the lows are no more than the rows -/
structure PrOk (p : Pr) : Prop where
  len : p.born.length = p.rs.length
  st : ∀ x ∈ p.rs, x.2 ≤ (p.n : Int)
  rf : ∀ x ∈ p.born, x ≤ (p.clock : Int)
  low : ∀ x ∈ p.lows, x.2 ≤ (p.rs.length : Int)
def lowTo (m : Nat) (ls : List (Nat × Int)) : List (Nat × Int) := ls.map fun x => (x.1, min x.2 (m : Int))
/-- the first m rows are those that were there; m is the least that there were meanwhile -/
structure LaterM (m : Nat) (p p' : Pr) : Prop where
  sb : p'.sb = p.sb
  rb : p'.rb = p.rb
  n : p.n ≤ p'.n
  clock : p.clock ≤ p'.clock
  ex : ∃ (new : List (Row × Int)) (newb : List Int), m ≤ p.rs.length ∧ p'.rs = p.rs.take m ++ new ∧ p'.born = p.born.take m ++ newb ∧ new.length = newb.length ∧
    (∀ x ∈ new, (p.n : Int) < x.2 ∧ x.2 ≤ (p'.n : Int)) ∧ (∀ x ∈ newb, (p.clock : Int) < x ∧ x ≤ (p'.clock : Int)) ∧ p'.lows = lowTo m p.lows
def Later (p p' : Pr) : Prop := ∃ m, LaterM m p p'
theorem Later.sb {p p' : Pr} (h : Later p p') : p'.sb = p.sb := by obtain ⟨m, h⟩ := h; exact h.sb
theorem Later.rb {p p' : Pr} (h : Later p p') : p'.rb = p.rb := by obtain ⟨m, h⟩ := h; exact h.rb
theorem lowTo_length (m : Nat) (ls : List (Nat × Int)) : (lowTo m ls).length = ls.length := List.length_map _
theorem Later.lows {p p' : Pr} (h : Later p p') : p'.lows.length = p.lows.length := by
  obtain ⟨m, h⟩ := h
  obtain ⟨_, _, _, _, _, _, _, _, h⟩ := h.ex
  rw [h, lowTo_length]

theorem lowTo_id {m : Nat} {ls : List (Nat × Int)} (h : ∀ x ∈ ls, x.2 ≤ (m : Int)) : lowTo m ls = ls := by
  unfold lowTo
  induction ls with
  | nil => rfl
  | cons x l ih =>
    rw [List.map_cons, ih fun y hy => h y (List.mem_cons_of_mem _ hy)]
    have := h x (List.mem_cons_self ..)
    congr 1
    rw [Int.min_eq_left this]
theorem lowTo_lowTo (m k : Nat) (ls : List (Nat × Int)) : lowTo k (lowTo m ls) = lowTo (min m k) ls := by
  unfold lowTo
  rw [List.map_map]
  apply List.map_congr_left
  intro x _
  simp only [Function.comp]
  congr 1
  omega
theorem Later.refl {p : Pr} (h : PrOk p) : Later p p :=
  ⟨p.rs.length, rfl, rfl, Nat.le_refl _, Nat.le_refl _, [], [], Nat.le_refl _, by simp, by rw [← h.len]; simp, rfl, fun x hx => (by cases hx), fun x hx => (by cases hx), (lowTo_id h.low).symm⟩
theorem Later.ok {p p' : Pr} (h : Later p p') (k : PrOk p) : PrOk p' := by
  obtain ⟨m, h1, h2, h3, h4, new, newb, hm, e1, e2, e3, e4, e5, e6⟩ := h
  refine ⟨?_, fun x hx => ?_, fun x hx => ?_, fun x hx => ?_⟩
  · rw [e1, e2, List.length_append, List.length_append, List.length_take, List.length_take, k.len, e3]
  · rw [e1, List.mem_append] at hx
    rcases hx with hx | hx
    · have := k.st x (List.mem_of_mem_take hx)
      omega
    · exact (e4 x hx).2
  · rw [e2, List.mem_append] at hx
    rcases hx with hx | hx
    · have := k.rf x (List.mem_of_mem_take hx)
      omega
    · exact (e5 x hx).2
  · rw [e6] at hx
    unfold lowTo at hx
    obtain ⟨y, hy, rfl⟩ := List.mem_map.1 hx
    rw [e1, List.length_append, List.length_take, Nat.min_eq_left hm]
    simp only
    omega
theorem Later.trans {p p1 p2 : Pr} (k : PrOk p) (h : Later p p1) (g : Later p1 p2) : Later p p2 := by
  have hl := k.len
  obtain ⟨m, h1, h2, h3, h4, new, newb, hm, e1, e2, e3, e4, e5, e6⟩ := h
  obtain ⟨j, g1, g2, g3, g4, nxt, nxtb, hj, f1, f2, f3, f4, f5, f6⟩ := g
  have lt1 : (p.rs.take m).length = m := by rw [List.length_take]; omega
  have lt2 : (p.born.take m).length = m := by rw [List.length_take]; omega
  by_cases hjm : j ≤ m
  · refine ⟨j, g1.trans h1, g2.trans h2, by omega, by omega, nxt, nxtb, by omega, ?_, ?_, f3, fun x hx => ?_, fun x hx => ?_, ?_⟩
    · rw [f1, e1, List.take_append_of_le_length (by omega), List.take_take, Nat.min_eq_left hjm]
    · rw [f2, e2, List.take_append_of_le_length (by omega), List.take_take, Nat.min_eq_left hjm]
    · have := f4 x hx
      omega
    · have := f5 x hx
      omega
    · rw [f6, e6, lowTo_lowTo, Nat.min_eq_right hjm]
  · refine ⟨m, g1.trans h1, g2.trans h2, by omega, by omega, new.take (j - m) ++ nxt, newb.take (j - m) ++ nxtb, hm, ?_, ?_, ?_, fun x hx => ?_, fun x hx => ?_, ?_⟩
    · rw [f1, e1, List.take_append, lt1, List.take_of_length_le (by omega), List.append_assoc]
    · rw [f2, e2, List.take_append, lt2, List.take_of_length_le (by omega), List.append_assoc]
    · rw [List.length_append, List.length_append, List.length_take, List.length_take, e3, f3]
    · rcases List.mem_append.1 hx with hx | hx
      · have := e4 x (List.mem_of_mem_take hx)
        omega
      · have := f4 x hx
        omega
    · rcases List.mem_append.1 hx with hx | hx
      · have := e5 x (List.mem_of_mem_take hx)
        omega
      · have := f5 x hx
        omega
    · rw [f6, e6, lowTo_lowTo, Nat.min_eq_left (by omega)]
/-- Undo -/
theorem Later.cut {p : Pr} {m : Nat} (hm : m ≤ p.rs.length) : Later p { p with rs := p.rs.take m, born := p.born.take m, lows := lowTo m p.lows } :=
  ⟨m, rfl, rfl, Nat.le_refl _, Nat.le_refl _, [], [], hm, by simp, by simp, rfl, fun x hx => (by cases hx), fun x hx => (by cases hx), rfl⟩
/-- a row that was there is there still just if its reference's is -/
def Alive (p : Pr) (i : Nat) (t b : Int) : Prop := ((p.rs[i]?.map (·.2)) = some t ↔ p.born[i]? = some b) ∧ t ≤ (p.n : Int) ∧ b ≤ (p.clock : Int)
theorem Alive.later {p p' : Pr} (k : PrOk p) (h : Later p p') {i : Nat} {t b : Int} (a : Alive p i t b) : Alive p' i t b := by
  have hl := k.len
  obtain ⟨a1, a2, a3⟩ := a
  obtain ⟨m, h1, h2, h3, h4, new, newb, hm, e1, e2, e3, e4, e5, e6⟩ := h
  have lt1 : (p.rs.take m).length = m := by rw [List.length_take]; omega
  have lt2 : (p.born.take m).length = m := by rw [List.length_take]; omega
  refine ⟨?_, by omega, by omega⟩
  rw [e1, e2, List.getElem?_append, List.getElem?_append, lt1, lt2]
  by_cases hi : i < m
  · rw [if_pos hi, if_pos hi, List.getElem?_take, List.getElem?_take, if_pos hi, if_pos hi]
    exact a1
  · rw [if_neg hi, if_neg hi]
    constructor
    · intro e
      obtain ⟨x, hx, e⟩ := Option.map_eq_some_iff.1 e
      have := (e4 x (List.mem_of_getElem? hx)).1
      omega
    · intro e
      have := (e5 _ (List.mem_of_getElem? e)).1
      omega

/-- what steps of a script make of a book -/
structure BLater (β β' : Book) : Prop where
  more : β.ps.length ≤ β'.ps.length
  each : ∀ (k : Nat) (p : Pr), β.ps[k]? = some p → ∃ p', β'.ps[k]? = some p' ∧ Later p p'
  ok : ∀ p ∈ β'.ps, PrOk p
  low : ∀ M, (∀ p ∈ β.ps, p.lows.length ≤ M) → ∀ p ∈ β'.ps, p.lows.length ≤ M
theorem BLater.refl {β : Book} (h : ∀ p ∈ β.ps, PrOk p) : BLater β β := ⟨Nat.le_refl _, fun _ p hp => ⟨p, hp, Later.refl (h p (List.mem_of_getElem? hp))⟩, h, fun _ h => h⟩
theorem BLater.trans {β β1 β2 : Book} (h : ∀ p ∈ β.ps, PrOk p) (a : BLater β β1) (b : BLater β1 β2) : BLater β β2 :=
  ⟨Nat.le_trans a.more b.more, fun k p hp => by
    obtain ⟨p1, h1, l1⟩ := a.each k p hp
    obtain ⟨p2, h2, l2⟩ := b.each k p1 h1
    exact ⟨p2, h2, l1.trans (h p (List.mem_of_getElem? hp)) l2⟩, b.ok, fun M hM => b.low M (a.low M hM)⟩
/-- only the store of the number k turned -/
theorem BLater.set {β : Book} (h : ∀ p ∈ β.ps, PrOk p) {k : Nat} {p p' : Pr} (hp : β.ps[k]? = some p) (l : Later p p') {β' : Book} (e : β'.ps = β.ps.set k p') : BLater β β' := by
  have hk := (List.getElem?_eq_some_iff.1 hp).1
  refine ⟨by rw [e, List.length_set]; exact Nat.le_refl _, fun j q hq => ?_, fun q hq => ?_, fun M hM q hq => ?_⟩
  · rw [e, List.getElem?_set]
    split
    · rename_i ej
      subst ej
      rw [hq] at hp
      cases hp
      exact ⟨p', rfl, l⟩
    · exact ⟨q, hq, Later.refl (h q (List.mem_of_getElem? hq))⟩
  · rw [e] at hq
    rcases List.mem_or_eq_of_mem_set hq with hq | rfl
    · exact h q hq
    · exact l.ok (h p (List.mem_of_getElem? hp))
  · rw [e] at hq
    rcases List.mem_or_eq_of_mem_set hq with hq | rfl
    · exact hM q hq
    · rw [l.lows]
      exact hM p (List.mem_of_getElem? hp)

/-- how much a book may hold behind steps of the bulk u, where all is of the bulk U -/
structure Lim (U : Nat) (β : Book) (u : Nat) : Prop where
  ps : 8 * β.ps.length ≤ u + 8
  rs : ∀ p ∈ β.ps, p.rs.length ≤ u ∧ p.n ≤ u ∧ p.clock ≤ u
  next0 : 0 ≤ β.next
  next : 8 * β.next ≤ ((u * (12 * U + 100) : Nat) : Int)
  lists : 8 * β.lists.length ≤ u * (2 * U + 8)
theorem Lim.mono {U u v : Nat} {β : Book} (h : Lim U β u) (hv : u ≤ v) : Lim U β v :=
  ⟨by have := h.ps; omega, fun p hp => by have := h.rs p hp; omega, h.next0, by
    have := h.next
    have := Nat.mul_le_mul_right (12 * U + 100) hv
    omega, by
    have := h.lists
    have := Nat.mul_le_mul_right (2 * U + 8) hv
    omega⟩
end Go.Proofs.Ytgodidoibcomcaa.Bk

namespace Go.Proofs.Ytgodidoibcomcaa.Bk
open Go.RowKit Go.Proofs.Ytgodidoibcomcaa

/-- the rows l in a slice of the call's own; each row's list lies in a block of its own -/
structure DRows (B : Nat) (w : World) (v : Value) (l : List Row) (cs vs : List Value) : Prop where
  own : w.ownsRow B 28 2 v l.length cs
  len : vs.length = l.length
  row : ∀ i r, l[i]? = some r → ∃ a c, vs[i]? = some (.slice a r.2.length c) ∧ cs[i * 2]? = some (.int .i64 r.1) ∧ cs[i * 2 + 1]? = some (.slice a r.2.length c) ∧ w.ownsRow B 3 1 (.slice a r.2.length c) r.2.length (r.2.map (Value.int .i64))
  far : ∀ (i : Nat) u g, vs[i]? = some u → u.ownBlock = some g → v.ownBlock ≠ some g
  once : ∀ (i j : Nat) u u' g, vs[i]? = some u → vs[j]? = some u' → u.ownBlock = some g → u'.ownBlock = some g → i = j
theorem DRows.nil (B : Nat) (w : World) : DRows B w (.slice none 0 0) [] [] [] :=
  ⟨World.ownsRow_nil _ _ _ _, rfl, fun i r h => by simp at h, fun i u g h => by simp at h, fun i j u u' g h => by simp at h⟩
theorem DRows.some_at {B : Nat} {w : World} {v : Value} {l : List Row} {cs vs : List Value} (h : DRows B w v l cs vs) {i : Nat} {u : Value} (hu : vs[i]? = some u) : ∃ r, l[i]? = some r ∧ w.ownsRow B 3 1 u r.2.length (r.2.map (Value.int .i64)) := by
  have hi : i < l.length := by rw [← h.len]; exact (List.getElem?_eq_some_iff.1 hu).1
  obtain ⟨a, c, h1, _, _, h4⟩ := h.row i _ (List.getElem?_eq_getElem hi)
  rw [hu] at h1
  cases h1
  exact ⟨_, List.getElem?_eq_getElem hi, h4⟩
/-- all blocks of it stay -/
theorem DRows.keep {B : Nat} {w w' : World} {v : Value} {l : List Row} {cs vs : List Value} (h : DRows B w v l cs vs) (h1 : ∀ g, v.ownBlock = some g → w'.heap[g]? = w.heap[g]?) (h2 : ∀ (i : Nat) u g, vs[i]? = some u → u.ownBlock = some g → w'.heap[g]? = w.heap[g]?) : DRows B w' v l cs vs :=
  ⟨owns_block h.own h1, h.len, fun i r hr => by
    obtain ⟨a, c, q1, q2, q3, q4⟩ := h.row i r hr
    exact ⟨a, c, q1, q2, q3, owns_block q4 (fun g e => h2 i _ g q1 e)⟩, h.far, h.once⟩
theorem DRows.below {B : Nat} {w w' : World} {v : Value} {l : List Row} {cs vs : List Value} (h : DRows B w v l cs vs) (hb : Below w.heap.size w w') : DRows B w' v l cs vs :=
  h.keep (fun g e => hb.block g (h.own.lt g e).2) (fun i u g hu e => by
    obtain ⟨r, _, ho⟩ := h.some_at hu
    exact hb.block g (ho.lt g e).2)
theorem DRows.low {B : Nat} {w : World} {v : Value} {l : List Row} {cs vs : List Value} (h : DRows B w v l cs vs) : DRows 0 w v l cs vs :=
  ⟨owns_low h.own (Nat.zero_le _), h.len, fun i r hr => by
    obtain ⟨a, c, q1, q2, q3, q4⟩ := h.row i r hr
    exact ⟨a, c, q1, q2, q3, owns_low q4 (Nat.zero_le _)⟩, h.far, h.once⟩
theorem app_last {α : Type} {l : List α} {x y : α} {i : Nat} (h : (l ++ [x])[i]? = some y) : l[i]? = some y ∨ (i = l.length ∧ y = x) := by
  by_cases hi : i < l.length
  · rw [List.getElem?_append_left hi] at h
    exact .inl h
  · have h2 := (List.getElem?_eq_some_iff.1 h).1
    have : i = l.length := by simp at h2; omega
    subst this
    rw [List.getElem?_append_right (Nat.le_refl _)] at h
    simp at h
    exact .inr ⟨rfl, h.symm⟩
theorem DRows.push {B : Nat} {wr wA w2 : World} {v v' : Value} {l : List Row} {cs vs : List Value} {p : Int} {xs : List Int} {a : Option Addr} {c : Nat} (h : DRows B wr v l cs vs) (hB : B ≤ wr.heap.size) (hbA : Below wr.heap.size wr wA)
    (hI : wA.ownsRow wr.heap.size 3 1 (.slice a xs.length c) xs.length (xs.map (Value.int .i64))) (hown : w2.ownsRow B 28 2 v' (l.length + 1) (cs ++ [.int .i64 p, .slice a xs.length c])) (hg : wA.grownBy w2 v.ownBlock) (hb : v'.ownBlock = v.ownBlock ∨ v'.ownBlock = some wA.heap.size) :
    DRows B w2 v' (l ++ [(p, xs)]) (cs ++ [.int .i64 p, .slice a xs.length c]) (vs ++ [.slice a xs.length c]) := by
  have hl := h.own.1
  have hsA := hbA.size
  have hlt : ∀ (i : Nat) u g, vs[i]? = some u → u.ownBlock = some g → g < wr.heap.size := fun i u g hu e => by
    obtain ⟨r, _, ho⟩ := h.some_at hu
    exact (ho.lt g e).2
  have hv : ∀ g, v.ownBlock = some g → g < wr.heap.size := fun g e => (h.own.lt g e).2
  have hv' : ∀ g, v'.ownBlock = some g → v.ownBlock = some g ∨ g = wA.heap.size := fun g e => by
    rcases hb with hb | hb
    · exact .inl (by rw [← hb]; exact e)
    · rw [hb] at e; cases e; exact .inr rfl
  have hI2 : w2.ownsRow wr.heap.size 3 1 (.slice a xs.length c) xs.length (xs.map (Value.int .i64)) := owns_block hI (fun g e => hg.block g (hI.lt g e).2 (fun e' => by
    have h1 := (hI.lt g e).1
    have h2 := hv g e'.symm
    omega))
  refine ⟨by simpa using hown, by simp [h.len], fun i r hr => ?_, fun i u g hu e => ?_, fun i j u u' g hu hu' e e' => ?_⟩
  · rcases app_last hr with hr | ⟨rfl, rfl⟩
    · obtain ⟨a', c', q1, q2, q3, q4⟩ := h.row i r hr
      have hi := (List.getElem?_eq_some_iff.1 hr).1
      exact ⟨a', c', by rw [List.getElem?_append_left (by rw [h.len]; exact hi)]; exact q1, by rw [List.getElem?_append_left (by omega)]; exact q2, by rw [List.getElem?_append_left (by omega)]; exact q3,
        owns_block q4 (fun g e => (hg.block g (by have := (q4.lt g e).2; omega) (fun e' => h.far i _ g q1 e e'.symm)).trans (hbA.block g (q4.lt g e).2))⟩
    · refine ⟨a, c, by rw [List.getElem?_append_right (by rw [h.len]; exact Nat.le_refl _), h.len, Nat.sub_self]; rfl, by rw [List.getElem?_append_right (by omega), show l.length * 2 - cs.length = 0 from by omega]; rfl, by rw [List.getElem?_append_right (by omega), show l.length * 2 + 1 - cs.length = 1 from by omega]; rfl, owns_low hI2 hB⟩
  · intro ev
    rcases app_last hu with hu | ⟨rfl, rfl⟩
    · rcases hv' g ev with q | q
      · exact h.far i u g hu e q
      · have := hlt i u g hu e
        omega
    · have h1 := (hI.lt g e)
      rcases hv' g ev with q | q
      · have := hv g q
        omega
      · omega
  · rcases app_last hu with hu | ⟨rfl, rfl⟩ <;> rcases app_last hu' with hu' | ⟨rfl, rfl⟩
    · exact h.once i j u u' g hu hu' e e'
    · have h1 := hlt i u g hu e
      have h2 := (hI.lt g e').1
      omega
    · have h1 := hlt j u' g hu' e'
      have h2 := (hI.lt g e).1
      omega
    · rfl
theorem DRows.rowsZ {B : Nat} {w : World} {v : Value} {l : List Row} {cs vs : List Value} (h : DRows B w v l cs vs) {Z : Nat → Prop} (h1 : ∀ g, v.ownBlock = some g → Z g) (h2 : ∀ (i : Nat) u g, vs[i]? = some u → u.ownBlock = some g → Z g) (n : Nat) (hn : n ≤ l.length) :
    ∃ a c, v = .slice a l.length c ∧ RowsZ Z w a c (l.take n) := by
  rcases owns_form h.own with ⟨rfl, h0, _⟩ | ⟨g, cap, rfl, _, _, _, _, hv, hcell, _⟩
  · have : l = [] := List.eq_nil_of_length_eq_zero h0
    subst this
    exact ⟨none, 0, rfl, .inl (by simp), fun _ => ⟨by simp, rfl⟩⟩
  · refine ⟨_, _, rfl, .inr ⟨g, 0, rfl, h1 g hv, fun i hi => ?_⟩, fun h => by cases h⟩
    have hi2 : i < l.length := by simp at hi; omega
    obtain ⟨a, c, q1, q2, q3, q4⟩ := h.row i _ (List.getElem?_eq_getElem hi2)
    rw [List.getElem_take]
    refine ⟨by rw [Nat.zero_add]; exact hcell _ _ q2, a, c, by rw [Nat.zero_add]; exact hcell _ _ q3, ?_⟩
    rcases owns_form q4 with ⟨e, h0, _⟩ | ⟨ga, ca, e, _, _, _, _, hva, hca, _⟩
    · simp only [Value.slice.injEq] at e
      obtain ⟨rfl, -, rfl⟩ := e
      exact ⟨.inl (List.eq_nil_of_length_eq_zero h0), fun _ => ⟨List.eq_nil_of_length_eq_zero h0, rfl⟩⟩
    · simp only [Value.slice.injEq, true_and] at e
      obtain ⟨rfl, rfl⟩ := e
      exact ⟨.inr ⟨ga, 0, rfl, h2 i _ ga q1 hva, fun j hj => by rw [Nat.zero_add]; exact hca j _ (by rw [List.getElem?_map, List.getElem?_eq_getElem hj]; rfl)⟩, fun h => by cases h⟩

set_option maxHeartbeats 2000000 in
theorem drows_any {Z : Nat → Prop} (aa : Option Addr) (ca : Nat) (l : List Row) (w : World) (ha : RowsZ Z w aa ca l) (hm : ∀ r ∈ l, r.2.length * 8 ≤ 140737488351232) (hl : l.length * 32 ≤ 140737488351232) :
    Calls Try.prog 40 #[.slice aa l.length ca] w fun e w' => ∃ v cs vs, e = .returned v ∧ DRows w.heap.size w' v l cs vs ∧ Below w.heap.size w w' := by
  have HA := Lib.hid ha
  have HM := Lib.hid hm
  clear ha hm
  go_enter Try.func40, Try.ntmps40
  go_wp2
  go_loopw [3, 4] (fun v i wr => ∃ (k : Nat) (cs vs : List Value), k ≤ l.length ∧ i = .int .i64 k ∧ Hid (DRows w.heap.size wr v (l.take k) cs vs) ∧ Below w.heap.size w wr) (fun _ i _ => l.length - (intOf i).toNat)
  case atStart => exact ⟨0, [], [], Nat.zero_le _, rfl, Lib.hid (DRows.nil _ _), Below.refl _ _⟩
  case round =>
    obtain ⟨k, cs, vs, hk, rfl, HO, hbel⟩ := hrel
    by_cases hlt : k < l.length
    · rcases HA.out.1 with h | ⟨b, o, rfl, _, hc⟩
      · rw [h] at hlt; simp at hlt
      · obtain ⟨p, ai, ci, xs, c0, c1, HI, HX⟩ := rows_at hc hlt
        have e0 := (hbel.cell (World.block_lt_of_cell? _ _ c0)).trans c0
        have e1 := (hbel.cell (World.block_lt_of_cell? _ _ c1)).trans c1
        have lb := World.block_lt_of_cell? _ _ c0
        clear hc c0 c1
        have hxl := HM.out (p, xs) (List.mem_of_getElem? HX.out)
        simp only at hxl lb
        have cI := fun (W : World) (hW : Below w.heap.size w W) => Lib.hid (lints_own ai ci xs W (HI.out.below hW (Nat.le_refl _)).ints hxl)
        have hown := HO.out.own
        have hlk : (l.take k).length = k := by simp; omega
        rw [hlk] at hown
        have sz := hbel.size
        go_wp2
        go_region_held3 (fun w' => Below w.heap.size w w' ∧ w'.cell? ⟨b, o + k * 2, none⟩ = some (.int .i64 p) ∧ w'.cell? ⟨b, o + k * 2 + 1, none⟩ = some (.slice ai xs.length ci)) (first | assumption | exact ⟨hbel.drew, e0, e1⟩ | exact ⟨hS.1.alloc hS.1.size _, by go_keep, by go_keep⟩ | go_keep) (first
          | (go_at_call 38
             have hH := (‹Below w.heap.size w _ ∧ _ ∧ _›)
             with_reducible refine (cI _ hH.1).out.mono ?_
             rintro e w1 ⟨v1, rfl, hO1, hb1⟩
             obtain ⟨a1, c1, rfl⟩ := owns_shape hO1
             have hS : Below w.heap.size w w1 ∧ w1.cell? ⟨b, o + k * 2, none⟩ = some (.int .i64 p) ∧ w1.cell? ⟨b, o + k * 2 + 1, none⟩ = some (.slice ai xs.length ci) := ⟨hH.1.trans (hb1.mono hH.1.size), on_cell hb1 hH.2.1, on_cell hb1 hH.2.2⟩
             have hw1 : Below wr.heap.size wr w1 := (Below.refl _ _).drew.trans hb1
             have hI1 : w1.ownsRow wr.heap.size 3 1 (.slice a1 xs.length c1) xs.length (xs.map (Value.int .i64)) := hO1
             have hown1 := owns_below hown hw1 (Nat.le_refl _)
             have sz1 := hw1.size)
          | (refine step_append_any elemRow _ rfl _ _ rfl w.heap.size _ k cs rfl (by exact hown1.alloc _) (some ⟨w1.heap.size, 0, none⟩) 1 1 [.int .i64 p, .slice a1 xs.length c1] rfl (by exact source_new w1 [.int .i64 p, .slice a1 xs.length c1] 28) rfl (by simp [Value.oneCell']) (by unfold maxLen; omega) (by omega) (by simp; omega) ?_
             intro v' w2 hown2 hgrow hblk
             have hgrow2 : (w1.alloc (.cells #[.int .i64 p, .slice a1 xs.length c1] 28)).grownBy w2 u3.ownBlock := hgrow
             have hblk2 : v'.ownBlock = u3.ownBlock ∨ v'.ownBlock = some (w1.alloc (.cells #[.int .i64 p, .slice a1 xs.length c1] 28)).heap.size := hblk
             clear hgrow hblk
             have hgb : Below w.heap.size w w2 := (hS.1.alloc hS.1.size _).trans (grown_below hgrow2 (fun j hj => (hown1.lt j hj).1) (by simp; omega))
             have hS2 : Below w.heap.size w w2 ∧ w2.cell? ⟨b, o + k * 2, none⟩ = some (.int .i64 p) ∧ w2.cell? ⟨b, o + k * 2 + 1, none⟩ = some (.slice ai xs.length ci) := ⟨hgb, hgrow2.cell (by go_keep) (fun e => by have := (hown1.lt b (by rw [← e])).1; omega), hgrow2.cell (by go_keep) (fun e => by have := (hown1.lt b (by rw [← e])).1; omega)⟩))
        all_goals
          have hO : DRows w.heap.size w2 v' (l.take (k + 1)) (cs ++ [.int .i64 p, .slice a1 xs.length c1]) (vs ++ [.slice a1 xs.length c1]) := by
            rw [take_snoc' HX.out]
            exact HO.out.push sz (hw1.alloc sz1 _) (hI1.alloc _) (by rw [hlk]; exact hown2) hgrow2 hblk2
          go_wp2
          go_roundw
          case rel => exact ⟨k + 1, _, _, by omega, by go_num, Lib.hid hO, hS2.1⟩
          case measure => simp [intOf]; omega
    · have hke : k = l.length := by omega
      subst hke
      have ho := HO.out
      rw [List.take_length] at ho
      go_wp2
      go_ret
      exact ⟨_, _, _, rfl, ho, hbel⟩

/-! ### scratch: what a call made for itself, and writes -/
section
variable {w0 : World} {τ τ' : Own} {w w' : World} {S : List Ent} {L : List RSl} {C : List Box}
theorem Env.scr (E : Env w0 τ w S L C) (hs : ∀ z ∈ S, z.s ≠ boxS) (T : Turn boxS (fun r => r = .wh) τ τ' w w') : Env w0 τ' w' S L C := by
  obtain ⟨h1, h2, h3, h4, h5⟩ := E.turned T (.inr (fun h => by cases h))
  exact ⟨h1, h2, h3, fun z hz => (E.st z hz).kept T (hs z hz), h4, h5, E.keys⟩
theorem scr_new (hf : Fresh τ w) (hb : Below w.heap.size w w') : Turn boxS (fun r => r = .wh) τ (adopted boxS .wh w.heap.size w'.heap.size τ) w w' := ((Turn.of_below (R := fun r => r = .wh) (s := boxS) hb hf).adopt .wh (Nat.le_refl _))

/-- such rows in the scratch of a world -/
structure SRows (τ : Own) (w : World) (v : Value) (l : List Row) (cs vs : List Value) : Prop where
  d : DRows 0 w v l cs vs
  fresh : Fresh τ w
  hv : ∀ g, v.ownBlock = some g → τ g = some (boxS, .wh)
  hvs : ∀ (i : Nat) u g, vs[i]? = some u → u.ownBlock = some g → τ g = some (boxS, .wh)
variable {v : Value} {l : List Row} {cs vs : List Value}
theorem SRows.turn {s : Nat} {R : Role → Prop} (h : SRows τ w v l cs vs) (T : Turn s R τ τ' w w') (hs : s ≠ boxS ∨ ¬ R .wh) : SRows τ' w' v l cs vs := by
  have hk : ∀ g, τ g = some (boxS, .wh) → g < w.heap.size → w'.heap[g]? = w.heap[g]? := fun g e hg => T.keep g hg (fun r e' => by
    rw [e] at e'
    rcases hs with h | h
    · cases e'; exact absurd rfl h
    · cases e'; exact h)
  have hl : ∀ (i : Nat) u g, vs[i]? = some u → u.ownBlock = some g → g < w.heap.size := fun i u g hu e => by
    obtain ⟨r, _, ho⟩ := h.d.some_at hu
    exact (ho.lt g e).2
  exact ⟨h.d.keep (fun g e => hk g (h.hv g e) (h.d.own.lt g e).2) (fun i u g hu e => hk g (h.hvs i u g hu e) (hl i u g hu e)), T.fresh, fun g e => (T.own g (h.d.own.lt g e).2).trans (h.hv g e), fun i u g hu e => (T.own g (hl i u g hu e)).trans (h.hvs i u g hu e)⟩
theorem SRows.below (h : SRows τ w v l cs vs) (hb : Below w.heap.size w w') : SRows τ w' v l cs vs := h.turn (s := boxS) (R := fun _ => False) (Turn.of_below hb h.fresh) (.inr fun h => h)
theorem SRows.ofNew (hf : Fresh τ w) (hb : Below w.heap.size w w') (h : DRows w.heap.size w' v l cs vs) : SRows (adopted boxS .wh w.heap.size w'.heap.size τ) w' v l cs vs :=
  ⟨h.low, (scr_new hf hb).fresh, fun g e => adopted_in (h.own.lt g e).1 (h.own.lt g e).2, fun i u g hu e => by
    obtain ⟨r, _, ho⟩ := h.some_at hu
    exact adopted_in (ho.lt g e).1 (ho.lt g e).2⟩
/-- one more row, without args -/
theorem SRows.push {wA w2 : World} {v' : Value} {p : Int} (h : SRows τ w v l cs vs) (hbA : Below w.heap.size w wA) (hown : w2.ownsRow 0 28 2 v' (l.length + 1) (cs ++ [.int .i64 p, .slice none 0 0])) (hg : wA.grownBy w2 v.ownBlock) (hb : v'.ownBlock = v.ownBlock ∨ v'.ownBlock = some wA.heap.size) :
    ∃ τ2, SRows τ2 w2 v' (l ++ [(p, [])]) (cs ++ [.int .i64 p, .slice none 0 0]) (vs ++ [.slice none 0 0]) ∧ Turn boxS (fun r => r = .wh) τ τ2 w w2 := by
  have hfA : Fresh τ wA := fun j hj => h.fresh j (Nat.le_trans hbA.size hj)
  have T1 : Turn boxS (fun r => r = .wh) τ τ w wA := Turn.of_below hbA h.fresh
  have T2 : Turn boxS (fun r => r = .wh) τ (adopted boxS .wh wA.heap.size w2.heap.size τ) wA w2 := Turn.grown hg hfA .wh rfl (fun g e => h.hv g e)
  have hd : DRows 0 w2 v' (l ++ [(p, [])]) (cs ++ [.int .i64 p, .slice none 0 0]) (vs ++ [.slice none 0 0]) := h.d.push (xs := []) (Nat.zero_le _) hbA (World.ownsRow_nil _ _ _ _) hown hg hb
  have hlt : ∀ g, τ g = some (boxS, .wh) → g < w.heap.size := fun g e => by
    rcases Nat.lt_or_ge g w.heap.size with q | q
    · exact q
    · rw [h.fresh g q] at e; cases e
  have hA := hbA.size
  refine ⟨_, ⟨hd, T2.fresh, fun g e => ?_, fun i u g hu e => ?_⟩, T1.trans T2⟩
  · rcases hb with q | q
    · have := h.hv g (q ▸ e)
      rw [adopted_out (by have := hlt g this; omega)]
      exact this
    · rw [q] at e
      cases e
      exact adopted_in (Nat.le_refl _) (hd.own.lt _ q).2
  · rcases app_last hu with hu | ⟨_, rfl⟩
    · have := h.hvs i u g hu e
      rw [adopted_out (by have := hlt g this; omega)]
      exact this
    · cases e
theorem owns_set {B : Nat} {e : TypeId} {size n g : Nat} {c : Nat} {xs : List Value} (h : w.ownsRow B e size (.slice (some ⟨g, 0, none⟩) n c) n xs) {j : Nat} (u : Value) : (w.setCell ⟨g, j, none⟩ u).ownsRow B e size (.slice (some ⟨g, 0, none⟩) n c) n (xs.set j u) := by
  rcases h with ⟨h1, ⟨h2, _⟩ | ⟨g', cap, cur, h3, h4, h5, h6, h7, h8, h9⟩⟩
  · cases h2
  · cases h3
    refine ⟨by simpa using h1, .inr ⟨g, c, cur.setIfInBounds j u, rfl, h4, heap_setCell h5 u, h6, h7, by simpa using h8, ?_⟩⟩
    rw [Array.toList_setIfInBounds, List.take_set, h9]
theorem owns_other {B : Nat} {e : TypeId} {size n g : Nat} {v : Value} {xs : List Value} (h : w.ownsRow B e size v n xs) {j : Nat} (u : Value) (hn : v.ownBlock ≠ some g) : (w.setCell ⟨g, j, none⟩ u).ownsRow B e size v n xs :=
  owns_block h (fun g' e => Below.heap_setCell _ _ _ _ (fun e' => hn (by rw [e, e'])))
/-- a number of a row is written -/
theorem SRows.setArg (h : SRows τ w v l cs vs) {i : Nat} {p : Int} {xs : List Int} (hi : l[i]? = some (p, xs)) {j : Nat} (hj : j < xs.length) :
    ∃ g c, vs[i]? = some (.slice (some ⟨g, 0, none⟩) xs.length c) ∧ (∃ x, w.cell? ⟨g, j, none⟩ = some (.int .i64 x)) ∧ w.frozen? ⟨g, j, none⟩ = false ∧ ∀ z, SRows τ (w.setCell ⟨g, j, none⟩ (.int .i64 z)) v (l.set i (p, xs.set j z)) cs vs ∧ Turn boxS (fun r => r = .wh) τ τ w (w.setCell ⟨g, j, none⟩ (.int .i64 z)) := by
  obtain ⟨a, c, q1, q2, q3, q4⟩ := h.d.row i _ hi
  simp only at q1 q2 q3 q4
  rcases owns_form q4 with ⟨_, h0, _⟩ | ⟨g, cap, e, _, hg, _, _, hv, hcell, hfz⟩
  · omega
  · cases e
    have hil := (List.getElem?_eq_some_iff.1 hi).1
    refine ⟨g, c, q1, ⟨xs[j], hcell j _ (by rw [List.getElem?_map, List.getElem?_eq_getElem hj]; rfl)⟩, hfz j, fun z => ?_⟩
    have T : Turn boxS (fun r => r = .wh) τ τ w (w.setCell ⟨g, j, none⟩ (.int .i64 z)) := Turn.setCell (R := fun r => r = .wh) h.fresh (a := ⟨g, j, none⟩) (h.hvs i _ g q1 hv) rfl _
    refine ⟨⟨⟨?_, by simpa using h.d.len, fun k r hr => ?_, h.d.far, h.d.once⟩, T.fresh, h.hv, h.hvs⟩, T⟩
    · rw [List.length_set]
      exact owns_other h.d.own _ (h.d.far i _ g q1 hv)
    · rw [List.getElem?_set] at hr
      split at hr
      · rename_i ek
        subst ek
        cases hr
        refine ⟨some ⟨g, 0, none⟩, c, ?_, q2, ?_, ?_⟩
        · simp only [List.length_set]; exact q1
        · simp only [List.length_set]; exact q3
        · have := owns_set q4 (j := j) (.int .i64 z)
          simp only [List.length_set]
          rw [map_set_int]
          exact this
      · rename_i ek
        obtain ⟨a', c', r1, r2, r3, r4⟩ := h.d.row k r hr
        exact ⟨a', c', r1, r2, r3, owns_other r4 _ (fun e => ek (h.d.once i k _ _ g q1 r1 hv e))⟩
/-- a row's number is written -/
theorem SRows.setPred (h : SRows τ w v l cs vs) {i : Nat} {p : Int} {xs : List Int} (hi : l[i]? = some (p, xs)) :
    ∃ g c, v = .slice (some ⟨g, 0, none⟩) l.length c ∧ w.cell? ⟨g, i * 2, none⟩ = some (.int .i64 p) ∧ (∃ a k, vs[i]? = some (.slice a xs.length k) ∧ w.cell? ⟨g, i * 2 + 1, none⟩ = some (.slice a xs.length k) ∧ IntsZ (fun _ => True) w a k xs) ∧ w.frozen? ⟨g, i * 2, none⟩ = false ∧
      ∀ z, SRows τ (w.setCell ⟨g, i * 2, none⟩ (.int .i64 z)) v (l.set i (z, xs)) (cs.set (i * 2) (.int .i64 z)) vs ∧ Turn boxS (fun r => r = .wh) τ τ w (w.setCell ⟨g, i * 2, none⟩ (.int .i64 z)) := by
  have hil := (List.getElem?_eq_some_iff.1 hi).1
  obtain ⟨a, c, q1, q2, q3, q4⟩ := h.d.row i _ hi
  simp only at q1 q2 q3 q4
  have ho := h.d.own
  rcases owns_form ho with ⟨_, h0, _⟩ | ⟨g, cap, e, _, hg, _, _, hv, hcell, hfz⟩
  · omega
  · subst e
    refine ⟨g, cap, rfl, hcell _ _ q2, ⟨a, c, q1, hcell _ _ q3, ?_⟩, hfz _, fun z => ?_⟩
    · obtain ⟨a', c', e, hz⟩ := intsZ_of_row q4
      cases e
      exact hz.zone fun _ _ => trivial
    · have T : Turn boxS (fun r => r = .wh) τ τ w (w.setCell ⟨g, i * 2, none⟩ (.int .i64 z)) := Turn.setCell (R := fun r => r = .wh) h.fresh (a := ⟨g, i * 2, none⟩) (h.hv g hv) rfl _
      refine ⟨⟨⟨?_, by simpa using h.d.len, fun k r hr => ?_, h.d.far, h.d.once⟩, T.fresh, h.hv, h.hvs⟩, T⟩
      · rw [List.length_set]
        exact owns_set ho _
      · have hk : k < l.length := by simpa using (List.getElem?_eq_some_iff.1 hr).1
        rw [List.getElem?_set] at hr
        split at hr
        · rename_i ek
          subst ek
          cases hr
          exact ⟨a, c, q1, by rw [List.getElem?_set_self (by rw [ho.1]; omega)], by rw [List.getElem?_set_ne (by omega)]; exact q3, owns_other q4 _ (fun e => h.d.far i _ g q1 e hv)⟩
        · rename_i ek
          obtain ⟨a', c', r1, r2, r3, r4⟩ := h.d.row k r hr
          exact ⟨a', c', r1, by rw [List.getElem?_set_ne (by omega)]; exact r2, by rw [List.getElem?_set_ne (by omega)]; exact r3, owns_other r4 _ (fun e => h.d.far k _ g r1 e hv)⟩
end
end Go.Proofs.Ytgodidoibcomcaa.Bk

namespace Go.Proofs.Ytgodidoibcomcaa.Bk
open Go.RowKit Go.Proofs.Ytgodidoibcomcaa

/-- the rows that are new, each with its birth -/
theorem addAll_new (σ : St) (hl : σ.bs.length = σ.rows.length) (l : List Row) : ∃ new : List (Row × Int), (σ.addAll l).rows = σ.rows ++ new.map (·.1) ∧ (σ.addAll l).bs = σ.bs ++ new.map (·.2) ∧ (σ.addAll l).births = σ.births + new.length ∧ new.length ≤ l.length ∧ ∀ x ∈ new, (σ.births : Int) < x.2 ∧ x.2 ≤ (σ.births : Int) + new.length := by
  induction l generalizing σ with
  | nil => exact ⟨[], by simp [St.addAll], by simp [St.addAll], by simp [St.addAll], by simp, fun x hx => by cases hx⟩
  | cons r l ih =>
    by_cases hr : r ∈ σ.rows
    · obtain ⟨new, h1, h2, h3, h4, h5⟩ := ih σ hl
      have e : σ.addAll (r :: l) = σ.addAll l := by
        show List.foldl _ (if r ∈ σ.rows then σ else σ.push r) l = _
        rw [if_pos hr]
        rfl
      rw [e]
      exact ⟨new, h1, h2, h3, by simp; omega, h5⟩
    · obtain ⟨new, h1, h2, h3, h4, h5⟩ := ih (σ.push r) (by simp [St.push, hl])
      have e : σ.addAll (r :: l) = (σ.push r).addAll l := by
        show List.foldl _ (if r ∈ σ.rows then σ else σ.push r) l = _
        rw [if_neg hr]
        rfl
      rw [e]
      refine ⟨(r, ((σ.births + 1 : Nat) : Int)) :: new, ?_, ?_, ?_, by simp; omega, fun x hx => ?_⟩
      · rw [h1]; simp [St.push]
      · rw [h2]; simp [St.push]
      · rw [h3]; simp [St.push]; omega
      · simp only [St.push] at h5
        rcases List.mem_cons.1 hx with rfl | hx
        · simp; omega
        · have := h5 x hx
          simp
          omega
theorem raddAll_new (ρ : Rf) (l : List Row) : ∃ (newr : List Row) (newb : List Int), (ρ.addAll l).rows = ρ.rows ++ newr ∧ (ρ.addAll l).born = ρ.born ++ newb ∧ (ρ.addAll l).clock = ρ.clock + newb.length ∧ newr.length = newb.length ∧ newb.length ≤ l.length ∧ ∀ x ∈ newb, (ρ.clock : Int) < x ∧ x ≤ (ρ.clock : Int) + newb.length := by
  induction l generalizing ρ with
  | nil => exact ⟨[], [], by simp [Rf.addAll], by simp [Rf.addAll], by simp [Rf.addAll], rfl, by simp, fun x hx => by cases hx⟩
  | cons r l ih =>
    by_cases hr : r ∈ ρ.rows
    · obtain ⟨newr, newb, h1, h2, h3, h4, h5, h6⟩ := ih ρ
      have e : ρ.addAll (r :: l) = ρ.addAll l := by
        show List.foldl _ (if r ∈ ρ.rows then ρ else ρ.push r) l = _
        rw [if_pos hr]
        rfl
      rw [e]
      exact ⟨newr, newb, h1, h2, h3, h4, by simp; omega, h6⟩
    · obtain ⟨newr, newb, h1, h2, h3, h4, h5, h6⟩ := ih (ρ.push r)
      have e : ρ.addAll (r :: l) = (ρ.push r).addAll l := by
        show List.foldl _ (if r ∈ ρ.rows then ρ else ρ.push r) l = _
        rw [if_neg hr]
        rfl
      rw [e]
      refine ⟨r :: newr, ((ρ.clock + 1 : Nat) : Int) :: newb, ?_, ?_, ?_, by simp [h4], by simp; omega, fun x hx => ?_⟩
      · rw [h1]; simp [Rf.push]
      · rw [h2]; simp [Rf.push]
      · rw [h3]; simp [Rf.push]; omega
      · simp only [Rf.push] at h6
        rcases List.mem_cons.1 hx with rfl | hx
        · simp; omega
        · have := h6 x hx
          simp
          omega

section
variable {w0 : World} {τ τ' : Own} {w w' : World} {S : List Ent} {L : List RSl} {C : List Box} {ar : List Int} {k : Nat} {p : Pr}
/-- the stores but that of the owner s -/
def others (S : List Ent) (s : Nat) : List Ent := S.filter fun z => decide (z.s ≠ s)
theorem mem_others {x : Ent} {s : Nat} : x ∈ others S s ↔ x ∈ S ∧ x.s ≠ s := by unfold others; rw [List.mem_filter]; simp
theorem others_ne (S : List Ent) (s : Nat) : ∀ z ∈ others S s, z.s ≠ s := fun _ hz => (mem_others.1 hz).2
theorem Env.turnAt {s : Nat} {R : Role → Prop} {y : Ent} (E : Env w0 τ w S L C) (T : Turn s R τ τ' w w') (hs : s ≠ boxS) (hy : HasRows y τ' w') : Env w0 τ' w' (y :: others S s) L C :=
  (E.mems (S' := others S s) (fun _ hx => (mem_others.1 hx).1)).more T hs hy (others_ne S s)

/-- what Add makes of a store: the rows that are new, and the error -/
structure AddR (ar : List Int) (p : Pr) (l : List Row) (new : List (Row × Int)) (er : Int) : Prop where
  few : new.length ≤ l.length
  born : ∀ x ∈ new, (p.n : Int) < x.2 ∧ x.2 ≤ (p.n : Int) + new.length
  how : (er = 0 ∧ (∀ r ∈ l, FitsRow ar r) ∧ joinedL p.rows l = p.rows ++ new.map (·.1)) ∨ (er = 2 ∧ (¬ ∀ r ∈ l, FitsRow ar r) ∧ new = [])
def NewBorn (p : Pr) (new : List (Row × Int)) (newb : List Int) : Prop := new.length = newb.length ∧ ∀ x ∈ newb, (p.clock : Int) < x ∧ x ≤ (p.clock : Int) + newb.length

theorem env_add_st (E : Env w0 τ w S L C) (hm : stE ar k p ∈ S) (hk : k ≤ 1000000) (a : Option Addr) (c : Nat) (l : List Row) (hl : RowsZ (fun j => ∀ r, τ j ≠ some (2 * k + 1, r)) w a c l) (hr : ∀ r ∈ l, RowOk r) (hB : p.n + l.length ≤ 100000000000) :
    Calls Try.prog 16 #[.pointer (some ⟨p.sb, 0, none⟩), .slice a l.length c] w fun e w' => ∃ new er, AddR ar p l new er ∧ e = .returned (.tuple #[.int .i64 (new.length : Int), .int .i64 er]) ∧ ∃ τ', Turn (2 * k + 1) (fun _ => True) τ τ' w w' ∧ Env w0 τ' w' (⟨2 * k + 1, p.sb, ar, p.rs ++ new, p.lows, p.n + new.length⟩ :: others S (2 * k + 1)) L C := by
  by_cases hf : ∀ r ∈ l, FitsRow ar r
  · obtain ⟨σ, h1, h2, h3, h4, h5⟩ := (E.st _ hm).1 (by show 2 * k + 1 < refS; unfold refS; omega)
    obtain ⟨h, h6⟩ := h5
    simp only [stE] at h1 h2 h3 h4 h6
    have hbl := h6.sound.born
    refine (add_apart ⟨h, h6⟩ a c l hl (by rw [h1]; exact hf) (by omega)).mono ?_
    rintro e w2 ⟨rfl, τ', hs, ht⟩
    obtain ⟨new, n1, n2, n3, n4, n5⟩ := addAll_new σ hbl l
    have n5' : ∀ x ∈ new, (p.n : Int) < x.2 ∧ x.2 ≤ (p.n : Int) + new.length := fun x hx => by have := n5 x hx; omega
    refine ⟨new, 0, ⟨n4, n5', .inl ⟨rfl, hf, ?_⟩⟩, ?_, τ', ht, E.turnAt ht (by unfold boxS; omega) (.of (by show 2 * k + 1 < refS; unfold refS; omega) ⟨σ.addAll l, (addAll_ar σ l).trans h1, ⟨?_, ?_⟩, (addAll_lows σ l).trans h3, ?_, hs⟩)⟩
    · have e := addAll_rows σ l
      rw [n1] at e
      have hr : σ.rows = p.rows := h2.1
      rw [hr] at e
      exact e.symm
    · rw [show (((σ.addAll l).rows.length : Int) - (σ.rows.length : Int)) = (new.length : Int) from by rw [n1, List.length_append, List.length_map]; omega]
    · rw [n1, List.map_append, h2.1]
    · rw [n2, List.map_append, h2.2]
    · rw [n3, h4]
  · obtain ⟨σ, h, h1, h2, h3, h4, hs⟩ := E.store hm hk
    refine (add_bad hs a c l hl hr (by omega) (by rw [h1]; exact hf)).mono ?_
    rintro e w2 ⟨rfl, hb⟩
    refine ⟨[], 2, ⟨by simp, fun x hx => (by cases hx), .inr ⟨rfl, hf, rfl⟩⟩, rfl, τ, Turn.of_below hb E.fresh, (E.stay hb).mems (fun x hx => ?_)⟩
    rcases List.mem_cons.1 hx with rfl | hx
    · simpa [stE] using hm
    · exact (mem_others.1 hx).1
theorem env_add_rf (E : Env w0 τ w S L C) (hm : rfE ar k p ∈ S) (a : Option Addr) (c : Nat) (l : List Row) (hl : RowsZ (fun j => ∀ r, τ j ≠ some (refS + k, r)) w a c l) (hr : ∀ r ∈ l, RowOk r) (hB : p.rs.length + l.length ≤ 100000000000) (hC : p.clock + l.length ≤ 100000000000) {new : List (Row × Int)} {er : Int} (hN : AddR ar p l new er) :
    Calls Try.prog 70 #[.pointer (some ⟨p.rb, 0, none⟩), .slice a l.length c] w fun e w' => e = .returned (.tuple #[.int .i64 (new.length : Int), .int .i64 er]) ∧ ∃ τ' newb, NewBorn p new newb ∧ Turn (refS + k) (fun _ => True) τ τ' w w' ∧ Env w0 τ' w' (⟨refS + k, p.rb, ar, p.rs ++ new, (p.born ++ newb).map (fun x => (0, x)), p.clock + newb.length⟩ :: others S (refS + k)) L C := by
  have hrl : p.rows.length = p.rs.length := List.length_map _
  rcases hN.how with ⟨rfl, hf, hj⟩ | ⟨rfl, hf, rfl⟩
  · refine (radd_any (ρ := ⟨ar, p.rows, p.born, p.clock⟩) (E.ref hm) a c l hl hf (by show p.rows.length + _ ≤ _; omega) hC).mono ?_
    rintro e w2 ⟨rfl, τ', hs, ht⟩
    obtain ⟨newr, newb, n1, n2, n3, n4, n5, n6⟩ := raddAll_new ⟨ar, p.rows, p.born, p.clock⟩ l
    have e := raddAll_rows ⟨ar, p.rows, p.born, p.clock⟩ l
    rw [n1] at e
    have e2 := List.append_cancel_left (e.trans hj)
    have hl2 : newr.length = new.length := by rw [e2, List.length_map]
    refine ⟨?_, τ', newb, ⟨by omega, n6⟩, ht, E.turnAt ht (by unfold boxS refS; omega) (.ofRef (Nat.le_add_right _ _) ?_)⟩
    · have hq : (((Rf.addAll ⟨ar, p.rows, p.born, p.clock⟩ l).rows.length : Int) - (p.rows.length : Int)) = (new.length : Int) := by rw [n1, List.length_append]; simp only; omega
      simp only [hq]
    · have h4 : (Rf.addAll ⟨ar, p.rows, p.born, p.clock⟩ l) = ⟨ar, (p.rs ++ new).map (·.1), p.born ++ newb, p.clock + newb.length⟩ := by
        have h5 := raddAll_ar ⟨ar, p.rows, p.born, p.clock⟩ l
        generalize Rf.addAll ⟨ar, p.rows, p.born, p.clock⟩ l = ρ at n1 n2 n3 h5
        obtain ⟨x1, x2, x3, x4⟩ := ρ
        simp only at n1 n2 n3 h5
        rw [List.map_append, ← e2]
        subst n1; subst n2; subst n3; subst h5
        rfl
      rw [h4] at hs
      simp only [born_fst]
      exact hs
  · obtain ⟨aA, cA, vL, vB, hs⟩ := E.ref hm
    refine (radd_bad hs a c l hl hr (by omega) hf).mono ?_
    rintro e w2 ⟨rfl, hb⟩
    refine ⟨rfl, τ, [], ⟨rfl, fun x hx => by cases hx⟩, Turn.of_below hb E.fresh, (E.stay hb).mems (fun x hx => ?_)⟩
    rcases List.mem_cons.1 hx with rfl | hx
    · simpa [rfE] using hm
    · exact (mem_others.1 hx).1

/-- only the store of the number k, and its reference, turned -/
theorem mem_set_ents {ps : List Pr} {p' : Pr} {x : Ent} (hps : ps.length ≤ 1000000) (hk : k < ps.length) (h : x ∈ ents ar (ps.set k p')) : (k < ps.length ∧ (x = stE ar k p' ∨ x = rfE ar k p')) ∨ (x ∈ ents ar ps ∧ x.s ≠ 2 * k + 1 ∧ x.s ≠ refS + k) := by
  obtain ⟨j, q, hq, hx⟩ := mem_ents.1 h
  have hj : j < ps.length := by simpa using (List.getElem?_eq_some_iff.1 hq).1
  rw [List.getElem?_set] at hq
  split at hq
  · rename_i e
    subst e
    simp only [Option.some.injEq] at hq
    subst hq
    exact .inl ⟨hj, hx⟩
  · rename_i e
    refine .inr ⟨mem_ents.2 ⟨j, q, hq, hx⟩, ?_⟩
    rcases hx with rfl | rfl
    · show 2 * j + 1 ≠ 2 * k + 1 ∧ 2 * j + 1 ≠ refS + k
      unfold refS
      omega
    · show refS + j ≠ 2 * k + 1 ∧ refS + j ≠ refS + k
      unfold refS
      omega
theorem Later.add {new : List (Row × Int)} {newb : List Int} {l : List Row} {ar : List Int} {er : Int} (ok : PrOk p) (hN : AddR ar p l new er) (hb : NewBorn p new newb) : Later p ⟨p.sb, p.rb, p.rs ++ new, p.lows, p.n + new.length, p.born ++ newb, p.clock + newb.length⟩ :=
  ⟨p.rs.length, rfl, rfl, Nat.le_add_right _ _, Nat.le_add_right _ _, new, newb, Nat.le_refl _, by rw [List.take_length], by rw [← ok.len, List.take_length], hb.1, fun x hx => by have := hN.born x hx; simp only; omega, fun x hx => by have := hb.2 x hx; simp only; omega, (lowTo_id ok.low).symm⟩

/-- Undo at a store -/
theorem env_undo_st (E : Env w0 τ w S L C) (hm : stE ar k p ∈ S) (hk : k ≤ 1000000) (m : Nat) (hmr : m ≤ p.rs.length) (hB : p.n ≤ 100000000000) :
    Calls Try.prog 20 #[.pointer (some ⟨p.sb, 0, none⟩), .int .i64 m] w fun e w' => e = .returned (.int .i64 0) ∧ ∃ τ', Turn (2 * k + 1) (fun _ => True) τ τ' w w' ∧ Env w0 τ' w' (⟨2 * k + 1, p.sb, ar, p.rs.take m, lowTo m p.lows, p.n⟩ :: others S (2 * k + 1)) L C := by
  obtain ⟨σ, h1, h2, h3, h4, h5⟩ := (E.st _ hm).1 (by show 2 * k + 1 < refS; unfold refS; omega)
  simp only [stE] at h1 h2 h3 h4 h5
  have hl2 : σ.rows.length = p.rs.length := by rw [h2.1, List.length_map]
  refine (undo_any h5 m (by omega) (by omega)).mono ?_
  rintro e w2 ⟨rfl, τ', hs, ht⟩
  refine ⟨rfl, τ', ht, E.turnAt ht (by unfold boxS; omega) (.of (by show 2 * k + 1 < refS; unfold refS; omega) ⟨σ.cut m, h1, ⟨?_, ?_⟩, ?_, h4, hs⟩)⟩
  · show σ.rows.take m = _
    rw [h2.1, List.map_take]
  · show σ.bs.take m = _
    rw [h2.2, List.map_take]
  · show lowMix m σ.lows.length σ.lows = _
    rw [h3]
    unfold lowMix lowTo
    rw [List.take_length, List.drop_length, List.append_nil]
theorem env_undo_st_bad (E : Env w0 τ w S L C) (hm : stE ar k p ∈ S) (hk : k ≤ 1000000) (m : Int) (hb : m < 0 ∨ (p.rs.length : Int) < m) :
    Calls Try.prog 20 #[.pointer (some ⟨p.sb, 0, none⟩), .int .i64 m] w fun e w' => e = .returned (.int .i64 2) ∧ w' = w := by
  obtain ⟨σ, h, h1, h2, h3, h4, hs⟩ := E.store hm hk
  exact undo_bad ⟨h, hs⟩ m (by rw [h2, show p.rows.length = p.rs.length from List.length_map _]; exact hb)
theorem env_undo_rf (E : Env w0 τ w S L C) (hm : rfE ar k p ∈ S) (m : Nat) (hmr : m ≤ p.rs.length) :
    Calls Try.prog 60 #[.pointer (some ⟨p.rb, 0, none⟩), .int .i64 m] w fun e w' => e = .returned (.int .i64 0) ∧ ∃ τ', Turn (refS + k) (fun r => r = .head) τ τ' w w' ∧ Env w0 τ' w' (⟨refS + k, p.rb, ar, p.rs.take m, (p.born.take m).map (fun x => (0, x)), p.clock⟩ :: others S (refS + k)) L C := by
  have hrl : p.rows.length = p.rs.length := List.length_map _
  obtain ⟨aA, cA, vL, vB, hr⟩ := E.ref hm
  refine (rundo_any hr m (by show m ≤ p.rows.length; omega)).mono ?_
  rintro e w2 ⟨rfl, τ', hs, ht⟩
  refine ⟨rfl, τ', ht, E.turnAt ht (by unfold boxS refS; omega) (.ofRef (Nat.le_add_right _ _) ?_)⟩
  simp only [born_fst, List.map_take]
  exact hs
theorem env_undo_rf_bad (E : Env w0 τ w S L C) (hm : rfE ar k p ∈ S) (m : Int) (hb : m < 0 ∨ (p.rs.length : Int) < m) :
    Calls Try.prog 60 #[.pointer (some ⟨p.rb, 0, none⟩), .int .i64 m] w fun e w' => e = .returned (.int .i64 2) ∧ w' = w := by
  have hrl : p.rows.length = p.rs.length := List.length_map _
  obtain ⟨aA, cA, vL, vB, hr⟩ := E.ref hm
  exact rundo_bad hr m (by show m < 0 ∨ (p.rows.length : Int) < m; omega)
/-- Since, of a clock at which just the first m rows were there -/
theorem env_since_rf (E : Env w0 τ w S L C) (hm : rfE ar k p ∈ S) (x : Int) (m : Nat) (hmr : m ≤ p.rs.length) (h1 : ∀ i y, m ≤ i → p.born[i]? = some y → x < y) (h2 : ∀ y, 0 < m → p.born[m - 1]? = some y → y ≤ x) :
    Calls Try.prog 63 #[.pointer (some ⟨p.rb, 0, none⟩), .int .i64 x] w fun e w' => e = .returned (.tuple #[]) ∧ ∃ τ', Turn (refS + k) (fun r => r = .head) τ τ' w w' ∧ Env w0 τ' w' (⟨refS + k, p.rb, ar, p.rs.take m, (p.born.take m).map (fun x => (0, x)), p.clock⟩ :: others S (refS + k)) L C := by
  have hrl : p.rows.length = p.rs.length := List.length_map _
  obtain ⟨aA, cA, vL, vB, hr⟩ := E.ref hm
  refine (rsince_any hr x m (by show m ≤ p.rows.length; omega) h1 h2).mono ?_
  rintro e w2 ⟨rfl, τ', hs, ht⟩
  refine ⟨rfl, τ', ht, E.turnAt ht (by unfold boxS refS; omega) (.ofRef (Nat.le_add_right _ _) ?_)⟩
  simp only [born_fst, List.map_take]
  exact hs
/-- Copy -/
theorem env_copy_st (E : Env w0 τ w S L C) (hm : stE ar k p ∈ S) (hk : k ≤ 1000000) (k' : Nat) (hne : ∀ z ∈ S, z.s ≠ 2 * k' + 1) (hB : p.rs.length ≤ 1000000000) (hk' : k' ≤ 1000000) :
    Calls Try.prog 22 #[.pointer (some ⟨p.sb, 0, none⟩)] w fun e w' => ∃ cb τ' rs', e = .returned (.pointer (some ⟨cb, 0, none⟩)) ∧ rs'.map (·.1) = p.rows ∧ (∀ x ∈ rs', x.2 ≤ (p.rs.length : Int)) ∧ Turn (2 * k' + 1) (fun _ => True) τ τ' w w' ∧ Env w0 τ' w' (⟨2 * k' + 1, cb, ar, rs', [], p.rs.length⟩ :: S) L C := by
  have hrl : p.rows.length = p.rs.length := List.length_map _
  obtain ⟨σ, h1, h2, h3, h4, h5⟩ := (E.st _ hm).1 (by show 2 * k + 1 < refS; unfold refS; omega)
  simp only [stE] at h1 h2 h3 h4 h5
  have hl2 : σ.rows.length = p.rs.length := by rw [h2.1, List.length_map]
  refine (copy_any (s' := 2 * k' + 1) h5 (fun e => hne _ hm (by show 2 * k + 1 = _; exact e)) (by omega)).mono ?_
  rintro e w2 ⟨cb, τ', rfl, hs, ht⟩
  obtain ⟨f1, f2, f3, f4⟩ := pushAll_facts ⟨σ.ar, [], [], 0, []⟩ σ.rows
  obtain ⟨h, hs⟩ := hs
  have hbn := hs.sound.born
  have hbi := hs.sound.birth
  have e1 : (copySt σ σ.rows).rows = σ.rows := by unfold copySt; rw [f1]; rfl
  have e3 : (copySt σ σ.rows).births = p.rs.length := by unfold copySt; rw [f3]; simp only; omega
  refine ⟨cb, τ', (copySt σ σ.rows).rows.zip (copySt σ σ.rows).bs, rfl, ?_, fun x hx => ?_, ht, E.more ht (by unfold boxS; omega) (.of (by show 2 * k' + 1 < refS; unfold refS; omega) ⟨copySt σ σ.rows, ?_, ⟨?_, ?_⟩, ?_, ?_, h, hs⟩) hne⟩
  · rw [List.map_fst_zip (by omega), e1, h2.1]
    rfl
  · have := (hbi _ (List.of_mem_zip hx).2).2
    rw [e3] at this
    exact this
  · unfold copySt; rw [f2]; exact h1
  · rw [List.map_fst_zip (by omega)]
  · rw [List.map_snd_zip (by omega)]
  · unfold copySt; rw [f4]
  · exact e3
theorem env_copy_rf (E : Env w0 τ w S L C) (hm : rfE ar k p ∈ S) (k' : Nat) (hne : ∀ z ∈ S, z.s ≠ refS + k') {rs' : List (Row × Int)} (hrs : rs'.map (·.1) = p.rows) :
    Calls Try.prog 61 #[.pointer (some ⟨p.rb, 0, none⟩)] w fun e w' => ∃ cb τ', e = .returned (.pointer (some ⟨cb, 0, none⟩)) ∧ Turn (refS + k') (fun _ => True) τ τ' w w' ∧ Env w0 τ' w' (⟨refS + k', cb, ar, rs', p.born.map (fun x => (0, x)), p.clock⟩ :: S) L C := by
  refine (rcopy_any (s' := refS + k') (E.ref hm) (fun e => hne _ hm (by show refS + k = _; exact e))).mono ?_
  rintro e w2 ⟨cb, τ', rfl, hs, ht⟩
  refine ⟨cb, τ', rfl, ht, E.more ht (by unfold boxS refS; omega) (.ofRef (Nat.le_add_right _ _) ?_) hne⟩
  simp only [born_fst, hrs]
  exact hs
end
end Go.Proofs.Ytgodidoibcomcaa.Bk

namespace Go.Proofs.Ytgodidoibcomcaa.Bk
open Go.RowKit Go.Proofs.Ytgodidoibcomcaa

/-- what lies in a step's cells -/
structure OpD where
  kind : Int
  on : Int
  ra : Option Addr
  rc : Nat
  l : List Row
  n : Int
  place : Int
  id : Int
  ia : Option Addr
  inn : Nat
  ic : Nat
  say : Bool
def OpD.cells (x : OpD) : Array Value := opCells x.kind x.on (.slice x.ra x.l.length x.rc) x.n x.place x.id (.slice x.ia x.inn x.ic) x.say
/-- a step may come in: its rows and its inner steps lie in w -/
structure OpIn (Ops : Option Addr → Nat → Nat → Prop) (w : World) (x : OpD) (u : Nat) : Prop where
  rows : RowsZ (fun _ => True) w x.ra x.rc x.l
  cap : x.l.length ≤ x.rc
  ok : ∀ r ∈ x.l, RowOk r
  args : ∀ r ∈ x.l, r.2.length ≤ 1048576
  kind : Rng x.kind
  n : Rng x.n
  place : Rng x.place
  id : Rng x.id
  inn : ∃ v, Ops x.ia x.inn v ∧ v + x.l.length + 8 ≤ u
/-- n steps from the address a on, of nesting d, that weigh u -/
def OpsIn (w : World) : Nat → Option Addr → Nat → Nat → Prop
  | 0, _, n, _ => n = 0
  | d + 1, a, n, u => n = 0 ∨ ∃ b off, a = some ⟨b, off, none⟩ ∧ ∃ us : List Nat, us.length = n ∧ us.sum ≤ u ∧ ∀ (i v : Nat), us[i]? = some v → ∃ x : OpD, (∀ (j : Nat) y, x.cells[j]? = some y → w.cell? ⟨b, off + i * 8 + j, none⟩ = some y) ∧ OpIn (OpsIn w d) w x v
theorem OpIn.mono {P Q : Option Addr → Nat → Nat → Prop} {w : World} {x : OpD} {u u' : Nat} (h : OpIn P w x u) (hu : u ≤ u') (hPQ : ∀ a n v, P a n v → Q a n v) : OpIn Q w x u' := by
  obtain ⟨h1, h0, h2, h3, h4, h5, h6, h7, v, hv, hl⟩ := h
  exact ⟨h1, h0, h2, h3, h4, h5, h6, h7, v, hPQ _ _ _ hv, by omega⟩
theorem OpIn.weigh {Ops : Option Addr → Nat → Nat → Prop} {w : World} {x : OpD} {u : Nat} (h : OpIn Ops w x u) : x.l.length + 8 ≤ u := by
  obtain ⟨v, _, hl⟩ := h.inn
  omega
theorem sum_ge (us : List Nat) (c : Nat) (h : ∀ v ∈ us, c ≤ v) : us.length * c ≤ us.sum := by
  induction us with
  | nil => simp
  | cons v us ih =>
    have h1 := ih fun x hx => h x (List.mem_cons_of_mem _ hx)
    have h2 := h v (List.mem_cons_self ..)
    rw [List.length_cons, List.sum_cons, Nat.add_mul]
    omega
/-- a step at a time: what is behind the first k weighs what is left -/
theorem OpsIn.at {w : World} {d : Nat} {a : Option Addr} {n u : Nat} (h : OpsIn w d a n u) : n = 0 ∨ ∃ d' b off, d = d' + 1 ∧ a = some ⟨b, off, none⟩ ∧ ∃ us : List Nat, us.length = n ∧ us.sum ≤ u ∧ ∀ (i v : Nat), us[i]? = some v → ∃ x : OpD, (∀ (j : Nat) y, x.cells[j]? = some y → w.cell? ⟨b, off + i * 8 + j, none⟩ = some y) ∧ OpIn (OpsIn w d') w x v := by
  cases d with
  | zero => exact .inl h
  | succ d =>
    rcases h with h | ⟨b, off, ha, us, h1, h2, h3⟩
    · exact .inl h
    · exact .inr ⟨d, b, off, rfl, ha, us, h1, h2, h3⟩
theorem take_sum_succ {us : List Nat} {k v : Nat} (h : us[k]? = some v) : (us.take (k + 1)).sum = (us.take k).sum + v := by
  rw [take_snoc' h, List.sum_append]
  simp
theorem take_sum_le (us : List Nat) (k : Nat) : (us.take k).sum ≤ us.sum := by
  have h : us.sum = (us.take k).sum + (us.drop k).sum := by rw [← List.sum_append, List.take_append_drop]
  omega
end Go.Proofs.Ytgodidoibcomcaa.Bk

namespace Go.Proofs.Ytgodidoibcomcaa.Bk
open Go.RowKit Go.Proofs.Ytgodidoibcomcaa

/-- what a flat step leaves: true, and a book that went on -/
def FlatEnd (w0 : World) (β : Book) (C : List Box) (U t : Nat) (w : World) (e : Ending) (w' : World) : Prop :=
  e = .returned (.bool true) ∧ ∃ (β' : Book) (τ' : Own) (C' : List Box), Step w0 β C w β' τ' C' w' ∧ BLater β β' ∧ Lim U β' t

/-- the book of which the pair number k has turned -/
def Book.put (β : Book) (k : Nat) (p : Pr) : Book := { β with ps := β.ps.set k p }
theorem set_map {α δ : Type} (f : α → δ) {l : List α} {k : Nat} {p p' : α} (hp : l[k]? = some p) (h : f p' = f p) : (l.set k p').map f = l.map f := by
  apply List.ext_getElem?
  intro i
  rw [List.getElem?_map, List.getElem?_map, List.getElem?_set]
  split
  · rename_i e
    subst e
    have hk := (List.getElem?_eq_some_iff.1 hp).1
    rw [hp]
    simp [hk, h]
  · rfl
theorem BookOk.put {β : Book} {C : List Box} (B : BookOk β C) {k : Nat} {p p' : Pr} (hp : β.ps[k]? = some p) (h1 : p'.sb = p.sb) (h2 : p'.rb = p.rb) : BookOk (β.put k p') C := by
  refine ⟨B.head, ?_, ?_, B.ls, B.kept, ?_, ?_⟩
  · show BoxRow C _ 1 β.vS (β.ps.set k p').length ((β.ps.set k p').map fun p => Value.pointer (some ⟨p.sb, 0, none⟩))
    rw [List.length_set, set_map (fun p : Pr => Value.pointer (some ⟨p.sb, 0, none⟩)) hp (by rw [h1])]
    exact B.st
  · show BoxRow C _ 1 β.vR (β.ps.set k p').length ((β.ps.set k p').map fun p => Value.pointer (some ⟨p.rb, 0, none⟩))
    rw [List.length_set, set_map (fun p : Pr => Value.pointer (some ⟨p.rb, 0, none⟩)) hp (by rw [h2])]
    exact B.rf
  · show (β.ps.set k p').length ≤ _
    rw [List.length_set]; exact B.many
  · show 0 < (β.ps.set k p').length
    rw [List.length_set]; exact B.pos
theorem Step.put {w0 : World} {β : Book} {C : List Box} {w w' : World} {τ' : Own} {k : Nat} {p p' : Pr} (B : BookOk β C) (hp : β.ps[k]? = some p) (h : Later p p') (E : Env w0 τ' w' (ents β.ar (β.ps.set k p')) [] C) (hs : w.heap.size ≤ w'.heap.size) : Step w0 β C w (β.put k p') τ' C w' :=
  ⟨E, B.put hp h.sb h.rb, rfl, rfl, hs, fun _ hx _ _ _ _ => hx, fun _ h => .inl h, fun _ h => .inl h, fun _ h => .inl h, fun _ h _ => h⟩
theorem Lim.put {U u v : Nat} {β : Book} (h : Lim U β u) (hv : u ≤ v) {k : Nat} {p' : Pr} (hp : p'.rs.length ≤ v ∧ p'.n ≤ v ∧ p'.clock ≤ v) : Lim U (β.put k p') v := by
  have h' := h.mono hv
  refine ⟨by show 8 * (β.ps.set k p').length ≤ _; rw [List.length_set]; exact h'.ps, fun p hq => ?_, h'.next0, h'.next, h'.lists⟩
  rcases List.mem_or_eq_of_mem_set hq with hq | rfl
  · exact h'.rs p hq
  · exact hp
/-- both sides of the pair number k turned -/
theorem ents_two {w0 : World} {τ : Own} {w : World} {S : List Ent} {C : List Box} {ar : List Int} {ps : List Pr} {k : Nat} {p' : Pr} (hps : ps.length ≤ 1000000) (hk : k < ps.length) (E : Env w0 τ w S [] C) (h1 : stE ar k p' ∈ S) (h2 : rfE ar k p' ∈ S) (h3 : ∀ x ∈ ents ar ps, x.s ≠ 2 * k + 1 → x.s ≠ refS + k → x ∈ S) : Env w0 τ w (ents ar (ps.set k p')) [] C :=
  E.mems fun x hx => by
    rcases mem_set_ents hps hk hx with ⟨_, rfl | rfl⟩ | ⟨a, b, c⟩
    · exact h1
    · exact h2
    · exact h3 x a b c

set_option maxHeartbeats 16000000 in
set_option maxRecDepth 100000 in
theorem add_any {w0 : World} {τ : Own} {w : World} {β : Book} {C : List Box} {U u v : Nat} (E : Env w0 τ w (ents β.ar β.ps) [] C) (B : BookOk β C) (HP : ∀ p ∈ β.ps, PrOk p) (x : OpD) (hx : RowsZ (fun _ => True) w0 x.ra x.rc x.l) (hok : ∀ r ∈ x.l, RowOk r) (hargs : ∀ r ∈ x.l, r.2.length ≤ 1048576) (hL : Lim U β v) (hu : x.l.length + 8 ≤ u) (hU : v + u ≤ U) (hU2 : U ≤ 1048576) :
    Calls Try.prog 51 #[.pointer (some ⟨β.bk, 0, none⟩), .agg x.cells] w (FlatEnd w0 β C U (v + u) w) := by
  obtain ⟨kind, on, ra, rc, l, n, place, id, ia, inn, ic, say⟩ := x
  simp only at hx hok hargs hu
  have hps := hL.ps
  have hmany := B.many
  have hpos := B.pos
  obtain ⟨N, hN⟩ : ∃ N, β.ps.length = N := ⟨_, rfl⟩
  rw [hN] at hps hmany hpos
  obtain ⟨W0, hW0⟩ : ∃ W, W = w.alloc (.cells (opCells kind on (.slice ra l.length rc) n place id (.slice ia inn ic) say) 54) := ⟨_, rfl⟩
  obtain ⟨ob, hob⟩ : ∃ b, b = w.heap.size := ⟨_, rfl⟩
  have hb0 : Below w.heap.size w W0 := by rw [hW0]; exact (Below.refl _ _).alloc (Nat.le_refl _) _
  have hbw0 : Below w0.heap.size w0 W0 := E.below.trans (hb0.mono E.below.size)
  have ht0 : τ ob = none := E.fresh ob (by omega)
  have HE0 := Lib.hid (E.stay hb0)
  have HX := Lib.hid hx
  have HO := Lib.hid hok
  have HA := Lib.hid hargs
  have HB := Lib.hid B
  have HPP := Lib.hid HP
  have HLm := Lib.hid hL
  have Hu := Lib.hid hu
  have hl6 : l.length ≤ 1048576 := by omega
  obtain ⟨k0, kp0⟩ : ∃ q, q = β.ps[0]? := ⟨_, rfl⟩
  obtain ⟨gS, cS, gR, cR, hvS, hvR, hLd⟩ := B.leads (HE0.out) (k := 0) (p := β.ps[0]'(by rw [hN]; exact hpos)) (List.getElem?_eq_getElem _)
  have s0 := hLd.s0
  rw [hN] at s0
  have cOn := Lib.hid (on_any s0 hpos hmany kind on ra l.length rc n place id ia inn ic say)
  have hb0s := hb0.size
  have HN := Lib.hid hN
  have HvS := Lib.hid hvS
  have HvR := Lib.hid hvR
  have xall : ∀ (j : Nat) y, (opCells kind on (.slice ra l.length rc) n place id (.slice ia inn ic) say)[j]? = some y → W0.cell? ⟨ob, j, none⟩ = some y := fun j y hy => by rw [hW0, hob]; simp [hy]
  have z0 : W0.cell? ⟨ob, 0, none⟩ = some (.int .i64 kind) := xall 0 _ rfl
  have z1 : W0.cell? ⟨ob, 1, none⟩ = some (.int .i64 on) := xall 1 _ rfl
  have z2 : W0.cell? ⟨ob, 2, none⟩ = some (.slice ra l.length rc) := xall 2 _ rfl
  have z3 : W0.cell? ⟨ob, 3, none⟩ = some (.int .i64 n) := xall 3 _ rfl
  have z4 : W0.cell? ⟨ob, 4, none⟩ = some (.int .i64 place) := xall 4 _ rfl
  have z5 : W0.cell? ⟨ob, 5, none⟩ = some (.int .i64 id) := xall 5 _ rfl
  have z6 : W0.cell? ⟨ob, 6, none⟩ = some (.slice ia inn ic) := xall 6 _ rfl
  have z7 : W0.cell? ⟨ob, 7, none⟩ = some (.bool say) := xall 7 _ rfl
  unfold opCells at cOn hW0
  unfold OpD.cells opCells
  have HW0 := Lib.hid hW0
  have Hob := Lib.hid hob
  clear hx hok hargs hu hL E B HP hvS hvR hN xall hW0 hob kp0 hLd s0
  go_enter Try.func51, Try.ntmps51
  go_upto_region 1 with fail
  rw [← HW0.out, ← Hob.out]
  go_upto_region 2 with (first | (go_at_call 50; with_reducible refine cOn.out.mono ?_; rintro e W1 ⟨k, hk, rfl, hb1⟩))
  have y2 := on_cell hb1 z2
  clear z0 z1 z2 z3 z4 z5 z6 z7 cOn
  obtain ⟨p, hp⟩ : ∃ p, β.ps[k]? = some p := ⟨_, List.getElem?_eq_getElem (by rw [HN.out]; exact hk)⟩
  have mS : stE β.ar k p ∈ ents β.ar β.ps := mem_ents.2 ⟨k, p, hp, .inl rfl⟩
  have mR : rfE β.ar k p ∈ ents β.ar β.ps := mem_ents.2 ⟨k, p, hp, .inr rfl⟩
  have hlp := HLm.out.rs p (List.mem_of_getElem? hp)
  have Hp := Lib.hid hp
  have HmS := Lib.hid mS
  have HmR := Lib.hid mR
  have hb01 : Below w.heap.size w W1 := hb0.trans (hb1.mono hb0s)
  have hbw1 : Below w0.heap.size w0 W1 := hbw0.trans (hb1.mono hbw0.size)
  have cR := Lib.hid (drows_any ra rc l W1 (HX.out.below hbw1 (Nat.le_refl _)) (fun r hr => by have := HA.out r hr; omega) (by omega))
  clear hp mS mR
  go_upto_region 3 with (first | (go_at_call 40; with_reducible refine cR.out.mono ?_; rintro e W2 ⟨vg, cs, vs, rfl, hD, hb2⟩))
  have hE1 := (HE0.out.stay hb1)
  have hS2 := SRows.ofNew hE1.fresh hb2 hD
  have T12 := scr_new hE1.fresh hb2
  have HE2 := Lib.hid (hE1.scr ents_ne T12)
  obtain ⟨ag, cg, rfl⟩ := owns_shape hD.own
  have y2o := y2
  have y2 := on_cell hb2 y2
  have HS2 := Lib.hid hS2
  have hb02 : Below w.heap.size w W2 := hb01.trans (hb2.mono hb01.size)
  have ht2 : adopted boxS .wh W1.heap.size W2.heap.size τ ob = none := by rw [adopted_out (by have := World.block_lt_of_cell? _ _ y2o; simp only at this; omega)]; exact ht0
  generalize adopted boxS .wh W1.heap.size W2.heap.size τ = τ2 at HE2 HS2 ht2
  clear hE1 hS2 T12 hD cR
  have hb2s := hb02.size
  go_upto_region 4 with (first | (at_builtin; refine wpList_append_any elemRow _ rfl _ _ rfl 0 _ l.length cs rfl (HS2.out.d.own.alloc _) (some ⟨W2.heap.size, 0, none⟩) 1 1 [.int .i64 (-77), .slice none 0 0] rfl (source_new _ _ _) rfl (by simp [Value.oneCell']) (by unfold maxLen; omega) (by omega) (Nat.zero_le _) ?_; intro v3 W3 hown3 hgrow3 hblk3))
  obtain ⟨τ3, S3, T3⟩ := HS2.out.push (p := -77) ((Below.refl _ _).alloc (Nat.le_refl _) _) hown3 hgrow3 hblk3
  have HE3 := Lib.hid (HE2.out.scr ents_ne T3)
  have ht3 : τ3 ob = none := (T3.own ob (World.block_lt_of_cell? _ _ y2)).trans ht2
  have y2 := T3.cell y2 (fun r e => by rw [ht2] at e; cases e)
  have hb23 := T3.size
  rcases owns_form hown3 with ⟨-, h0, -⟩ | ⟨g3, c3, rfl, -, -, hc3, hm3, -, -, -⟩
  · omega
  have HS3 := Lib.hid S3
  obtain ⟨gS, cS, gR, cR, hvS, hvR, hLd⟩ := HB.out.leads HE3.out Hp.out
  have s0 := hLd.s0
  have s1 := hLd.s1
  rw [HN.out] at s0
  clear S3 T3 hown3 hgrow3 hblk3 HS2 HE2 hvS hvR hLd ht2
  have c5 := Lib.hid (fun (W : World) (hW : Below W3.heap.size W3 W) => env_add_st (HE3.out.stay hW) HmS.out (by omega) (some ⟨g3, 0, none⟩) c3 l (by
    have S := HS3.out.below hW
    obtain ⟨a, c, e, hz⟩ := S.d.rowsZ (Z := fun j => ∀ r, τ3 j ≠ some (2 * k + 1, r)) (fun g e r => by rw [S.hv g e]; intro h; cases h) (fun i u g hu e r => by rw [S.hvs i u g hu e]; intro h; cases h) l.length (by simp)
    simp only [List.length_append, List.length_singleton, Value.slice.injEq] at e
    obtain ⟨rfl, -, rfl⟩ := e
    rw [List.take_left'  rfl] at hz
    exact hz) HO.out (by omega))
  go_upto_region 6 with (first | (go_at_call 16; with_reducible refine (c5.out _ (Below.refl _ _)).mono ?_; rintro e W5 ⟨new, er, hR, rfl, τ5, T5, E5⟩))
  have S5 := HS3.out.turn T5 (.inl (by unfold boxS; omega))
  have ht5 : τ5 ob = none := (T5.own ob (World.block_lt_of_cell? _ _ y2)).trans ht3
  have y2 := T5.cell y2 (fun r e => by rw [ht3] at e; cases e)
  obtain ⟨g5, cc5, e5, d5, -, -, -⟩ := S5.setPred (i := l.length) (p := -77) (xs := []) (by rw [List.getElem?_append_right (Nat.le_refl _), Nat.sub_self]; rfl)
  simp only [Value.slice.injEq, Option.some.injEq, Addr.mk.injEq, and_true] at e5
  obtain ⟨rfl, -, -⟩ := e5
  obtain ⟨gS', cS', gR, cR, -, hvR, hLd⟩ := HB.out.leads E5 Hp.out
  have r0 := hLd.r0
  have r1 := hLd.r1
  rw [HN.out] at r0
  have hb35 := T5.size
  have HS5 := Lib.hid S5
  have HE5 := Lib.hid E5
  have HT5 := Lib.hid T5
  have HR := Lib.hid hR
  have HvR := Lib.hid hvR
  have c6 := Lib.hid (fun (W : World) (hW : Below W5.heap.size W5 W) => env_add_rf (HE5.out.stay hW) (List.mem_cons_of_mem _ (mem_others.2 ⟨HmR.out, by show refS + k ≠ 2 * k + 1; unfold refS; omega⟩)) ra rc l (HX.out.keep (fun j hj _ => (HE5.out.stay hW).below.block j hj) (fun j hj _ r e => by rw [HE5.out.old j hj] at e; cases e)) HO.out (by omega) (by omega) HR.out)
  clear S5 E5 T5 hR hvR hLd c5 s0 s1
  go_upto_region 8 with fail
  clear d5
  go_region_held3 (fun w' => w'.cell? ⟨β.bk, 1, none⟩ = some (.slice (some ⟨gR, 0, none⟩) N cR) ∧ w'.cell? ⟨gR, k, none⟩ = some (.pointer (some ⟨p.rb, 0, none⟩)) ∧ w'.cell? ⟨ob, 2, none⟩ = some (.slice ra l.length rc)) (first | assumption | exact ⟨r0, r1, y2⟩ | go_keep) (first
    | (go_at_call 70
       with_reducible refine (c6.out _ (Below.refl _ _).drew).mono ?_
       rintro e W6 ⟨rfl, τ6, newb, hNB, T6, E6⟩
       have T6' : Turn (refS + k) (fun _ => True) τ5 τ6 W5 W6 := (Turn.of_below (Below.refl _ _).drew HE5.out.fresh).trans T6
       obtain ⟨gS6, cS6, gR6, cR6, -, hvR6, hLd6⟩ := HB.out.leads E6 Hp.out
       have hq := hvR6.symm.trans HvR.out
       simp only [Value.slice.injEq, Option.some.injEq, Addr.mk.injEq, and_true, true_and] at hq
       obtain ⟨rfl, rfl⟩ := hq
       have q0 := hLd6.r0
       have q1 := hLd6.r1
       rw [HN.out] at q0
       have hS6 : W6.cell? ⟨β.bk, 1, none⟩ = some (.slice (some ⟨gR6, 0, none⟩) N cR6) ∧ W6.cell? ⟨gR6, k, none⟩ = some (.pointer (some ⟨p.rb, 0, none⟩)) ∧ W6.cell? ⟨ob, 2, none⟩ = some (.slice ra l.length rc) := ⟨q0, q1, T6'.cell y2 (fun r e => by rw [ht5] at e; cases e)⟩
       clear hvR6 hLd6))
  have S6 := HS5.out.turn T6' (.inl (by unfold boxS refS; omega))
  have ht6 : τ6 ob = none := (T6'.own ob (World.block_lt_of_cell? _ _ y2)).trans ht5
  have hb56 := T6'.size
  obtain ⟨p', hp'⟩ : ∃ p', p' = (⟨p.sb, p.rb, p.rs ++ new, p.lows, p.n + new.length, p.born ++ newb, p.clock + newb.length⟩ : Pr) := ⟨_, rfl⟩
  have HLat : Hid (Later p p') := Lib.hid (by rw [hp']; exact Later.add (HPP.out p (List.mem_of_getElem? Hp.out)) HR.out hNB)
  have hnl := HR.out.few
  have hnb := hNB.1
  have HLim : Hid (Lim U (β.put k p') (v + u)) := Lib.hid (by
    have := Hu.out
    refine HLm.out.put (Nat.le_add_right _ _) ?_
    rw [hp']
    simp only [List.length_append]
    omega)
  have EF : Env w0 τ6 W6 (ents β.ar (β.ps.set k p')) [] C := by
    refine ents_two (by rw [HN.out]; exact hmany) (by rw [HN.out]; exact hk) E6 ?_ ?_ (fun x hx h1 h2 => ?_)
    · rw [hp']
      exact List.mem_cons_of_mem _ (mem_others.2 ⟨List.mem_cons_self .., by show 2 * k + 1 ≠ refS + k; unfold refS; omega⟩)
    · rw [hp']
      exact List.mem_cons_self ..
    · exact List.mem_cons_of_mem _ (mem_others.2 ⟨List.mem_cons_of_mem _ (mem_others.2 ⟨hx, h1⟩), h2⟩)
  obtain ⟨LS, hLS⟩ : ∃ LS, LS = ents β.ar (β.ps.set k p') := ⟨_, rfl⟩
  rw [← hLS] at EF
  have HLS := Lib.hid hLS
  have HLSn : Hid (∀ z ∈ LS, z.s ≠ boxS) := Lib.hid (by rw [hLS]; exact ents_ne)
  have y6 := hS6.2.2
  have HI : Hid (Env w0 τ6 W6 LS [] C ∧ SRows τ6 W6 (.slice (some ⟨g3, 0, none⟩) (l.length + 1) c3) (l ++ [(-77, [])]) (cs ++ [Value.int IntKind.i64 (-77), Value.slice none 0 0]) (vs ++ [Value.slice none 0 0]) ∧ (∀ (q : Nat) r, 0 ≤ q → l[q]? = some r → (l ++ [((-77 : Int), ([] : List Int))])[q]? = some r) ∧ W6.heap.size ≤ W6.heap.size) := Lib.hid ⟨EF, S6, fun q r _ hr => by rw [List.getElem?_append_left (List.getElem?_eq_some_iff.1 hr).1]; exact hr, Nat.le_refl _⟩
  have hsz6 : w.heap.size ≤ W6.heap.size := by omega
  clear hnb hnl S6 EF hLS hp' E6 T6 T6' hNB q0 q1 hS6 HT5 HE5 HS5 HS3 HE3 HR c6 r0 r1 y2
  go_wp2_with fail
  go_loopw [12] (fun i wr => ∃ (j : Nat) (ls : List Row) (cs' : List Value), j ≤ l.length ∧ i = .int .i64 j ∧ wr.cell? ⟨ob, 2, none⟩ = some (.slice ra l.length rc) ∧ Hid (Env w0 τ6 wr LS [] C ∧ SRows τ6 wr (.slice (some ⟨g3, 0, none⟩) (l.length + 1) c3) ls cs' (vs ++ [Value.slice none 0 0]) ∧ (∀ (q : Nat) r, j ≤ q → l[q]? = some r → ls[q]? = some r) ∧ W6.heap.size ≤ wr.heap.size)) (fun i _ => l.length - (intOf i).toNat)
  case atStart => exact ⟨0, _, _, Nat.zero_le _, rfl, y6, HI⟩
  case round =>
    obtain ⟨j, ls, cs', hj, rfl, yr, HIr⟩ := hrel
    by_cases hlt : j < l.length
    · rcases HX.out.1 with h | ⟨b, o, rfl, _, hc⟩
      · rw [h] at hlt; simp at hlt
      · obtain ⟨P, ai, ci, xs, c0, c1, HI2, HXr⟩ := rows_at hc hlt
        obtain ⟨Er, Sr, hr, hsz⟩ := HIr.out
        have e0 := on_cell Er.below c0
        have e1 := on_cell Er.below c1
        have hrj := hr j _ (Nat.le_refl _) HXr.out
        obtain ⟨g', cc', ee, d0, ⟨a1, k1, dv, d1, dI⟩, -, -⟩ := Sr.setPred hrj
        simp only [Value.slice.injEq, Option.some.injEq, Addr.mk.injEq, and_true] at ee
        obtain ⟨rfl, -, -⟩ := ee
        have hxl := HA.out (P, xs) (List.mem_of_getElem? HXr.out)
        simp only at hxl
        have cE := Lib.hid (requal_any P P a1 ai k1 ci xs xs wr.drew (dI.below (Below.refl _ _).drew (Nat.le_refl _)).ints ((HI2.out.below Er.below (Nat.le_refl _)).below (Below.refl _ _).drew (Nat.le_refl _)).ints (by omega))
        simp only [decide_true] at cE
        have Hrj := Lib.hid hrj
        have HEr := Lib.hid Er
        have HSr := Lib.hid Sr
        have Hr := Lib.hid hr
        have Hsz := Lib.hid hsz
        clear hc c0 c1 Er Sr hr hsz hrj dI dv
        go_wp2_with fail
        go_region_held3 (fun w' => w'.cell? ⟨g3, j * 2, none⟩ = some (.int .i64 P) ∧ w'.cell? ⟨g3, j * 2 + 1, none⟩ = some (.slice a1 xs.length k1) ∧ w'.cell? ⟨ob, 2, none⟩ = some (.slice (some ⟨b, o, none⟩) l.length rc) ∧ w'.cell? ⟨b, o + j * 2, none⟩ = some (.int .i64 P) ∧ w'.cell? ⟨b, o + j * 2 + 1, none⟩ = some (.slice ai xs.length ci)) (first | assumption | exact ⟨d0, d1, yr, e0, e1⟩ | go_keep) (first
          | (go_at_call 53
             with_reducible refine cE.out.mono ?_
             rintro e W7 ⟨rfl, hb7⟩
             have hb7' : Below wr.heap.size wr W7 := (Below.refl _ _).drew.trans hb7
             have hS7 : W7.cell? ⟨g3, j * 2, none⟩ = some (.int .i64 P) ∧ W7.cell? ⟨g3, j * 2 + 1, none⟩ = some (.slice a1 xs.length k1) ∧ W7.cell? ⟨ob, 2, none⟩ = some (.slice (some ⟨b, o, none⟩) l.length rc) ∧ W7.cell? ⟨b, o + j * 2, none⟩ = some (.int .i64 P) ∧ W7.cell? ⟨b, o + j * 2 + 1, none⟩ = some (.slice ai xs.length ci) := ⟨on_cell hb7' d0, on_cell hb7' d1, on_cell hb7' yr, on_cell hb7' e0, on_cell hb7' e1⟩))
        have HI7 : Hid (Env w0 τ6 W7 LS [] C ∧ SRows τ6 W7 (.slice (some ⟨g3, 0, none⟩) (l.length + 1) c3) (ls.set j (P, xs)) cs' (vs ++ [Value.slice none 0 0]) ∧ W6.heap.size ≤ W7.heap.size) := Lib.hid ⟨HEr.out.stay hb7', by
          have e : ls.set j (P, xs) = ls := by
            apply List.ext_getElem?
            intro q
            rw [List.getElem?_set]
            split
            · rename_i e
              subst e
              rw [Hrj.out]
              simp [(List.getElem?_eq_some_iff.1 Hrj.out).1]
            · rfl
          rw [e]
          exact HSr.out.below hb7', by have := Hsz.out; have := hb7'.size; omega⟩
        have y7 := hS7.2.2.1
        have Hjl : Hid (j < ls.length) := Lib.hid (List.getElem?_eq_some_iff.1 Hrj.out).1
        clear hS7 cE d0 d1 yr e0 e1 hb7
        go_wp2_with fail
        go_loopw [13] (fun i wz => ∃ (m : Nat) (ys : List Int), m ≤ xs.length ∧ i = .int .i64 m ∧ ys.length = xs.length ∧ wz.cell? ⟨ob, 2, none⟩ = some (.slice (some ⟨b, o, none⟩) l.length rc) ∧ Hid (Env w0 τ6 wz LS [] C ∧ SRows τ6 wz (.slice (some ⟨g3, 0, none⟩) (l.length + 1) c3) (ls.set j (P, ys)) cs' (vs ++ [Value.slice none 0 0]) ∧ W6.heap.size ≤ wz.heap.size)) (fun i _ => xs.length - (intOf i).toNat)
        case atStart => exact ⟨0, xs, Nat.zero_le _, rfl, rfl, y7, HI7⟩
        case round =>
          obtain ⟨m, ys, hm, rfl, hyl, yz, HIz⟩ := hrel
          obtain ⟨wz, hwz⟩ : ∃ x, x = wr := ⟨_, rfl⟩
          subst hwz
          obtain ⟨Ez, Sz, hsz⟩ := HIz.out
          have hgz : (ls.set j (P, ys))[j]? = some (P, ys) := List.getElem?_set_self Hjl.out
          obtain ⟨g', cc', ee, d0, ⟨a1', k1', dv, d1, -⟩, f0, hput⟩ := Sz.setPred hgz
          simp only [Value.slice.injEq, Option.some.injEq, Addr.mk.injEq, and_true] at ee
          obtain ⟨rfl, -, -⟩ := ee
          have Hput := Lib.hid (hput 0)
          have Hgz := Lib.hid hgz
          have HEz := Lib.hid Ez
          have HSz := Lib.hid Sz
          have Hyl := Lib.hid hyl
          rw [hyl] at d1
          clear hput hgz Ez hyl
          by_cases hml : m < xs.length
          · obtain ⟨ga, ca, ev, ⟨x0, dx⟩, fx, harg⟩ := Sz.setArg Hgz.out (j := m) (by rw [Hyl.out]; exact hml)
            rw [dv] at ev
            simp only [Option.some.injEq, Value.slice.injEq] at ev
            obtain ⟨rfl, -, rfl⟩ := ev
            have Harg := Lib.hid (harg (900 + (m : Int)))
            clear harg Sz dv
            go_wp2_with fail
            go_roundw
            case rel =>
              obtain ⟨S', T'⟩ := Harg.out
              rw [List.set_set] at S'
              exact ⟨m + 1, ys.set m (900 + (m : Int)), by omega, by go_num, by rw [List.length_set]; exact Hyl.out, T'.cell yz (fun r e => by rw [ht6] at e; cases e), Lib.hid ⟨HEz.out.scr HLSn.out T', S', Nat.le_trans hsz T'.size⟩⟩
            case measure => simp [intOf]; omega
          · clear Sz dv
            go_wp2_with fail
            go_roundw
            case rel =>
              obtain ⟨S', T'⟩ := Hput.out
              rw [List.set_set] at S'
              exact ⟨j + 1, ls.set j (0, ys), cs'.set (j * 2) (.int .i64 0), by omega, by go_num, T'.cell yz (fun r e => by rw [ht6] at e; cases e), Lib.hid ⟨HEz.out.scr HLSn.out T', S', fun q r hq hr => by
                rw [List.getElem?_set_ne (by omega)]
                exact Hr.out q r (by omega) hr, Nat.le_trans hsz T'.size⟩⟩
            case measure => simp [intOf]; omega
    · go_wp2_with fail
      go_ret
      obtain ⟨Er, -, -, hsz⟩ := HIr.out
      rw [HLS.out] at Er
      exact ⟨rfl, _, _, _, Step.put HB.out Hp.out HLat.out Er (Nat.le_trans hsz6 hsz), BLater.set HPP.out Hp.out HLat.out rfl, HLim.out⟩
end Go.Proofs.Ytgodidoibcomcaa.Bk

namespace Go.Proofs.Ytgodidoibcomcaa.Bk
open Go.RowKit Go.Proofs.Ytgodidoibcomcaa

theorem BLater.same {β β' : Book} (h : ∀ p ∈ β.ps, PrOk p) (e : β'.ps = β.ps) : BLater β β' := by
  refine ⟨by rw [e]; exact Nat.le_refl _, fun k p hp => ⟨p, by rw [e]; exact hp, Later.refl (h p (List.mem_of_getElem? hp))⟩, by rw [e]; exact h, fun M hM => by rw [e]; exact hM⟩
theorem U_next {U v : Nat} (h : v ≤ U) (hU : U ≤ 1048576) : v * (12 * U + 100) ≤ 13200000000000 := Nat.le_trans (Nat.mul_le_mul h (Nat.le_refl _)) (Nat.le_trans (Nat.mul_le_mul hU (show 12 * U + 100 ≤ 12583012 by omega)) (by decide))
theorem U_lists {U v : Nat} (h : v ≤ U) (hU : U ≤ 1048576) : v * (2 * U + 8) ≤ 2200000000000 := Nat.le_trans (Nat.mul_le_mul h (Nat.le_refl _)) (Nat.le_trans (Nat.mul_le_mul hU (show 2 * U + 8 ≤ 2097160 by omega)) (by decide))
theorem wrap_rng (x : Int) : Rng (IntKind.i64.wrap x) := by
  unfold Rng IntKind.wrap
  simp [IntKind.signed, IntKind.bits]
  omega
theorem of_len (rows : List Row) (n : Int) : (ofK rows (.int .i64 n)).length ≤ rows.length := idxL_length (fun r => Value.int .i64 n = .int .i64 r.1) rows
theorem wh_len (rows : List Row) (a b c : Int) : (whK rows (placeV a b c)).length ≤ rows.length := idxL_length _ rows
theorem Lim.keeps {U u v d : Nat} {β : Book} (h : Lim U β v) (hu : 8 ≤ u) (hU : U ≤ 1048576) {vL : Value} {nx : Int} {ls : List (Value × Value)} (h0 : β.next ≤ nx) (h1 : nx ≤ β.next + 3 * (U + 9)) (h2 : ls.length = β.lists.length + d) (hd : d ≤ 6) : Lim U { β with vL := vL, next := nx, lists := ls } (v + u) := by
  have h' := h.mono (Nat.le_add_right v u)
  have e1 : (v + 8) * (12 * U + 100) ≤ (v + u) * (12 * U + 100) := Nat.mul_le_mul_right _ (by omega)
  have e2 : (v + 8) * (2 * U + 8) ≤ (v + u) * (2 * U + 8) := Nat.mul_le_mul_right _ (by omega)
  rw [Nat.add_mul] at e1 e2
  have q1 := h.next
  have q2 := h.lists
  have q3 := h.next0
  refine ⟨h'.ps, h'.rs, ?_, ?_, ?_⟩
  · show 0 ≤ nx
    omega
  · show 8 * nx ≤ _
    omega
  · show 8 * ls.length ≤ _
    omega
theorem RowsZ.head {Z : Nat → Prop} {w : World} {a : Option Addr} {c : Nat} {r : Row} {l : List Row} (h : RowsZ Z w a c (r :: l)) : RowsZ Z w a c [r] := by
  rcases h with ⟨h1 | ⟨b, off, ha, hb, hc⟩, h2⟩
  · cases h1
  · refine ⟨.inr ⟨b, off, ha, hb, fun i hi => ?_⟩, fun e => by cases (h2 e).1⟩
    have : i = 0 := by simp at hi; omega
    subst this
    exact hc 0 (by simp)
/-- a row is written over another one -/
theorem set_two {w : World} {fb : Nat} {u0 u1 v0 v1 : Value} (h0 : w.cell? ⟨fb, 0, none⟩ = some u0) (h1 : w.cell? ⟨fb, 1, none⟩ = some u1) :
    ((w.setCell ⟨fb, 0, none⟩ v0).setCell ⟨fb, 1, none⟩ v1).cell? ⟨fb, 0, none⟩ = some v0 ∧ ((w.setCell ⟨fb, 0, none⟩ v0).setCell ⟨fb, 1, none⟩ v1).cell? ⟨fb, 1, none⟩ = some v1 ∧ ∀ {b o : Nat} {u : Value}, b ≠ fb → w.cell? ⟨b, o, none⟩ = some u → ((w.setCell ⟨fb, 0, none⟩ v0).setCell ⟨fb, 1, none⟩ v1).cell? ⟨b, o, none⟩ = some u := by
  have a0 : (w.setCell ⟨fb, 0, none⟩ v0).cell? ⟨fb, 0, none⟩ = some v0 := World.cell?_setCell_same' _ _ _ (by rw [h0]; rfl)
  have a1 : (w.setCell ⟨fb, 0, none⟩ v0).cell? ⟨fb, 1, none⟩ = some u1 := (World.cell?_setCell_other _ _ _ _ (by simp)).trans h1
  refine ⟨(World.cell?_setCell_other _ _ _ _ (by simp)).trans a0, World.cell?_setCell_same' _ _ _ (by rw [a1]; rfl), fun {b o u} hb h => ?_⟩
  exact (World.cell?_setCell_far _ _ _ _ (fun e => hb e.symm)).trans ((World.cell?_setCell_far _ _ _ _ (fun e => hb e.symm)).trans h)
/-- the one row -/
theorem DRows.one {B : Nat} {w : World} {v : Value} {r : Row} {cs vs : List Value} (h : DRows B w v [r] cs vs) : ∃ g cg a c, v = .slice (some ⟨g, 0, none⟩) 1 cg ∧ w.cell? ⟨g, 0, none⟩ = some (.int .i64 r.1) ∧ w.cell? ⟨g, 1, none⟩ = some (.slice a r.2.length c) ∧ Hid (IntsZ (fun j => B ≤ j) w a c r.2) := by
  rcases owns_form h.own with ⟨_, h0, _⟩ | ⟨g, cap, e, _, _, _, _, _, hcell, _⟩
  · cases h0
  · obtain ⟨a, c, q1, q2, q3, q4⟩ := h.row 0 r rfl
    refine ⟨g, cap, a, c, e, hcell _ _ q2, hcell _ _ q3, Lib.hid ?_⟩
    obtain ⟨a', c', e', hz⟩ := intsZ_of_row q4
    simp only [Value.slice.injEq, true_and] at e'
    obtain ⟨rfl, rfl⟩ := e'
    exact hz
end Go.Proofs.Ytgodidoibcomcaa.Bk

namespace Go.Proofs.Ytgodidoibcomcaa.Bk
open Go.RowKit Go.Proofs.Ytgodidoibcomcaa

structure BookP (bk : Nat) (vS vR vL : Value) (next : Int) (lists : List (Value × Value)) (xS xR : List Value) (C : List Box) : Prop where
  head : (bk, Obj.cells #[vS, vR, vL, .int .i64 next] 96 (0, 0)) ∈ C
  st : BoxRow C 25 1 vS xS.length xS
  rf : BoxRow C 89 1 vR xR.length xR
  ls : BoxRow C 102 2 vL lists.length (lists.flatMap fun x => [x.1, x.2])
  kept : ∀ x ∈ lists, ∃ xs : List Int, BoxRow C 3 1 x.1 xs.length (xs.map (Value.int .i64)) ∧ BoxRow C 3 1 x.2 xs.length (xs.map (Value.int .i64))
theorem BookOk.parts {β : Book} {C : List Box} (B : BookOk β C) : BookP β.bk β.vS β.vR β.vL β.next β.lists (β.ps.map fun p => .pointer (some ⟨p.sb, 0, none⟩)) (β.ps.map fun p => .pointer (some ⟨p.rb, 0, none⟩)) C :=
  ⟨B.head, by rw [List.length_map]; exact B.st, by rw [List.length_map]; exact B.rf, B.ls, B.kept⟩
section
variable {w0 : World} {τ : Own} {w wA w2 : World} {S : List Ent} {C : List Box} {bk : Nat} {vS vR vL v' : Value} {next : Int} {lists : List (Value × Value)} {xS xR : List Value}
theorem BookP.growS (B : BookP bk vS vR vL next lists xS xR C) (E : Env w0 τ w S [] C) (hs : ∀ z ∈ S, z.s ≠ boxS) (hbA : Below w.heap.size w wA) {u : Value} (hown : w2.ownsRow 0 25 1 v' (xS.length + 1) (xS ++ [u]))
    (hg : (∃ a cap, vS = .slice a xS.length cap ∧ v' = .slice a (xS.length + 1) cap ∧ wA.grownBy w2 vS.ownBlock) ∨ (v'.ownBlock = some wA.heap.size ∧ wA.grownBy w2 none)) :
    ∃ τ' C', Env w0 τ' (w2.setCell ⟨bk, 0, none⟩ v') S [] C' ∧ BookP bk v' vR vL next lists (xS ++ [u]) xR C' ∧ (∀ x ∈ C, x.1 ≠ bk → vS.ownBlock ≠ some x.1 → x ∈ C') ∧ (∀ g, v'.ownBlock = some g → vS.ownBlock = some g ∨ w.heap.size ≤ g) ∧ w.heap.size ≤ (w2.setCell ⟨bk, 0, none⟩ v').heap.size := by
  obtain ⟨τ2, C2, E2, R2, sub, -, alt⟩ := B.st.grow E hs hbA hown hg
  have hne : vS.ownBlock ≠ some bk := B.st.apartHead B.head E (by decide)
  have hne2 : v'.ownBlock ≠ some bk := fun e => by
    rcases alt with h | ⟨_, h⟩
    · exact hne (h ▸ e)
    · rw [h] at e
      cases e
      have h1 := E.lt B.head
      have h2 := hbA.size
      simp only at h1
      omega
  have h2 := sub _ B.head hne
  have E3 := E2.setAt hs h2 0 v'
  have hsz : w.heap.size ≤ w2.heap.size := by
    rcases hg with ⟨_, _, _, _, hg⟩ | ⟨_, hg⟩
    · exact Nat.le_trans hbA.size hg.size
    · exact Nat.le_trans hbA.size hg.size
  refine ⟨τ2, _, E3, ⟨mem_upd h2, ?_, ?_, ?_, fun x hx => ?_⟩, fun x hx a b => mem_upd_ne (sub x hx b) a, fun g e => ?_, by simpa using hsz⟩
  · rw [List.length_append, List.length_singleton]
    exact R2.mono (fun x hx hb => mem_upd_ne hx (fun e => hne2 (by rw [hb, e])))
  · exact (B.rf).mono (fun x hx hb => mem_upd_ne (sub x hx (fun e => ((B.rf).apart B.st E (by decide) hb) e)) (fun e => (B.rf).apartHead B.head E (by decide) (by rw [hb, e])))
  · exact (B.ls).mono (fun x hx hb => mem_upd_ne (sub x hx (fun e => ((B.ls).apart B.st E (by decide) hb) e)) (fun e => (B.ls).apartHead B.head E (by decide) (by rw [hb, e])))
  · obtain ⟨ys, k1, k2⟩ := B.kept x hx
    exact ⟨ys, (k1).mono (fun x hx hb => mem_upd_ne (sub x hx (fun e => ((k1).apart B.st E (by decide) hb) e)) (fun e => (k1).apartHead B.head E (by decide) (by rw [hb, e]))), (k2).mono (fun x hx hb => mem_upd_ne (sub x hx (fun e => ((k2).apart B.st E (by decide) hb) e)) (fun e => (k2).apartHead B.head E (by decide) (by rw [hb, e])))⟩
  · rcases alt with h | ⟨_, h⟩
    · exact .inl (h ▸ e)
    · rw [h] at e
      cases e
      exact .inr hbA.size
theorem BookP.growR (B : BookP bk vS vR vL next lists xS xR C) (E : Env w0 τ w S [] C) (hs : ∀ z ∈ S, z.s ≠ boxS) (hbA : Below w.heap.size w wA) {u : Value} (hown : w2.ownsRow 0 89 1 v' (xR.length + 1) (xR ++ [u]))
    (hg : (∃ a cap, vR = .slice a xR.length cap ∧ v' = .slice a (xR.length + 1) cap ∧ wA.grownBy w2 vR.ownBlock) ∨ (v'.ownBlock = some wA.heap.size ∧ wA.grownBy w2 none)) :
    ∃ τ' C', Env w0 τ' (w2.setCell ⟨bk, 1, none⟩ v') S [] C' ∧ BookP bk vS v' vL next lists xS (xR ++ [u]) C' ∧ (∀ x ∈ C, x.1 ≠ bk → vR.ownBlock ≠ some x.1 → x ∈ C') ∧ (∀ g, v'.ownBlock = some g → vR.ownBlock = some g ∨ w.heap.size ≤ g) ∧ w.heap.size ≤ (w2.setCell ⟨bk, 1, none⟩ v').heap.size := by
  obtain ⟨τ2, C2, E2, R2, sub, -, alt⟩ := B.rf.grow E hs hbA hown hg
  have hne : vR.ownBlock ≠ some bk := B.rf.apartHead B.head E (by decide)
  have hne2 : v'.ownBlock ≠ some bk := fun e => by
    rcases alt with h | ⟨_, h⟩
    · exact hne (h ▸ e)
    · rw [h] at e
      cases e
      have h1 := E.lt B.head
      have h2 := hbA.size
      simp only at h1
      omega
  have h2 := sub _ B.head hne
  have E3 := E2.setAt hs h2 1 v'
  have hsz : w.heap.size ≤ w2.heap.size := by
    rcases hg with ⟨_, _, _, _, hg⟩ | ⟨_, hg⟩
    · exact Nat.le_trans hbA.size hg.size
    · exact Nat.le_trans hbA.size hg.size
  refine ⟨τ2, _, E3, ⟨mem_upd h2, ?_, ?_, ?_, fun x hx => ?_⟩, fun x hx a b => mem_upd_ne (sub x hx b) a, fun g e => ?_, by simpa using hsz⟩
  · exact (B.st).mono (fun x hx hb => mem_upd_ne (sub x hx (fun e => ((B.st).apart B.rf E (by decide) hb) e)) (fun e => (B.st).apartHead B.head E (by decide) (by rw [hb, e])))
  · rw [List.length_append, List.length_singleton]
    exact R2.mono (fun x hx hb => mem_upd_ne hx (fun e => hne2 (by rw [hb, e])))
  · exact (B.ls).mono (fun x hx hb => mem_upd_ne (sub x hx (fun e => ((B.ls).apart B.rf E (by decide) hb) e)) (fun e => (B.ls).apartHead B.head E (by decide) (by rw [hb, e])))
  · obtain ⟨ys, k1, k2⟩ := B.kept x hx
    exact ⟨ys, (k1).mono (fun x hx hb => mem_upd_ne (sub x hx (fun e => ((k1).apart B.rf E (by decide) hb) e)) (fun e => (k1).apartHead B.head E (by decide) (by rw [hb, e]))), (k2).mono (fun x hx hb => mem_upd_ne (sub x hx (fun e => ((k2).apart B.rf E (by decide) hb) e)) (fun e => (k2).apartHead B.head E (by decide) (by rw [hb, e])))⟩
  · rcases alt with h | ⟨_, h⟩
    · exact .inl (h ▸ e)
    · rw [h] at e
      cases e
      exact .inr hbA.size
/-- append leaves what is in other blocks -/
theorem grow_cell {wA w2 : World} {v v' : Value} {n m : Nat} (hg : (∃ a cap, v = .slice a n cap ∧ v' = .slice a m cap ∧ wA.grownBy w2 v.ownBlock) ∨ (v'.ownBlock = some wA.heap.size ∧ wA.grownBy w2 none)) {a : Addr} {u : Value} (hc : wA.cell? a = some u) (hn : v.ownBlock ≠ some a.block) : w2.cell? a = some u ∧ w2.frozen? a = wA.frozen? a := by
  have hlt := World.block_lt_of_cell? _ _ hc
  have hb : w2.heap[a.block]? = wA.heap[a.block]? := by
    rcases hg with ⟨_, _, _, _, hg⟩ | ⟨_, hg⟩
    · exact hg.block _ hlt (fun e => hn e.symm)
    · exact hg.block _ hlt (by simp)
  exact ⟨(World.cell?_of_block (w := wA) hb).trans hc, World.frozen?_of_block (w := wA) hb⟩
theorem ents_snoc {ar : List Int} {ps : List Pr} {q : Pr} {x : Ent} (h : x ∈ ents ar (ps ++ [q])) : x ∈ ents ar ps ∨ x = stE ar ps.length q ∨ x = rfE ar ps.length q := by
  obtain ⟨k, p, hp, hx⟩ := mem_ents.1 h
  rcases app_last hp with hp | ⟨rfl, rfl⟩
  · exact .inl (mem_ents.2 ⟨k, p, hp, hx⟩)
  · exact .inr hx
end
theorem copy_end {w0 : World} {τ τ9 : Own} {w V1 V4 W9 : World} {β : Book} {C C3 C9 : List Box} {U u v L N k cb cb2 : Nat} {p : Pr} {rs' : List (Row × Int)} {S1 : List Ent} {vS' vR' : Value} (_E : Env w0 τ w (ents β.ar β.ps) [] C) (_B : BookOk β C) (HP : ∀ p ∈ β.ps, PrOk p) (hp : β.ps[k]? = some p) (hN : β.ps.length = N) (_hk : k < N)
    (E9 : Env w0 τ9 W9 (⟨refS + N, cb2, β.ar, rs', p.born.map (fun x => (0, x)), p.clock⟩ :: S1) [] C9) (hS1 : S1 = (⟨2 * N + 1, cb, β.ar, rs', [], p.rs.length⟩ : Ent) :: ents β.ar β.ps)
    (B9 : BookP β.bk vS' vR' β.vL β.next β.lists (β.ps.map (fun p => Value.pointer (some ⟨p.sb, 0, none⟩)) ++ [.pointer (some ⟨cb, 0, none⟩)]) (β.ps.map (fun p => Value.pointer (some ⟨p.rb, 0, none⟩)) ++ [.pointer (some ⟨cb2, 0, none⟩)]) C9)
    (hrs : rs'.map (·.1) = p.rows) (hbi : ∀ x ∈ rs', x.2 ≤ (p.rs.length : Int)) (sub3 : ∀ x ∈ C, x.1 ≠ β.bk → β.vS.ownBlock ≠ some x.1 → x ∈ C3) (sub9 : ∀ x ∈ C3, x.1 ≠ β.bk → β.vR.ownBlock ≠ some x.1 → x ∈ C9)
    (gS : ∀ g, vS'.ownBlock = some g → β.vS.ownBlock = some g ∨ V1.heap.size ≤ g) (gR : ∀ g, vR'.ownBlock = some g → β.vR.ownBlock = some g ∨ V4.heap.size ≤ g) (h1 : w.heap.size ≤ V1.heap.size) (h4 : w.heap.size ≤ V4.heap.size) (h9 : w.heap.size ≤ W9.heap.size) (hL : Lim U β v) (hu : L + 8 ≤ u) (hN6 : N + 1 ≤ 1000000) :
    FlatEnd w0 β C U (v + u) w (.returned (.bool true)) W9 := by
  have hq := HP p (List.mem_of_getElem? hp)
  have hrl : rs'.length = p.rs.length := by
    have := congrArg List.length hrs
    rw [List.length_map] at this
    rw [this]
    exact List.length_map _
  have hlp := hL.rs p (List.mem_of_getElem? hp)
  have hps := hL.ps
  obtain ⟨q, hqd⟩ : ∃ q, q = (⟨cb, cb2, rs', [], p.rs.length, p.born, p.clock⟩ : Pr) := ⟨_, rfl⟩
  have hqok : PrOk q := by rw [hqd]; exact ⟨by simp only; rw [hrl]; exact hq.len, hbi, hq.rf, fun x hx => by cases hx⟩
  have hL' := hL.mono (Nat.le_add_right v u)
  refine ⟨rfl, { β with ps := β.ps ++ [q], vS := vS', vR := vR' }, τ9, C9, ⟨E9.mems (fun x hx => ?_), ⟨B9.head, ?_, ?_, B9.ls, B9.kept, ?_, ?_⟩, rfl, rfl, h9, fun x hx a b c _ => sub9 x (sub3 x hx a b) a c, fun g e => (gS g e).imp id (fun h => by omega), fun g e => (gR g e).imp id (fun h => by omega), fun g e => .inl e, fun u h _ => h⟩, ⟨?_, fun j r hr => ⟨r, ?_, Later.refl (HP r (List.mem_of_getElem? hr))⟩, fun r hr => ?_, fun M hM r hr => ?_⟩, ⟨?_, fun r hr => ?_, hL'.next0, hL'.next, hL'.lists⟩⟩
  · rw [hS1]
    rcases ents_snoc hx with hx | rfl | rfl
    · exact List.mem_cons_of_mem _ (List.mem_cons_of_mem _ hx)
    · rw [hqd, hN]
      exact List.mem_cons_of_mem _ (List.mem_cons_self ..)
    · rw [hqd, hN]
      exact List.mem_cons_self ..
  · have h := B9.st
    simp only [List.length_append, List.length_map, List.length_singleton] at h
    show BoxRow C9 _ 1 vS' (β.ps ++ [q]).length ((β.ps ++ [q]).map fun p => Value.pointer (some ⟨p.sb, 0, none⟩))
    rw [List.length_append, List.length_singleton, List.map_append, hqd]
    exact h
  · have h := B9.rf
    simp only [List.length_append, List.length_map, List.length_singleton] at h
    show BoxRow C9 _ 1 vR' (β.ps ++ [q]).length ((β.ps ++ [q]).map fun p => Value.pointer (some ⟨p.rb, 0, none⟩))
    rw [List.length_append, List.length_singleton, List.map_append, hqd]
    exact h
  · show (β.ps ++ [q]).length ≤ _
    rw [List.length_append, List.length_singleton]
    omega
  · show 0 < (β.ps ++ [q]).length
    simp
  · show β.ps.length ≤ (β.ps ++ [q]).length
    simp
  · show (β.ps ++ [q])[j]? = some r
    rw [List.getElem?_append_left (List.getElem?_eq_some_iff.1 hr).1]
    exact hr
  · rcases List.mem_append.1 hr with hr | hr
    · exact HP r hr
    · rw [List.mem_singleton] at hr
      rw [hr]
      exact hqok
  · rcases List.mem_append.1 hr with hr | hr
    · exact hM r hr
    · rw [List.mem_singleton] at hr
      rw [hr, hqd]
      exact Nat.zero_le _
  · show 8 * (β.ps ++ [q]).length ≤ _
    rw [List.length_append, List.length_singleton]
    omega
  · rcases List.mem_append.1 hr with hr | hr
    · exact hL'.rs r hr
    · rw [List.mem_singleton] at hr
      rw [hr, hqd]
      simp only
      omega
end Go.Proofs.Ytgodidoibcomcaa.Bk
