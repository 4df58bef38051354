/-
  Add of the document's store: the rows that are not there are put in, in order, with the times of their coming.
-/
import Derived.Test.YtgodidoibcomcaaRNew
import Derived.Test.YtgodidoibcomcaaSPush
namespace Go.Proofs.Ytgodidoibcomcaa
open Go.RowKit

def Rf.push (ρ : Rf) (r : Row) : Rf := { ρ with rows := ρ.rows ++ [r], born := ρ.born ++ [((ρ.clock + 1 : Nat) : Int)], clock := ρ.clock + 1 }
def Rf.addAll (ρ : Rf) (l : List Row) : Rf := l.foldl (fun ρ r => if r ∈ ρ.rows then ρ else ρ.push r) ρ
theorem raddAll_snoc (ρ : Rf) (l : List Row) (r : Row) : ρ.addAll (l ++ [r]) = if r ∈ (ρ.addAll l).rows then ρ.addAll l else (ρ.addAll l).push r := by
  unfold Rf.addAll; rw [List.foldl_append]; rfl
theorem raddAll_rows (ρ : Rf) (l : List Row) : (ρ.addAll l).rows = joinedL ρ.rows l := by
  induction l generalizing ρ with
  | nil => rfl
  | cons r l ih =>
    have h := ih (if r ∈ ρ.rows then ρ else ρ.push r)
    have e : (if r ∈ ρ.rows then ρ else ρ.push r).rows = if r ∈ ρ.rows then ρ.rows else ρ.rows ++ [r] := by split <;> rfl
    rw [e] at h
    exact h
theorem raddAll_ar (ρ : Rf) (l : List Row) : (ρ.addAll l).ar = ρ.ar := by
  induction l generalizing ρ with
  | nil => rfl
  | cons r l ih =>
    have h := ih (if r ∈ ρ.rows then ρ else ρ.push r)
    have e : (if r ∈ ρ.rows then ρ else ρ.push r).ar = ρ.ar := by split <;> rfl
    rw [e] at h
    exact h
theorem raddAll_clock (ρ : Rf) (l : List Row) : (ρ.addAll l).clock ≤ ρ.clock + l.length ∧ ρ.clock ≤ (ρ.addAll l).clock := by
  induction l generalizing ρ with
  | nil => exact ⟨Nat.le_refl _, Nat.le_refl _⟩
  | cons r l ih =>
    have h := ih (if r ∈ ρ.rows then ρ else ρ.push r)
    have e : (if r ∈ ρ.rows then ρ else ρ.push r).clock ≤ ρ.clock + 1 ∧ ρ.clock ≤ (if r ∈ ρ.rows then ρ else ρ.push r).clock := by split <;> simp [Rf.push]
    have : (ρ.addAll (r :: l)).clock ≤ _ ∧ _ ≤ (ρ.addAll (r :: l)).clock := h
    simp only [List.length_cons]
    omega
theorem raddAll_length (ρ : Rf) (l : List Row) : (ρ.addAll l).rows.length ≤ ρ.rows.length + l.length ∧ ρ.rows.length ≤ (ρ.addAll l).rows.length := by
  induction l generalizing ρ with
  | nil => exact ⟨Nat.le_refl _, Nat.le_refl _⟩
  | cons r l ih =>
    have h := ih (if r ∈ ρ.rows then ρ else ρ.push r)
    have e : (if r ∈ ρ.rows then ρ else ρ.push r).rows.length ≤ ρ.rows.length + 1 ∧ ρ.rows.length ≤ (if r ∈ ρ.rows then ρ else ρ.push r).rows.length := by split <;> simp [Rf.push]
    have : (ρ.addAll (r :: l)).rows.length ≤ _ ∧ _ ≤ (ρ.addAll (r :: l)).rows.length := h
    simp only [List.length_cons]
    omega
theorem has_dec (rows : List Row) (r : Row) : decide (0 ≤ numI rows r) = decide (r ∈ rows) := by
  rcases numI_cases rows r with ⟨i, hi, h⟩ | ⟨hn, h⟩
  · rw [h]; simp [List.mem_of_getElem? hi]
  · rw [h]; simp [hn]

/-- the parts of the document's store, in between -/
structure RefP (s rb : Nat) (ar : List Int) (rows : List Row) (born : List Int) (clock : Nat) (τ : Own) (w : World) (aA : Option Addr) (cA : Nat) (vL vB : Value) : Prop where
  fresh : Fresh τ w
  mine : τ rb = some (s, .head)
  head : w.heap[rb]? = some (.cells #[.slice aA ar.length cA, vL, vB, .int .i64 (clock : Int)] 104 (0, 0))
  ar : IntsZ (Still s τ) w aA cA ar
  list : ∃ cs, w.ownsRow 0 28 2 vL rows.length cs ∧ (∀ g, vL.ownBlock = some g → τ g = some (s, .rows)) ∧ RowCells (Still s τ) w cs rows
  born : w.ownsRow 0 3 1 vB born.length (born.map (Value.int .i64)) ∧ ∀ g, vB.ownBlock = some g → τ g = some (s, .num)

section
variable {s rb : Nat} {ar : List Int} {rows : List Row} {born : List Int} {clock : Nat} {τ : Own} {w : World} {aA : Option Addr} {cA : Nat} {vL vB : Value}
theorem RefAt.parts {ρ : Rf} (hs : RefAt s rb ρ τ w aA cA vL vB) : RefP s rb ρ.ar ρ.rows ρ.born ρ.clock τ w aA cA vL vB := ⟨hs.fresh, hs.mine, hs.head, hs.ar, hs.list, hs.born⟩
theorem RefP.cells (P : RefP s rb ar rows born clock τ w aA cA vL vB) : w.cell? ⟨rb, 0, none⟩ = some (.slice aA ar.length cA) ∧ w.cell? ⟨rb, 1, none⟩ = some vL ∧ w.cell? ⟨rb, 2, none⟩ = some vB ∧ w.cell? ⟨rb, 3, none⟩ = some (.int .i64 (clock : Int)) ∧ ∀ j, w.frozen? ⟨rb, j, none⟩ = false := by
  have := P.head
  refine ⟨?_, ?_, ?_, ?_, fun j => ?_⟩ <;> simp [World.cell?, World.frozen?, this]
theorem RefP.turn {R : Role → Prop} {τ' : Own} {w' : World} (P : RefP s rb ar rows born clock τ w aA cA vL vB) (ht : Turn s R τ τ' w w') (h1 : ¬ R .head) (h2 : ¬ R .still) (h3 : ¬ R .rows) (h4 : ¬ R .num) : RefP s rb ar rows born clock τ' w' aA cA vL vB := by
  have hk : ∀ j, j < w.heap.size → ∀ r, ¬ R r → τ j = some (s, r) → w'.heap[j]? = w.heap[j]? := fun j hj r hr e => ht.keep j hj (fun r' e' => by rw [e] at e'; cases e'; exact hr)
  have hlt := (Array.getElem?_eq_some_iff.1 P.head).1
  obtain ⟨cs, ho, hg, hc⟩ := P.list
  exact ⟨ht.fresh, (ht.own rb hlt).trans P.mine, (hk rb hlt _ h1 P.mine).trans P.head, still_turn ht h2 P.ar,
    ⟨cs, owns_block ho (fun g e => hk g (ho.lt g e).2 _ h3 (hg g e)), fun g e => (ht.own g (ho.lt g e).2).trans (hg g e), hc.keep (fun j hj hz => hk j hj _ h2 hz) (fun j hj hz => (ht.own j hj).trans hz)⟩,
    ⟨owns_block P.born.1 (fun g e => hk g (P.born.1.lt g e).2 _ h4 (P.born.2 g e)), fun g e => (ht.own g (P.born.1.lt g e).2).trans (P.born.2 g e)⟩⟩
theorem RefP.below {w' : World} (P : RefP s rb ar rows born clock τ w aA cA vL vB) (hb : Below w.heap.size w w') : RefP s rb ar rows born clock τ w' aA cA vL vB :=
  P.turn (Turn.of_below (s := s) (R := fun _ => False) hb P.fresh) (fun h => h) (fun h => h) (fun h => h) (fun h => h)

/-- a head cell is written -/
theorem RefP.put (P : RefP s rb ar rows born clock τ w aA cA vL vB) (j : Nat) (v : Value) : Turn s (fun r => r = .head) τ τ w (w.setCell ⟨rb, j, none⟩ v) :=
  Turn.setCell (R := fun r => r = .head) P.fresh (a := ⟨rb, j, none⟩) P.mine rfl _
theorem RefP.tick (P : RefP s rb ar rows born clock τ w aA cA vL vB) (n : Nat) : RefP s rb ar rows born n τ (w.setCell ⟨rb, 3, none⟩ (.int .i64 (n : Int))) aA cA vL vB := by
  have T := P.put 3 (.int .i64 (n : Int))
  have hk : ∀ j r, r ≠ Role.head → τ j = some (s, r) → (w.setCell ⟨rb, 3, none⟩ (.int .i64 (n : Int))).heap[j]? = w.heap[j]? := fun j r hr e => Below.heap_setCell _ _ _ _ (fun e' => by
    have e' : j = rb := e'
    rw [e', P.mine] at e; cases e; exact hr rfl)
  obtain ⟨cs, ho, hg, hc⟩ := P.list
  exact ⟨T.fresh, P.mine, by rw [heap_setCell P.head]; rfl, P.ar.keep (fun j _ hz => hk j _ (fun h => by cases h) hz) (fun _ _ h => h),
    ⟨cs, owns_block ho (fun g e => hk g _ (fun h => by cases h) (hg g e)), hg, hc.keep (fun j _ hz => hk j _ (fun h => by cases h) hz) (fun _ _ h => h)⟩,
    ⟨owns_block P.born.1 (fun g e => hk g _ (fun h => by cases h) (P.born.2 g e)), P.born.2⟩⟩
theorem RefP.setL (P : RefP s rb ar rows born clock τ w aA cA vL vB) {v : Value} {rows' : List Row} {cs : List Value} (ho : w.ownsRow 0 28 2 v rows'.length cs) (hg : ∀ g, v.ownBlock = some g → τ g = some (s, .rows)) (hc : RowCells (Still s τ) w cs rows') :
    RefP s rb ar rows' born clock τ (w.setCell ⟨rb, 1, none⟩ v) aA cA v vB := by
  have T := P.put 1 v
  have hk : ∀ j r, r ≠ Role.head → τ j = some (s, r) → (w.setCell ⟨rb, 1, none⟩ v).heap[j]? = w.heap[j]? := fun j r hr e => Below.heap_setCell _ _ _ _ (fun e' => by
    have e' : j = rb := e'
    rw [e', P.mine] at e; cases e; exact hr rfl)
  exact ⟨T.fresh, P.mine, by rw [heap_setCell P.head]; rfl, P.ar.keep (fun j _ hz => hk j _ (fun h => by cases h) hz) (fun _ _ h => h),
    ⟨cs, owns_block ho (fun g e => hk g _ (fun h => by cases h) (hg g e)), hg, hc.keep (fun j _ hz => hk j _ (fun h => by cases h) hz) (fun _ _ h => h)⟩,
    ⟨owns_block P.born.1 (fun g e => hk g _ (fun h => by cases h) (P.born.2 g e)), P.born.2⟩⟩
theorem RefP.setB (P : RefP s rb ar rows born clock τ w aA cA vL vB) {v : Value} {born' : List Int} (ho : w.ownsRow 0 3 1 v born'.length (born'.map (Value.int .i64))) (hg : ∀ g, v.ownBlock = some g → τ g = some (s, .num)) :
    RefP s rb ar rows born' clock τ (w.setCell ⟨rb, 2, none⟩ v) aA cA vL v := by
  have T := P.put 2 v
  have hk : ∀ j r, r ≠ Role.head → τ j = some (s, r) → (w.setCell ⟨rb, 2, none⟩ v).heap[j]? = w.heap[j]? := fun j r hr e => Below.heap_setCell _ _ _ _ (fun e' => by
    have e' : j = rb := e'
    rw [e', P.mine] at e; cases e; exact hr rfl)
  obtain ⟨cs, ho2, hg2, hc⟩ := P.list
  exact ⟨T.fresh, P.mine, by rw [heap_setCell P.head]; rfl, P.ar.keep (fun j _ hz => hk j _ (fun h => by cases h) hz) (fun _ _ h => h),
    ⟨cs, owns_block ho2 (fun g e => hk g _ (fun h => by cases h) (hg2 g e)), hg2, hc.keep (fun j _ hz => hk j _ (fun h => by cases h) hz) (fun _ _ h => h)⟩,
    ⟨owns_block ho (fun g e => hk g _ (fun h => by cases h) (hg g e)), hg⟩⟩

/-- one row more -/
theorem RefP.putList (P : RefP s rb ar rows born clock τ w aA cA vL vB) {cs : List Value} (ho : w.ownsRow 0 28 2 vL rows.length cs) (hgL : ∀ g, vL.ownBlock = some g → τ g = some (s, .rows)) (hc : RowCells (Still s τ) w cs rows)
    {wA w2 : World} {p : Int} {xs : List Int} {a : Option Addr} {c : Nat} {v' : Value} (hbA : Below w.heap.size w wA) (hI : wA.ownsRow w.heap.size 3 1 (.slice a xs.length c) xs.length (xs.map (Value.int .i64)))
    (hown : w2.ownsRow 0 28 2 v' (rows.length + 1) (cs ++ [.int .i64 p, .slice a xs.length c])) (hgrow : wA.grownBy w2 vL.ownBlock) (hblk : v'.ownBlock = vL.ownBlock ∨ v'.ownBlock = some wA.heap.size) :
    ∃ τ', RefP s rb ar (rows ++ [(p, xs)]) born clock τ' (w2.setCell ⟨rb, 1, none⟩ v') aA cA v' vB ∧ Turn s (fun r => r = .rows ∨ r = .head) τ τ' w (w2.setCell ⟨rb, 1, none⟩ v') := by
  have TA : Turn s (fun _ => False) τ (adopted s .still w.heap.size wA.heap.size τ) w wA := (Turn.of_below hbA P.fresh).adopt .still (Nat.le_refl _)
  have PA := P.turn TA (fun h => h) (fun h => h) (fun h => h) (fun h => h)
  have hgA : ∀ g, vL.ownBlock = some g → adopted s .still w.heap.size wA.heap.size τ g = some (s, .rows) := fun g e => (TA.own g (ho.lt g e).2).trans (hgL g e)
  have hcA : RowCells (Still s (adopted s .still w.heap.size wA.heap.size τ)) wA cs rows := hc.keep (fun j hj hz => TA.keep j hj (fun r _ h => h)) (fun j hj hz => (TA.own j hj).trans hz)
  obtain ⟨a', c', e, hI'⟩ := intsZ_of_row hI
  simp only [Value.slice.injEq] at e
  obtain ⟨rfl, -, rfl⟩ := e
  have hIA : IntsZ (Still s (adopted s .still w.heap.size wA.heap.size τ)) wA a c xs := hI'.keep (fun _ _ _ => rfl) (fun j hj hz => adopted_in hz hj)
  have T2 : Turn s (fun r => r = .rows) (adopted s .still w.heap.size wA.heap.size τ) (adopted s .rows wA.heap.size w2.heap.size (adopted s .still w.heap.size wA.heap.size τ)) wA w2 := Turn.grown hgrow PA.fresh .rows rfl hgA
  have P2 := (hcA.snoc hIA (p := p)).keep (fun j hj hz => T2.keep j hj (fun r e => by rw [show adopted s .still w.heap.size wA.heap.size τ j = some (s, .still) from hz] at e; cases e; intro h; cases h)) (fun j hj hz => (T2.own j hj).trans hz)
  have htag := tag_grown hown (fun g e => ⟨hgA g e, Nat.lt_of_lt_of_le (ho.lt g e).2 hbA.size⟩) hblk
  have hlen : (rows ++ [(p, xs)]).length = rows.length + 1 := by simp
  have hhead : w2.heap[rb]? = some (.cells #[.slice aA ar.length cA, vL, vB, .int .i64 (clock : Int)] 104 (0, 0)) := (T2.keep rb (Array.getElem?_eq_some_iff.1 PA.head).1 (fun r e => by rw [PA.mine] at e; cases e; intro h; cases h)).trans PA.head
  have ar2 := still_turn T2 (fun h => by cases h) PA.ar
  have b2 : w2.ownsRow 0 3 1 vB born.length (born.map (Value.int .i64)) := owns_block PA.born.1 (fun g e => T2.keep g (PA.born.1.lt g e).2 (fun r er => by rw [PA.born.2 g e] at er; cases er; intro h; cases h))
  have bt2 : ∀ g, vB.ownBlock = some g → adopted s .rows wA.heap.size w2.heap.size (adopted s .still w.heap.size wA.heap.size τ) g = some (s, .num) := fun g e => (T2.own g (PA.born.1.lt g e).2).trans (PA.born.2 g e)
  have mine2 := (T2.own rb (Array.getElem?_eq_some_iff.1 PA.head).1).trans PA.mine
  have T3 : Turn s (fun r => r = .head) (adopted s .rows wA.heap.size w2.heap.size (adopted s .still w.heap.size wA.heap.size τ)) (adopted s .rows wA.heap.size w2.heap.size (adopted s .still w.heap.size wA.heap.size τ)) w2 (w2.setCell ⟨rb, 1, none⟩ v') := Turn.setCell (R := fun r => r = .head) T2.fresh (a := ⟨rb, 1, none⟩) mine2 rfl _
  have hk : ∀ j r, r ≠ Role.head → adopted s .rows wA.heap.size w2.heap.size (adopted s .still w.heap.size wA.heap.size τ) j = some (s, r) → (w2.setCell ⟨rb, 1, none⟩ v').heap[j]? = w2.heap[j]? := fun j r hr e => Below.heap_setCell _ _ _ _ (fun e' => by
    have e' : j = rb := e'
    rw [e', mine2] at e; cases e; exact hr rfl)
  exact ⟨_, ⟨T3.fresh, mine2, by rw [heap_setCell hhead]; rfl, ar2.keep (fun j _ hz => hk j _ (fun h => by cases h) hz) (fun _ _ h => h),
    ⟨_, by rw [hlen]; exact owns_block hown (fun g e => hk g _ (fun h => by cases h) (htag g e)), htag, P2.keep (fun j _ hz => hk j _ (fun h => by cases h) hz) (fun _ _ h => h)⟩,
    ⟨owns_block b2 (fun g e => hk g _ (fun h => by cases h) (bt2 g e)), bt2⟩⟩,
    (TA.mono (fun r h => h.elim)).trans ((T2.mono (fun r h => .inl h)).trans (T3.mono (fun r h => .inr h)))⟩
/-- one time more -/
theorem RefP.putBorn (P : RefP s rb ar rows born clock τ w aA cA vL vB) {wA w2 : World} {x : Int} {v' : Value} (hbA : Below w.heap.size w wA)
    (hown : w2.ownsRow 0 3 1 v' (born.length + 1) (born.map (Value.int .i64) ++ [.int .i64 x])) (hgrow : wA.grownBy w2 vB.ownBlock) (hblk : v'.ownBlock = vB.ownBlock ∨ v'.ownBlock = some wA.heap.size) :
    ∃ τ', RefP s rb ar rows (born ++ [x]) clock τ' (w2.setCell ⟨rb, 2, none⟩ v') aA cA vL v' ∧ Turn s (fun r => r = .num ∨ r = .head) τ τ' w (w2.setCell ⟨rb, 2, none⟩ v') := by
  have TA : Turn s (fun _ => False) τ τ w wA := Turn.of_below hbA P.fresh
  have PA := P.turn TA (fun h => h) (fun h => h) (fun h => h) (fun h => h)
  have T2 : Turn s (fun r => r = .num) τ (adopted s .num wA.heap.size w2.heap.size τ) wA w2 := Turn.grown hgrow PA.fresh .num rfl P.born.2
  have htag := tag_grown hown (fun g e => ⟨P.born.2 g e, Nat.lt_of_lt_of_le (P.born.1.lt g e).2 hbA.size⟩) hblk
  have hlen : (born ++ [x]).length = born.length + 1 := by simp
  have hhead : w2.heap[rb]? = some (.cells #[.slice aA ar.length cA, vL, vB, .int .i64 (clock : Int)] 104 (0, 0)) := (T2.keep rb (Array.getElem?_eq_some_iff.1 PA.head).1 (fun r e => by rw [PA.mine] at e; cases e; intro h; cases h)).trans PA.head
  have ar2 := still_turn T2 (fun h => by cases h) PA.ar
  obtain ⟨cs, ho, hgL, hc⟩ := PA.list
  have l2 : w2.ownsRow 0 28 2 vL rows.length cs := owns_block ho (fun g e => T2.keep g (ho.lt g e).2 (fun r er => by rw [hgL g e] at er; cases er; intro h; cases h))
  have lt2 : ∀ g, vL.ownBlock = some g → adopted s .num wA.heap.size w2.heap.size τ g = some (s, .rows) := fun g e => (T2.own g (ho.lt g e).2).trans (hgL g e)
  have hc2 := hc.keep (Z' := Still s (adopted s .num wA.heap.size w2.heap.size τ)) (fun j hj hz => T2.keep j hj (fun r e => by rw [show τ j = some (s, .still) from hz] at e; cases e; intro h; cases h)) (fun j hj hz => (T2.own j hj).trans hz)
  have mine2 := (T2.own rb (Array.getElem?_eq_some_iff.1 PA.head).1).trans PA.mine
  have T3 : Turn s (fun r => r = .head) (adopted s .num wA.heap.size w2.heap.size τ) (adopted s .num wA.heap.size w2.heap.size τ) w2 (w2.setCell ⟨rb, 2, none⟩ v') := Turn.setCell (R := fun r => r = .head) T2.fresh (a := ⟨rb, 2, none⟩) mine2 rfl _
  have hk : ∀ j r, r ≠ Role.head → adopted s .num wA.heap.size w2.heap.size τ j = some (s, r) → (w2.setCell ⟨rb, 2, none⟩ v').heap[j]? = w2.heap[j]? := fun j r hr e => Below.heap_setCell _ _ _ _ (fun e' => by
    have e' : j = rb := e'
    rw [e', mine2] at e; cases e; exact hr rfl)
  exact ⟨_, ⟨T3.fresh, mine2, by rw [heap_setCell hhead]; rfl, ar2.keep (fun j _ hz => hk j _ (fun h => by cases h) hz) (fun _ _ h => h),
    ⟨cs, owns_block l2 (fun g e => hk g _ (fun h => by cases h) (lt2 g e)), lt2, hc2.keep (fun j _ hz => hk j _ (fun h => by cases h) hz) (fun _ _ h => h)⟩,
    ⟨by rw [hlen, List.map_append]; exact owns_block hown (fun g e => hk g _ (fun h => by cases h) (htag g e)), htag⟩⟩,
    (TA.mono (fun r h => h.elim)).trans ((T2.mono (fun r h => .inl h)).trans (T3.mono (fun r h => .inr h)))⟩
end

theorem RefP.whole {s rb : Nat} {ρ : Rf} {τ τ2 : Own} {w w2 : World} {aA aA2 : Option Addr} {cA cA2 : Nat} {vL vB vL2 vB2 : Value} {p : Int} {xs : List Int} (P : RefP s rb ρ.ar (ρ.rows ++ [(p, xs)]) (ρ.born ++ [((ρ.clock + 1 : Nat) : Int)]) (ρ.clock + 1) τ2 w2 aA2 cA2 vL2 vB2) (hs : RefAt s rb ρ τ w aA cA vL vB) (hf : FitsRow ρ.ar (p, xs)) (hl : ρ.rows.length < 100000000000) : IsRef s rb (ρ.push (p, xs)) τ2 w2 := by
  refine ⟨aA2, cA2, vL2, vB2, ⟨P.fresh, P.mine, P.head, P.ar, P.list, P.born, by simp [Rf.push, hs.len], fun r hr => ?_, hs.arity, hs.preds, by simp only [Rf.push, List.length_append, List.length_cons, List.length_nil]; omega⟩⟩
  have hr : r ∈ ρ.rows ++ [(p, xs)] := hr
  rcases List.mem_append.1 hr with hr | hr
  · exact hs.fits r hr
  · rw [List.mem_singleton] at hr
    subst hr
    exact hf

section
variable {s rb : Nat} {ρ : Rf} {τ : Own} {w : World} {aA : Option Addr} {cA : Nat} {vL vB : Value}

set_option maxHeartbeats 4000000 in
set_option maxRecDepth 8000 in
theorem radd_bad {Z : Nat → Prop} (hs : RefAt s rb ρ τ w aA cA vL vB) (a : Option Addr) (c : Nat) (l : List Row) (hl : RowsZ Z w a c l) (hr : ∀ r ∈ l, RowOk r) (hll : l.length ≤ 100000000000) (hn : ¬ ∀ r ∈ l, FitsRow ρ.ar r) :
    Calls Try.prog 70 #[.pointer (some ⟨rb, 0, none⟩), .slice a l.length c] w fun e w' => e = .returned (.tuple #[.int .i64 0, .int .i64 2]) ∧ Below w.heap.size w w' := by
  have HS := Lib.hid hs
  have HL := Lib.hid hl
  have HR := Lib.hid hr
  have HN := Lib.hid hn
  clear hs hl hr hn
  go_enter Try.func70, Try.ntmps70
  go_wp2
  go_loopw [6] (fun i wr => ∃ k : Nat, k ≤ l.length ∧ i = .int .i64 k ∧ Hid (∀ r ∈ l.take k, FitsRow ρ.ar r) ∧ Below w.heap.size w wr) (fun i _ => l.length - (intOf i).toNat)
  case atStart => exact ⟨0, Nat.zero_le _, rfl, Lib.hid (by simp), Below.refl _ _⟩
  case round =>
    obtain ⟨k, hk, rfl, HT, hbel⟩ := hrel
    by_cases hlt : k < l.length
    · rcases HL.out.1 with hn | ⟨b, o, rfl, _, hc⟩
      · rw [hn] at hlt; simp at hlt
      · obtain ⟨p, ai, ci, xs, c0, c1, HI, HX⟩ := rows_at hc hlt
        have e0 := (hbel.cell (World.block_lt_of_cell? _ _ c0)).trans c0
        have e1 := (hbel.cell (World.block_lt_of_cell? _ _ c1)).trans c1
        clear hc c0 c1
        obtain ⟨q1, q2, q3⟩ := HR.out _ (List.mem_of_getElem? HX.out)
        by_cases hfit : FitsRow ρ.ar (p, xs)
        · have cF := Lib.hid (rmay_yes (HS.out.below hbel) p ai ci xs (HI.out.below hbel (Nat.le_refl _)) hfit)
          have HFit := Lib.hid hfit
          clear hfit q3
          go_wp2_with (go_at_call 74; refine cF.out.mono ?_; rintro e w2 ⟨rfl, hb3⟩)
          go_roundw
          case rel => exact ⟨k + 1, by omega, by go_num, Lib.hid (by
            intro z hz
            rw [take_snoc' HX.out, List.mem_append, List.mem_singleton] at hz
            rcases hz with hz | rfl
            · exact HT.out z hz
            · exact HFit.out), hbel.trans (hb3.mono hbel.size)⟩
          case measure => simp [intOf]; omega
        · have cF := Lib.hid (rmay_no (HS.out.below hbel) p ai ci xs (HI.out.below hbel (Nat.le_refl _)) q1 q3 q2 hfit)
          clear hfit q3
          go_wp2_with (go_at_call 74; refine cF.out.mono ?_; rintro e w2 ⟨rfl, hb3⟩)
          go_ret2
          exact ⟨rfl, hbel.trans (hb3.mono hbel.size)⟩
    · exfalso
      have h0 := HT.out
      rw [List.take_of_length_le (by omega)] at h0
      exact HN.out h0

/-- what one row more leaves -/
def RMore (s rb : Nat) (ρ : Rf) (r : Row) (τ : Own) (W0 w' : World) : Prop := ∃ τ', IsRef s rb (ρ.push r) τ' w' ∧ Turn s (fun _ => True) τ τ' W0 w'

set_option linter.unusedSimpArgs false in
set_option maxHeartbeats 8000000 in
set_option maxRecDepth 8000 in
theorem radd_any (hs : IsRef s rb ρ τ w) (a : Option Addr) (c : Nat) (l : List Row) (hl : RowsZ (fun j => ∀ r, τ j ≠ some (s, r)) w a c l) (hf : ∀ r ∈ l, FitsRow ρ.ar r) (hB : ρ.rows.length + l.length ≤ 100000000000) (hC : ρ.clock + l.length ≤ 100000000000) :
    Calls Try.prog 70 #[.pointer (some ⟨rb, 0, none⟩), .slice a l.length c] w fun e w' => e = .returned (.tuple #[.int .i64 ((ρ.addAll l).rows.length - ρ.rows.length : Int), .int .i64 0]) ∧ ∃ τ', IsRef s rb (ρ.addAll l) τ' w' ∧ Turn s (fun _ => True) τ τ' w w' := by
  have HS := Lib.hid hs
  have HL := Lib.hid hl
  have HF := Lib.hid hf
  have hfr : Fresh τ w := by obtain ⟨_, _, _, _, hs⟩ := hs; exact hs.fresh
  have HFr := Lib.hid hfr
  clear hs hl hf hfr
  go_enter Try.func70, Try.ntmps70
  go_wp2
  go_loopw [6] (fun i wr => ∃ k : Nat, k ≤ l.length ∧ i = .int .i64 k ∧ Below w.heap.size w wr) (fun i _ => l.length - (intOf i).toNat)
  case atStart => exact ⟨0, Nat.zero_le _, rfl, Below.refl _ _⟩
  case round =>
    obtain ⟨k, hk, rfl, hbel⟩ := hrel
    by_cases hlt : k < l.length
    · rcases HL.out.1 with hn | ⟨b, o, rfl, _, hc⟩
      · rw [hn] at hlt; simp at hlt
      · obtain ⟨p, ai, ci, xs, c0, c1, HI, HX⟩ := rows_at hc hlt
        have e0 := (hbel.cell (World.block_lt_of_cell? _ _ c0)).trans c0
        have e1 := (hbel.cell (World.block_lt_of_cell? _ _ c1)).trans c1
        clear hc c0 c1
        obtain ⟨aA, cA, vL, vB, hs⟩ := HS.out
        have cF := Lib.hid (rmay_yes (hs.below hbel) p ai ci xs (HI.out.below hbel (Nat.le_refl _)) (HF.out _ (List.mem_of_getElem? HX.out)))
        clear hs
        go_wp2_with (go_at_call 74; refine cF.out.mono ?_; rintro e w2 ⟨rfl, hb3⟩)
        go_roundw
        case rel => exact ⟨k + 1, by omega, by go_num, hbel.trans (hb3.mono hbel.size)⟩
        case measure => simp [intOf]; omega
    · obtain ⟨w1, hw1⟩ : ∃ w1, w1 = wr := ⟨_, rfl⟩
      subst hw1
      have T0 : Turn s (fun _ => True) τ τ w w1 := Turn.of_below hbel HFr.out
      have HS1 := Lib.hid (HS.out.below hbel)
      have HL1 := Lib.hid (HL.out.below hbel (Nat.le_refl _))
      go_wp2
      go_loopw [7, 8] (fun v i wr => ∃ (k : Nat) (τr : Own), k ≤ l.length ∧ i = .int .i64 k ∧ v = .int .i64 ((ρ.addAll (l.take k)).rows.length - ρ.rows.length : Int) ∧ Hid (IsRef s rb (ρ.addAll (l.take k)) τr wr) ∧ Turn s (fun _ => True) τ τr w1 wr) (fun _ i _ => l.length - (intOf i).toNat)
      case atStart => exact ⟨0, τ, Nat.zero_le _, rfl, by simp [Rf.addAll], HS1, Turn.refl (T0.fresh)⟩
      case round =>
        obtain ⟨k, τr, hk, rfl, rfl, HSr, Tr⟩ := hrel
        by_cases hlt : k < l.length
        · rcases HL1.out.1 with hn | ⟨b, o, rfl, hbz, hc⟩
          · rw [hn] at hlt; simp at hlt
          · obtain ⟨p, ai, ci, xs, c0, c1, HI, HX⟩ := rows_at hc hlt
            have e0 := Tr.cell c0 (fun r e => absurd e (hbz r))
            have e1 := Tr.cell c1 (fun r e => absurd e (hbz r))
            have htb := (Tr.own b (World.block_lt_of_cell? _ _ c0))
            have HIr := Lib.hid (apart_turn Tr HI.out)
            clear hc c0 c1
            have hfr := HF.out _ (List.mem_of_getElem? HX.out)
            have hsnoc : ρ.addAll (l.take (k + 1)) = if (p, xs) ∈ (ρ.addAll (l.take k)).rows then ρ.addAll (l.take k) else (ρ.addAll (l.take k)).push (p, xs) := by
              rw [take_snoc' HX.out]; exact raddAll_snoc _ _ _
            have hclock := (raddAll_clock ρ (l.take k)).1
            have hlens := raddAll_length ρ (l.take k)
            have hlk : (l.take k).length = k := by simp; omega
            have har := raddAll_ar ρ (l.take k)
            obtain ⟨ρr, hρ⟩ : ∃ ρr, ρ.addAll (l.take k) = ρr := ⟨_, rfl⟩
            rw [hρ] at hsnoc hclock har hlens HSr ⊢
            have HN := Lib.hid hsnoc
            clear hsnoc hρ
            rw [← har] at hfr
            have hxr : xs.length ≤ 8 := hfr.2.2.2.1
            obtain ⟨aA, cA, vL, vB, hs⟩ := HSr.out
            have cH := Lib.hid (rhas_any hs p ai ci xs HIr.out.ints)
            rw [has_dec] at cH
            have hfresh := hs.fresh
            by_cases hin : (p, xs) ∈ ρr.rows
            · have hd : decide ((p, xs) ∈ ρr.rows) = true := by simpa using hin
              rw [hd] at cH
              clear hs
              go_wp2_with (go_at_call 52; refine cH.out.mono ?_; rintro e w2 ⟨rfl, hb2⟩)
              go_roundw
              case rel => exact ⟨k + 1, τr, by omega, by go_num, by rw [HN.out, if_pos hin], Lib.hid (by rw [HN.out, if_pos hin]; exact HSr.out.below hb2), Tr.trans (Turn.of_below hb2 hfresh)⟩
              case measure => simp [intOf]; omega
            · have hd : decide ((p, xs) ∈ ρr.rows) = false := by simpa using hin
              rw [hd] at cH
              have hsr := hs
              have HSR := Lib.hid hsr
              have c3 := hs.cells.2.2.2.1
              have fz := hs.cells.2.2.2.2
              have hrb := (Array.getElem?_eq_some_iff.1 hs.head).1
              have hnb : ¬ b = rb := fun e => hbz .head (by rw [← htb, e]; exact hs.mine)
              clear hs hsr hd
              go_upto_region 12 with (first | (go_at_call 52; refine cH.out.mono ?_; rintro e w2 ⟨rfl, hb2⟩
                                               have c32 := on_cell hb2 c3
                                               have f32 := (hb2.frozen (p := ⟨rb, 3, none⟩) hrb).trans (fz 3)))
              obtain ⟨W1, hW1⟩ : ∃ W, W = w2.setCell ⟨rb, 3, none⟩ (.int .i64 ((ρr.clock + 1 : Nat) : Int)) := ⟨_, rfl⟩
              have hTick : Hid (RefP s rb ρr.ar ρr.rows ρr.born (ρr.clock + 1) τr W1 aA cA vL vB) := Lib.hid (by rw [hW1]; exact (HSR.out.below hb2).parts.tick _)
              have hTT : Turn s (fun _ => True) τr τr wr W1 := by rw [hW1]; exact (Turn.of_below hb2 hfresh).trans (((HSR.out.below hb2).parts.put _ _).mono fun _ _ => trivial)
              have g0 : W1.cell? ⟨b, o + k * 2, none⟩ = some (.int .i64 p) := hTT.cell e0 (fun r e => absurd (htb.symm.trans e) (hbz r))
              have g1 : W1.cell? ⟨b, o + k * 2 + 1, none⟩ = some (.slice ai xs.length ci) := hTT.cell e1 (fun r e => absurd (htb.symm.trans e) (hbz r))
              have HI1 := Lib.hid (apart_turn hTT HIr.out)
              have gl := hTick.out.cells.2.1
              have hc1 : ((ρr.clock : Int) + 1) = ((ρr.clock + 1 : Nat) : Int) := by omega
              have HW1 := Lib.hid hW1
              obtain ⟨csL, hoL, hgL, hcL⟩ := hTick.out.list
              have HoL := Lib.hid hoL
              have HgL := Lib.hid hgL
              have HcL := Lib.hid hcL
              have HvL := Lib.hid (owns_shape hoL)
              have hnL : ∀ g, vL.ownBlock = some g → g ≠ rb ∧ g ≠ b := fun g e => ⟨fun e' => (by have := hgL g e; rw [e', hTick.out.mine] at this; cases this), fun e' => (by have := hgL g e; rw [e'] at this; exact hbz _ (htb.symm.trans this))⟩
              have HnL := Lib.hid hnL
              have fzT := hTick.out.cells.2.2.2.2 1
              have cR := Lib.hid (fun (W : World) (hW : Below W1.heap.size W1 W) => rrow_own p ai ci xs W (HI1.out.below hW (Nat.le_refl _)) (by omega))
              have hrlen : ρr.rows.length < 100000000000 := by omega
              clear hoL hgL hcL hnL hW1
              rw [hc1, ← HW1.out]
              clear hc1
              obtain ⟨cn, hcn⟩ : ∃ cn : Nat, cn = ρr.clock + 1 := ⟨_, rfl⟩
              rw [← hcn] at hTick
              have Hcn := Lib.hid hcn
              clear hcn HW1
              obtain ⟨V1, hV1⟩ : ∃ V, V = W1.drew := ⟨_, rfl⟩
              have hB1 : Below W1.heap.size W1 V1 := by rw [hV1]; exact (Below.refl _ _).drew
              refine wp_region_noPanic ?_
              refine wp_region_held_drew (S := (fun w' => w'.cell? ⟨b, o + k * 2, none⟩ = some (.int .i64 p) ∧ w'.cell? ⟨b, o + k * 2 + 1, none⟩ = some (.slice ai xs.length ci))) (by kernel_rfl) ?_ (fun hHeld => ?_)
              · rw [← hV1]; exact ⟨on_cell hB1 g0, on_cell hB1 g1⟩
              rw [← hV1] at hHeld ⊢
              clear hV1
              refine wpAnyH_take (i := 0) (oi := ⟨some 42, _, _, _, _, _⟩) (v := ?_) rfl (by kernel_rfl) (by kernel_rfl) (by kernel_rfl) (fun _ _ _ h => h) (Or.inl ⟨by rfl, ?_⟩) (by assumption) ?_
              rotate_left 1
              · intro w hSw
                (try dsimp only at hSw)
                go_simp
                all_goals with_reducible rfl
              (try simp only [Act.put, List.setIfInBounds_toArray, List.set_cons_zero, List.set_cons_succ])
              refine wpAnyH_take (i := 1) (oi := ⟨some 43, _, _, _, _, _⟩) (v := ?_) rfl (by kernel_rfl) (by kernel_rfl) (by kernel_rfl) (fun _ _ _ h => h) (Or.inl ⟨by rfl, ?_⟩) (by assumption) ?_
              rotate_left 1
              · intro w hSw
                (try dsimp only at hSw)
                go_simp
                all_goals with_reducible rfl
              (try simp only [Act.put, List.setIfInBounds_toArray, List.set_cons_zero, List.set_cons_succ])
              refine wpAnyH_take (i := 2) (oi := ⟨some 44, _, _, _, _, _⟩) (v := ?_) rfl (by kernel_rfl) (by kernel_rfl) (by kernel_rfl) (fun _ _ _ h => h) (Or.inl ⟨by rfl, ?_⟩) (by assumption) ?_
              rotate_left 1
              · intro w hSw
                (try dsimp only at hSw)
                go_simp
                all_goals with_reducible rfl
              (try simp only [Act.put, List.setIfInBounds_toArray, List.set_cons_zero, List.set_cons_succ])
              refine wpAnyH_take (i := 3) (oi := ⟨some 45, _, _, _, _, _⟩) (v := ?_) rfl (by kernel_rfl) (by kernel_rfl) (by kernel_rfl) (fun _ _ _ h => h) (Or.inl ⟨by rfl, ?_⟩) (by assumption) ?_
              rotate_left 1
              · intro w hSw
                (try dsimp only at hSw)
                go_simp
                all_goals with_reducible rfl
              (try simp only [Act.put, List.setIfInBounds_toArray, List.set_cons_zero, List.set_cons_succ])
              refine wpAnyH_take (i := 5) (oi := ⟨some 47, _, _, _, _, _⟩) (v := ?_) rfl (by kernel_rfl) (by kernel_rfl) (by kernel_rfl) (fun _ _ _ h => h) (Or.inl ⟨by rfl, ?_⟩) (by assumption) ?_
              rotate_left 1
              · intro w hSw
                (try dsimp only at hSw)
                go_simp
                all_goals with_reducible rfl
              (try simp only [Act.put, List.setIfInBounds_toArray, List.set_cons_zero, List.set_cons_succ])
              refine wpAnyH_take (i := 6) (oi := ⟨some 48, _, _, _, _, _⟩) (v := ?_) rfl (by kernel_rfl) (by kernel_rfl) (by kernel_rfl) (fun _ _ _ h => h) (Or.inl ⟨by rfl, ?_⟩) (by assumption) ?_
              rotate_left 1
              · intro w hSw
                (try dsimp only at hSw)
                go_simp
                all_goals with_reducible rfl
              (try simp only [Act.put, List.setIfInBounds_toArray, List.set_cons_zero, List.set_cons_succ])
              refine wpAnyH_take (i := 7) (oi := ⟨some 49, _, _, _, _, _⟩) (v := ?_) rfl (by kernel_rfl) (by kernel_rfl) (by kernel_rfl) (fun _ _ _ h => h) (Or.inl ⟨by rfl, ?_⟩) (by assumption) ?_
              rotate_left 1
              · intro w hSw
                (try dsimp only at hSw)
                go_simp
                all_goals with_reducible rfl
              (try simp only [Act.put, List.setIfInBounds_toArray, List.set_cons_zero, List.set_cons_succ])
              refine wpAnyH_take (i := 8) (oi := ⟨some 50, _, _, _, _, _⟩) (v := ?_) rfl (by kernel_rfl) (by kernel_rfl) (by kernel_rfl) (fun _ _ _ h => h) (Or.inl ⟨by rfl, ?_⟩) (by assumption) ?_
              rotate_left 1
              · intro w hSw
                (try dsimp only at hSw)
                go_simp
                all_goals with_reducible rfl
              (try simp only [Act.put, List.setIfInBounds_toArray, List.set_cons_zero, List.set_cons_succ])
              refine wpAnyH_ready (rs := [4, 9]) (by kernel_rfl) (by simp) ?_
              refine AllReadyH.cons (o := _) rfl (fun K hK => ?_) ?_
              · have dL := on_cell hB1 gl
                go_simp
                refine hK.out _ _ ?_ (fun hHeld => ?_)
                · exact ⟨on_cell hB1 g0, on_cell hB1 g1⟩
                clear hK K
                (try simp only [Act.put, List.setIfInBounds_toArray, List.set_cons_zero, List.set_cons_succ])
                refine wpAnyH_ready (rs := [9]) (by kernel_rfl) (by simp) ?_
                refine AllReadyH.cons (o := _) rfl (fun K hK => ?_) ?_
                · have cK := cR.out _ hB1
                  go_simp
                  with_reducible refine cK.mono ?_
                  rintro e V3 ⟨a2, c2, rfl, hI3, hb3⟩
                  have hB3 : Below W1.heap.size W1 V3 := hB1.trans (hb3.mono hB1.size)
                  have HI3 := Lib.hid (owns_low hI3 hB1.size)
                  clear hI3 hb3
                  refine hK.out _ _ ?_ (fun hHeld => ?_)
                  · exact ⟨on_cell hB3 g0, on_cell hB3 g1⟩
                  clear hK K
                  (try simp only [Act.put, List.setIfInBounds_toArray, List.set_cons_zero, List.set_cons_succ])
                  refine wpAnyH_ready (rs := [10]) (by kernel_rfl) (by simp) ?_
                  refine AllReadyH.cons (o := _) rfl (fun K hK => ?_) ?_
                  · go_simp
                    obtain ⟨V4, hV4⟩ : ∃ W, W = V3.alloc (.cells #[.int .i64 p, .slice a2 xs.length c2] 28) := ⟨_, rfl⟩
                    obtain ⟨q4, hq4⟩ : ∃ b, b = V3.heap.size := ⟨_, rfl⟩
                    rw [← hV4, ← hq4]
                    have hb4 : Below V3.heap.size V3 V4 := by rw [hV4]; exact (Below.refl _ _).alloc (Nat.le_refl _) _
                    have src4 : Source V4 (some ⟨q4, 0, none⟩) 1 1 [.int .i64 p, .slice a2 xs.length c2] := by rw [hV4, hq4]; exact source_new V3 [.int .i64 p, .slice a2 xs.length c2] 28
                    have hB4 : Below W1.heap.size W1 V4 := hB3.trans (hb4.mono hB3.size)
                    have HI4 := Lib.hid (owns_below HI3.out hb4 (Nat.le_refl _))
                    clear hb4 hV4 hq4
                    refine hK.out _ _ ?_ (fun hHeld => ?_)
                    · exact ⟨on_cell hB4 g0, on_cell hB4 g1⟩
                    clear hK K
                    (try simp only [Act.put, List.setIfInBounds_toArray, List.set_cons_zero, List.set_cons_succ])
                    refine wpAnyH_ready (rs := [11]) (by kernel_rfl) (by simp) ?_
                    refine AllReadyH.cons (o := _) rfl (fun K hK => ?_) ?_
                    · have ho5 := owns_below HoL.out hB4 (Nat.le_refl _)
                      refine step_append_any elemRow _ rfl _ _ rfl 0 _ ρr.rows.length csL rfl ho5 (some ⟨q4, 0, none⟩) 1 1 [.int .i64 p, .slice a2 xs.length c2] rfl src4 rfl (by simp [Value.oneCell']) (by unfold maxLen; omega) (by omega) (Nat.zero_le _) ?_
                      intro v5 V5 hown5 hgrow5 hblk5
                      have hP5 := Lib.hid (hTick.out.putList HoL.out HgL.out HcL.out hB4 HI4.out hown5 hgrow5 hblk5)
                      have d5 := hgrow5.cell (on_cell hB4 gl) (fun e => (HnL.out _ e.symm).1 rfl)
                      have z5 : V5.frozen? ⟨rb, 1, none⟩ = false := (World.frozen?_of_block (w := V4) (hgrow5.block rb (World.block_lt_of_cell? _ _ (on_cell hB4 gl)) (fun e => (HnL.out _ e.symm).1 rfl))).trans ((hB4.frozen (p := ⟨rb, 1, none⟩) (World.block_lt_of_cell? _ _ gl)).trans fzT)
                      have j05 := hgrow5.cell (on_cell hB4 g0) (fun e => (HnL.out _ e.symm).2 rfl)
                      have j15 := hgrow5.cell (on_cell hB4 g1) (fun e => (HnL.out _ e.symm).2 rfl)
                      obtain ⟨x5, y5, rfl⟩ := owns_slice hown5
                      clear hown5 hgrow5 hblk5 ho5
                      refine hK.out _ _ ?_ (fun hHeld => ?_)
                      · exact ⟨j05, j15⟩
                      clear hK K
                      (try simp only [Act.put, List.setIfInBounds_toArray, List.set_cons_zero, List.set_cons_succ])
                      refine wpAnyH_take (i := 12) (oi := ⟨some 54, _, _, _, _, _⟩) (v := ?_) rfl (by kernel_rfl) (by kernel_rfl) (by kernel_rfl) (fun _ _ _ h => h) (Or.inl ⟨by rfl, ?_⟩) (by assumption) ?_
                      rotate_left 1
                      · intro w hSw
                        (try dsimp only at hSw)
                        go_simp
                        all_goals with_reducible rfl
                      (try simp only [Act.put, List.setIfInBounds_toArray, List.set_cons_zero, List.set_cons_succ])
                      refine wpAnyH_take (i := 13) (oi := ⟨some 55, _, _, _, _, _⟩) (v := ?_) rfl (by kernel_rfl) (by kernel_rfl) (by kernel_rfl) (fun _ _ _ h => h) (Or.inl ⟨by rfl, ?_⟩) (by assumption) ?_
                      rotate_left 1
                      · intro w hSw
                        (try dsimp only at hSw)
                        go_simp
                        all_goals with_reducible rfl
                      (try simp only [Act.put, List.setIfInBounds_toArray, List.set_cons_zero, List.set_cons_succ])
                      refine wpAnyH_ready (rs := [14]) (by kernel_rfl) (by simp) ?_
                      refine AllReadyH.cons (o := _) rfl (fun K hK => ?_) ?_
                      · go_simp
                        refine hK.out _ _ ?_ (fun hHeld => ?_)
                        · exact ⟨(World.cell?_setCell_far _ _ _ _ (Ne.symm hnb)).trans j05, (World.cell?_setCell_far _ _ _ _ (Ne.symm hnb)).trans j15⟩
                        clear hK K
                        (try simp only [Act.put, List.setIfInBounds_toArray, List.set_cons_zero, List.set_cons_succ])
                        refine wpAnyH_done (by kernel_rfl) ?_ _
                        refine NoPanic.normal ?_
                        obtain ⟨τ7, P7, T7⟩ := hP5.out
                        have HP7 := Lib.hid P7
                        clear P7 hHeld
                        go_upto_region 13 with fail
                        obtain ⟨V7, hV7⟩ : ∃ W, W = V5.setCell ⟨rb, 1, none⟩ (.slice (some ⟨x5, 0, none⟩) (ρr.rows.length + 1) y5) := ⟨_, rfl⟩
                        rw [← hV7] at HP7 T7 ⊢
                        clear hV7 hP5 d5 z5 j05 j15
                        obtain ⟨V8, hV8⟩ : ∃ V, V = V7.drew := ⟨_, rfl⟩
                        have hB8 : Below V7.heap.size V7 V8 := by rw [hV8]; exact (Below.refl _ _).drew
                        refine wp_region_noPanic ?_
                        refine wp_region_held_drew (S := (fun _ => True)) (by kernel_rfl) ?_ (fun hHeld => ?_)
                        · exact trivial
                        rw [← hV8]
                        clear hV8
                        refine wpAnyH_take (i := 0) (oi := ⟨some 56, _, _, _, _, _⟩) (v := ?_) rfl (by kernel_rfl) (by kernel_rfl) (by kernel_rfl) (fun _ _ _ h => h) (Or.inl ⟨by rfl, ?_⟩) (by assumption) ?_
                        rotate_left 1
                        · intro w hSw
                          (try dsimp only at hSw)
                          go_simp
                          all_goals with_reducible rfl
                        (try simp only [Act.put, List.setIfInBounds_toArray, List.set_cons_zero, List.set_cons_succ])
                        refine wpAnyH_take (i := 1) (oi := ⟨some 57, _, _, _, _, _⟩) (v := ?_) rfl (by kernel_rfl) (by kernel_rfl) (by kernel_rfl) (fun _ _ _ h => h) (Or.inl ⟨by rfl, ?_⟩) (by assumption) ?_
                        rotate_left 1
                        · intro w hSw
                          (try dsimp only at hSw)
                          go_simp
                          all_goals with_reducible rfl
                        (try simp only [Act.put, List.setIfInBounds_toArray, List.set_cons_zero, List.set_cons_succ])
                        refine wpAnyH_take (i := 2) (oi := ⟨some 58, _, _, _, _, _⟩) (v := ?_) rfl (by kernel_rfl) (by kernel_rfl) (by kernel_rfl) (fun _ _ _ h => h) (Or.inl ⟨by rfl, ?_⟩) (by assumption) ?_
                        rotate_left 1
                        · intro w hSw
                          (try dsimp only at hSw)
                          go_simp
                          all_goals with_reducible rfl
                        (try simp only [Act.put, List.setIfInBounds_toArray, List.set_cons_zero, List.set_cons_succ])
                        refine wpAnyH_take (i := 3) (oi := ⟨some 59, _, _, _, _, _⟩) (v := ?_) rfl (by kernel_rfl) (by kernel_rfl) (by kernel_rfl) (fun _ _ _ h => h) (Or.inl ⟨by rfl, ?_⟩) (by assumption) ?_
                        rotate_left 1
                        · intro w hSw
                          (try dsimp only at hSw)
                          go_simp
                          all_goals with_reducible rfl
                        (try simp only [Act.put, List.setIfInBounds_toArray, List.set_cons_zero, List.set_cons_succ])
                        refine wpAnyH_take (i := 5) (oi := ⟨some 61, _, _, _, _, _⟩) (v := ?_) rfl (by kernel_rfl) (by kernel_rfl) (by kernel_rfl) (fun _ _ _ h => h) (Or.inl ⟨by rfl, ?_⟩) (by assumption) ?_
                        rotate_left 1
                        · intro w hSw
                          (try dsimp only at hSw)
                          go_simp
                          all_goals with_reducible rfl
                        (try simp only [Act.put, List.setIfInBounds_toArray, List.set_cons_zero, List.set_cons_succ])
                        refine wpAnyH_take (i := 6) (oi := ⟨some 62, _, _, _, _, _⟩) (v := ?_) rfl (by kernel_rfl) (by kernel_rfl) (by kernel_rfl) (fun _ _ _ h => h) (Or.inl ⟨by rfl, ?_⟩) (by assumption) ?_
                        rotate_left 1
                        · intro w hSw
                          (try dsimp only at hSw)
                          go_simp
                          all_goals with_reducible rfl
                        (try simp only [Act.put, List.setIfInBounds_toArray, List.set_cons_zero, List.set_cons_succ])
                        refine wpAnyH_take (i := 7) (oi := ⟨some 63, _, _, _, _, _⟩) (v := ?_) rfl (by kernel_rfl) (by kernel_rfl) (by kernel_rfl) (fun _ _ _ h => h) (Or.inl ⟨by rfl, ?_⟩) (by assumption) ?_
                        rotate_left 1
                        · intro w hSw
                          (try dsimp only at hSw)
                          go_simp
                          all_goals with_reducible rfl
                        (try simp only [Act.put, List.setIfInBounds_toArray, List.set_cons_zero, List.set_cons_succ])
                        refine wpAnyH_ready (rs := [4, 8]) (by kernel_rfl) (by simp) ?_
                        refine AllReadyH.cons (o := _) rfl (fun K hK => ?_) ?_
                        · have dB := on_cell hB8 HP7.out.cells.2.2.1
                          have dC := on_cell hB8 HP7.out.cells.2.2.2.1
                          go_simp
                          refine hK.out _ _ ?_ (fun hHeld => ?_)
                          · exact trivial
                          clear hK K
                          (try simp only [Act.put, List.setIfInBounds_toArray, List.set_cons_zero, List.set_cons_succ])
                          refine wpAnyH_ready (rs := [8]) (by kernel_rfl) (by simp) ?_
                          refine AllReadyH.cons (o := _) rfl (fun K hK => ?_) ?_
                          · have dB := on_cell hB8 HP7.out.cells.2.2.1
                            have dC := on_cell hB8 HP7.out.cells.2.2.2.1
                            go_simp
                            refine hK.out _ _ ?_ (fun hHeld => ?_)
                            · exact trivial
                            clear hK K
                            (try simp only [Act.put, List.setIfInBounds_toArray, List.set_cons_zero, List.set_cons_succ])
                            refine wpAnyH_ready (rs := [9]) (by kernel_rfl) (by simp) ?_
                            refine AllReadyH.cons (o := _) rfl (fun K hK => ?_) ?_
                            · go_simp
                              obtain ⟨V11, hV11⟩ : ∃ W, W = V8.alloc (.cells #[.int .i64 (cn : Int)] 3) := ⟨_, rfl⟩
                              obtain ⟨q11, hq11⟩ : ∃ b, b = V8.heap.size := ⟨_, rfl⟩
                              rw [← hV11, ← hq11]
                              have hb11 : Below V8.heap.size V8 V11 := by rw [hV11]; exact (Below.refl _ _).alloc (Nat.le_refl _) _
                              have src11 : Source V11 (some ⟨q11, 0, none⟩) 1 1 [.int .i64 (cn : Int)] := by rw [hV11, hq11]; exact source_new V8 [.int .i64 (cn : Int)] 3
                              have hB11 : Below V7.heap.size V7 V11 := hB8.trans (hb11.mono hB8.size)
                              clear hb11 hV11 hq11
                              refine hK.out _ _ ?_ (fun hHeld => ?_)
                              · exact trivial
                              clear hK K
                              (try simp only [Act.put, List.setIfInBounds_toArray, List.set_cons_zero, List.set_cons_succ])
                              refine wpAnyH_ready (rs := [10]) (by kernel_rfl) (by simp) ?_
                              refine AllReadyH.cons (o := _) rfl (fun K hK => ?_) ?_
                              · have ho12 := owns_below HP7.out.born.1 hB11 (Nat.le_refl _)
                                have hbl12 : ρr.born.length = ρr.rows.length := HSR.out.len
                                refine step_append_any elemInt _ rfl _ _ rfl 0 _ ρr.born.length (ρr.born.map (Value.int .i64)) rfl ho12 (some ⟨q11, 0, none⟩) 1 1 [.int .i64 (cn : Int)] rfl src11 rfl (by simp [Value.oneCell']) (by unfold maxLen; omega) (by omega) (Nat.zero_le _) ?_
                                intro v12 V12 hown12 hgrow12 hblk12
                                have hP12 := Lib.hid (HP7.out.putBorn hB11 hown12 hgrow12 hblk12)
                                have hnB12 : vB.ownBlock ≠ some rb := fun e => by have := HP7.out.born.2 _ e; rw [HP7.out.mine] at this; cases this
                                have d12 := hgrow12.cell (on_cell hB11 HP7.out.cells.2.2.1) (fun e => hnB12 e.symm)
                                have z12 : V12.frozen? ⟨rb, 2, none⟩ = false := (World.frozen?_of_block (w := V11) (hgrow12.block rb (World.block_lt_of_cell? _ _ (on_cell hB11 HP7.out.cells.2.2.1)) (fun e => hnB12 e.symm))).trans ((hB11.frozen (p := ⟨rb, 2, none⟩) (World.block_lt_of_cell? _ _ HP7.out.cells.2.2.1)).trans (HP7.out.cells.2.2.2.2 2))
                                obtain ⟨x12, y12, rfl⟩ := owns_slice hown12
                                clear hown12 hgrow12 hblk12 ho12
                                refine hK.out _ _ ?_ (fun hHeld => ?_)
                                · exact trivial
                                clear hK K
                                (try simp only [Act.put, List.setIfInBounds_toArray, List.set_cons_zero, List.set_cons_succ])
                                refine wpAnyH_take (i := 11) (oi := ⟨some 67, _, _, _, _, _⟩) (v := ?_) rfl (by kernel_rfl) (by kernel_rfl) (by kernel_rfl) (fun _ _ _ h => h) (Or.inl ⟨by rfl, ?_⟩) (by assumption) ?_
                                rotate_left 1
                                · intro w hSw
                                  (try dsimp only at hSw)
                                  go_simp
                                  all_goals with_reducible rfl
                                (try simp only [Act.put, List.setIfInBounds_toArray, List.set_cons_zero, List.set_cons_succ])
                                refine wpAnyH_take (i := 12) (oi := ⟨some 68, _, _, _, _, _⟩) (v := ?_) rfl (by kernel_rfl) (by kernel_rfl) (by kernel_rfl) (fun _ _ _ h => h) (Or.inl ⟨by rfl, ?_⟩) (by assumption) ?_
                                rotate_left 1
                                · intro w hSw
                                  (try dsimp only at hSw)
                                  go_simp
                                  all_goals with_reducible rfl
                                (try simp only [Act.put, List.setIfInBounds_toArray, List.set_cons_zero, List.set_cons_succ])
                                refine wpAnyH_ready (rs := [13]) (by kernel_rfl) (by simp) ?_
                                refine AllReadyH.cons (o := _) rfl (fun K hK => ?_) ?_
                                · go_simp
                                  refine hK.out _ _ ?_ (fun hHeld => ?_)
                                  · exact trivial
                                  clear hK K
                                  (try simp only [Act.put, List.setIfInBounds_toArray, List.set_cons_zero, List.set_cons_succ])
                                  refine wpAnyH_done (by kernel_rfl) ?_ _
                                  refine NoPanic.normal ?_
                                  obtain ⟨τ14, P14, T14⟩ := hP12.out
                                  rw [Hcn.out] at P14
                                  have hfin := Lib.hid (P14.whole HSR.out hfr hrlen)
                                  clear P14 hHeld
                                  have hTall := (hTT.trans (T7.mono (R' := fun _ => True) (fun _ _ => trivial))).trans (T14.mono (R' := fun _ => True) (fun _ _ => trivial))
                                  rw [hbl12] at hfin hTall
                                  have hrows : (ρr.push (p, xs)).rows.length = ρr.rows.length + 1 := by simp [Rf.push]
                                  go_wp2_with fail
                                  go_roundw
                                  case rel => exact ⟨k + 1, τ14, by omega, by go_num, by rw [HN.out, if_neg hin, hrows]; congr 1; omega, Lib.hid (by rw [HN.out, if_neg hin]; exact hfin.out), Tr.trans hTall⟩
                                  case measure => simp [intOf]; omega
                                exact AllReadyH.nil
                              exact AllReadyH.nil
                            exact AllReadyH.nil
                          exact AllReadyH.nil
                        refine AllReadyH.cons (o := _) rfl (fun K hK => ?_) ?_
                        · have dB := on_cell hB8 HP7.out.cells.2.2.1
                          have dC := on_cell hB8 HP7.out.cells.2.2.2.1
                          go_simp
                          refine hK.out _ _ ?_ (fun hHeld => ?_)
                          · exact trivial
                          clear hK K
                          (try simp only [Act.put, List.setIfInBounds_toArray, List.set_cons_zero, List.set_cons_succ])
                          refine wpAnyH_ready (rs := [4, 9]) (by kernel_rfl) (by simp) ?_
                          refine AllReadyH.cons (o := _) rfl (fun K hK => ?_) ?_
                          · have dB := on_cell hB8 HP7.out.cells.2.2.1
                            have dC := on_cell hB8 HP7.out.cells.2.2.2.1
                            go_simp
                            refine hK.out _ _ ?_ (fun hHeld => ?_)
                            · exact trivial
                            clear hK K
                            (try simp only [Act.put, List.setIfInBounds_toArray, List.set_cons_zero, List.set_cons_succ])
                            refine wpAnyH_ready (rs := [9]) (by kernel_rfl) (by simp) ?_
                            refine AllReadyH.cons (o := _) rfl (fun K hK => ?_) ?_
                            · go_simp
                              obtain ⟨V17, hV17⟩ : ∃ W, W = V8.alloc (.cells #[.int .i64 (cn : Int)] 3) := ⟨_, rfl⟩
                              obtain ⟨q17, hq17⟩ : ∃ b, b = V8.heap.size := ⟨_, rfl⟩
                              rw [← hV17, ← hq17]
                              have hb17 : Below V8.heap.size V8 V17 := by rw [hV17]; exact (Below.refl _ _).alloc (Nat.le_refl _) _
                              have src17 : Source V17 (some ⟨q17, 0, none⟩) 1 1 [.int .i64 (cn : Int)] := by rw [hV17, hq17]; exact source_new V8 [.int .i64 (cn : Int)] 3
                              have hB17 : Below V7.heap.size V7 V17 := hB8.trans (hb17.mono hB8.size)
                              clear hb17 hV17 hq17
                              refine hK.out _ _ ?_ (fun hHeld => ?_)
                              · exact trivial
                              clear hK K
                              (try simp only [Act.put, List.setIfInBounds_toArray, List.set_cons_zero, List.set_cons_succ])
                              refine wpAnyH_ready (rs := [10]) (by kernel_rfl) (by simp) ?_
                              refine AllReadyH.cons (o := _) rfl (fun K hK => ?_) ?_
                              · have ho18 := owns_below HP7.out.born.1 hB17 (Nat.le_refl _)
                                have hbl18 : ρr.born.length = ρr.rows.length := HSR.out.len
                                refine step_append_any elemInt _ rfl _ _ rfl 0 _ ρr.born.length (ρr.born.map (Value.int .i64)) rfl ho18 (some ⟨q17, 0, none⟩) 1 1 [.int .i64 (cn : Int)] rfl src17 rfl (by simp [Value.oneCell']) (by unfold maxLen; omega) (by omega) (Nat.zero_le _) ?_
                                intro v18 V18 hown18 hgrow18 hblk18
                                have hP18 := Lib.hid (HP7.out.putBorn hB17 hown18 hgrow18 hblk18)
                                have hnB18 : vB.ownBlock ≠ some rb := fun e => by have := HP7.out.born.2 _ e; rw [HP7.out.mine] at this; cases this
                                have d18 := hgrow18.cell (on_cell hB17 HP7.out.cells.2.2.1) (fun e => hnB18 e.symm)
                                have z18 : V18.frozen? ⟨rb, 2, none⟩ = false := (World.frozen?_of_block (w := V17) (hgrow18.block rb (World.block_lt_of_cell? _ _ (on_cell hB17 HP7.out.cells.2.2.1)) (fun e => hnB18 e.symm))).trans ((hB17.frozen (p := ⟨rb, 2, none⟩) (World.block_lt_of_cell? _ _ HP7.out.cells.2.2.1)).trans (HP7.out.cells.2.2.2.2 2))
                                obtain ⟨x18, y18, rfl⟩ := owns_slice hown18
                                clear hown18 hgrow18 hblk18 ho18
                                refine hK.out _ _ ?_ (fun hHeld => ?_)
                                · exact trivial
                                clear hK K
                                (try simp only [Act.put, List.setIfInBounds_toArray, List.set_cons_zero, List.set_cons_succ])
                                refine wpAnyH_take (i := 11) (oi := ⟨some 67, _, _, _, _, _⟩) (v := ?_) rfl (by kernel_rfl) (by kernel_rfl) (by kernel_rfl) (fun _ _ _ h => h) (Or.inl ⟨by rfl, ?_⟩) (by assumption) ?_
                                rotate_left 1
                                · intro w hSw
                                  (try dsimp only at hSw)
                                  go_simp
                                  all_goals with_reducible rfl
                                (try simp only [Act.put, List.setIfInBounds_toArray, List.set_cons_zero, List.set_cons_succ])
                                refine wpAnyH_take (i := 12) (oi := ⟨some 68, _, _, _, _, _⟩) (v := ?_) rfl (by kernel_rfl) (by kernel_rfl) (by kernel_rfl) (fun _ _ _ h => h) (Or.inl ⟨by rfl, ?_⟩) (by assumption) ?_
                                rotate_left 1
                                · intro w hSw
                                  (try dsimp only at hSw)
                                  go_simp
                                  all_goals with_reducible rfl
                                (try simp only [Act.put, List.setIfInBounds_toArray, List.set_cons_zero, List.set_cons_succ])
                                refine wpAnyH_ready (rs := [13]) (by kernel_rfl) (by simp) ?_
                                refine AllReadyH.cons (o := _) rfl (fun K hK => ?_) ?_
                                · go_simp
                                  refine hK.out _ _ ?_ (fun hHeld => ?_)
                                  · exact trivial
                                  clear hK K
                                  (try simp only [Act.put, List.setIfInBounds_toArray, List.set_cons_zero, List.set_cons_succ])
                                  refine wpAnyH_done (by kernel_rfl) ?_ _
                                  refine NoPanic.normal ?_
                                  obtain ⟨τ20, P20, T20⟩ := hP18.out
                                  rw [Hcn.out] at P20
                                  have hfin := Lib.hid (P20.whole HSR.out hfr hrlen)
                                  clear P20 hHeld
                                  have hTall := (hTT.trans (T7.mono (R' := fun _ => True) (fun _ _ => trivial))).trans (T20.mono (R' := fun _ => True) (fun _ _ => trivial))
                                  rw [hbl18] at hfin hTall
                                  have hrows : (ρr.push (p, xs)).rows.length = ρr.rows.length + 1 := by simp [Rf.push]
                                  go_wp2_with fail
                                  go_roundw
                                  case rel => exact ⟨k + 1, τ20, by omega, by go_num, by rw [HN.out, if_neg hin, hrows]; congr 1; omega, Lib.hid (by rw [HN.out, if_neg hin]; exact hfin.out), Tr.trans hTall⟩
                                  case measure => simp [intOf]; omega
                                exact AllReadyH.nil
                              exact AllReadyH.nil
                            exact AllReadyH.nil
                          refine AllReadyH.cons (o := _) rfl (fun K hK => ?_) ?_
                          · go_simp
                            obtain ⟨V21, hV21⟩ : ∃ W, W = V8.alloc (.cells #[.int .i64 (cn : Int)] 3) := ⟨_, rfl⟩
                            obtain ⟨q21, hq21⟩ : ∃ b, b = V8.heap.size := ⟨_, rfl⟩
                            rw [← hV21, ← hq21]
                            have hb21 : Below V8.heap.size V8 V21 := by rw [hV21]; exact (Below.refl _ _).alloc (Nat.le_refl _) _
                            have src21 : Source V21 (some ⟨q21, 0, none⟩) 1 1 [.int .i64 (cn : Int)] := by rw [hV21, hq21]; exact source_new V8 [.int .i64 (cn : Int)] 3
                            have hB21 : Below V7.heap.size V7 V21 := hB8.trans (hb21.mono hB8.size)
                            clear hb21 hV21 hq21
                            refine hK.out _ _ ?_ (fun hHeld => ?_)
                            · exact trivial
                            clear hK K
                            (try simp only [Act.put, List.setIfInBounds_toArray, List.set_cons_zero, List.set_cons_succ])
                            refine wpAnyH_ready (rs := [4]) (by kernel_rfl) (by simp) ?_
                            refine AllReadyH.cons (o := _) rfl (fun K hK => ?_) ?_
                            · have dB := on_cell hB21 HP7.out.cells.2.2.1
                              have dC := on_cell hB21 HP7.out.cells.2.2.2.1
                              go_simp
                              refine hK.out _ _ ?_ (fun hHeld => ?_)
                              · exact trivial
                              clear hK K
                              (try simp only [Act.put, List.setIfInBounds_toArray, List.set_cons_zero, List.set_cons_succ])
                              refine wpAnyH_ready (rs := [10]) (by kernel_rfl) (by simp) ?_
                              refine AllReadyH.cons (o := _) rfl (fun K hK => ?_) ?_
                              · have ho23 := owns_below HP7.out.born.1 hB21 (Nat.le_refl _)
                                have hbl23 : ρr.born.length = ρr.rows.length := HSR.out.len
                                refine step_append_any elemInt _ rfl _ _ rfl 0 _ ρr.born.length (ρr.born.map (Value.int .i64)) rfl ho23 (some ⟨q21, 0, none⟩) 1 1 [.int .i64 (cn : Int)] rfl src21 rfl (by simp [Value.oneCell']) (by unfold maxLen; omega) (by omega) (Nat.zero_le _) ?_
                                intro v23 V23 hown23 hgrow23 hblk23
                                have hP23 := Lib.hid (HP7.out.putBorn hB21 hown23 hgrow23 hblk23)
                                have hnB23 : vB.ownBlock ≠ some rb := fun e => by have := HP7.out.born.2 _ e; rw [HP7.out.mine] at this; cases this
                                have d23 := hgrow23.cell (on_cell hB21 HP7.out.cells.2.2.1) (fun e => hnB23 e.symm)
                                have z23 : V23.frozen? ⟨rb, 2, none⟩ = false := (World.frozen?_of_block (w := V21) (hgrow23.block rb (World.block_lt_of_cell? _ _ (on_cell hB21 HP7.out.cells.2.2.1)) (fun e => hnB23 e.symm))).trans ((hB21.frozen (p := ⟨rb, 2, none⟩) (World.block_lt_of_cell? _ _ HP7.out.cells.2.2.1)).trans (HP7.out.cells.2.2.2.2 2))
                                obtain ⟨x23, y23, rfl⟩ := owns_slice hown23
                                clear hown23 hgrow23 hblk23 ho23
                                refine hK.out _ _ ?_ (fun hHeld => ?_)
                                · exact trivial
                                clear hK K
                                (try simp only [Act.put, List.setIfInBounds_toArray, List.set_cons_zero, List.set_cons_succ])
                                refine wpAnyH_take (i := 11) (oi := ⟨some 67, _, _, _, _, _⟩) (v := ?_) rfl (by kernel_rfl) (by kernel_rfl) (by kernel_rfl) (fun _ _ _ h => h) (Or.inl ⟨by rfl, ?_⟩) (by assumption) ?_
                                rotate_left 1
                                · intro w hSw
                                  (try dsimp only at hSw)
                                  go_simp
                                  all_goals with_reducible rfl
                                (try simp only [Act.put, List.setIfInBounds_toArray, List.set_cons_zero, List.set_cons_succ])
                                refine wpAnyH_take (i := 12) (oi := ⟨some 68, _, _, _, _, _⟩) (v := ?_) rfl (by kernel_rfl) (by kernel_rfl) (by kernel_rfl) (fun _ _ _ h => h) (Or.inl ⟨by rfl, ?_⟩) (by assumption) ?_
                                rotate_left 1
                                · intro w hSw
                                  (try dsimp only at hSw)
                                  go_simp
                                  all_goals with_reducible rfl
                                (try simp only [Act.put, List.setIfInBounds_toArray, List.set_cons_zero, List.set_cons_succ])
                                refine wpAnyH_ready (rs := [13]) (by kernel_rfl) (by simp) ?_
                                refine AllReadyH.cons (o := _) rfl (fun K hK => ?_) ?_
                                · go_simp
                                  refine hK.out _ _ ?_ (fun hHeld => ?_)
                                  · exact trivial
                                  clear hK K
                                  (try simp only [Act.put, List.setIfInBounds_toArray, List.set_cons_zero, List.set_cons_succ])
                                  refine wpAnyH_done (by kernel_rfl) ?_ _
                                  refine NoPanic.normal ?_
                                  obtain ⟨τ25, P25, T25⟩ := hP23.out
                                  rw [Hcn.out] at P25
                                  have hfin := Lib.hid (P25.whole HSR.out hfr hrlen)
                                  clear P25 hHeld
                                  have hTall := (hTT.trans (T7.mono (R' := fun _ => True) (fun _ _ => trivial))).trans (T25.mono (R' := fun _ => True) (fun _ _ => trivial))
                                  rw [hbl23] at hfin hTall
                                  have hrows : (ρr.push (p, xs)).rows.length = ρr.rows.length + 1 := by simp [Rf.push]
                                  go_wp2_with fail
                                  go_roundw
                                  case rel => exact ⟨k + 1, τ25, by omega, by go_num, by rw [HN.out, if_neg hin, hrows]; congr 1; omega, Lib.hid (by rw [HN.out, if_neg hin]; exact hfin.out), Tr.trans hTall⟩
                                  case measure => simp [intOf]; omega
                                exact AllReadyH.nil
                              exact AllReadyH.nil
                            exact AllReadyH.nil
                          exact AllReadyH.nil
                        exact AllReadyH.nil
                      exact AllReadyH.nil
                    exact AllReadyH.nil
                  exact AllReadyH.nil
                exact AllReadyH.nil
              refine AllReadyH.cons (o := _) rfl (fun K hK => ?_) ?_
              · have cK := cR.out _ hB1
                go_simp
                with_reducible refine cK.mono ?_
                rintro e V26 ⟨a2, c2, rfl, hI26, hb26⟩
                have hB26 : Below W1.heap.size W1 V26 := hB1.trans (hb26.mono hB1.size)
                have HI26 := Lib.hid (owns_low hI26 hB1.size)
                clear hI26 hb26
                refine hK.out _ _ ?_ (fun hHeld => ?_)
                · exact ⟨on_cell hB26 g0, on_cell hB26 g1⟩
                clear hK K
                (try simp only [Act.put, List.setIfInBounds_toArray, List.set_cons_zero, List.set_cons_succ])
                refine wpAnyH_ready (rs := [4, 10]) (by kernel_rfl) (by simp) ?_
                refine AllReadyH.cons (o := _) rfl (fun K hK => ?_) ?_
                · have dL := on_cell hB26 gl
                  go_simp
                  refine hK.out _ _ ?_ (fun hHeld => ?_)
                  · exact ⟨on_cell hB26 g0, on_cell hB26 g1⟩
                  clear hK K
                  (try simp only [Act.put, List.setIfInBounds_toArray, List.set_cons_zero, List.set_cons_succ])
                  refine wpAnyH_ready (rs := [10]) (by kernel_rfl) (by simp) ?_
                  refine AllReadyH.cons (o := _) rfl (fun K hK => ?_) ?_
                  · go_simp
                    obtain ⟨V28, hV28⟩ : ∃ W, W = V26.alloc (.cells #[.int .i64 p, .slice a2 xs.length c2] 28) := ⟨_, rfl⟩
                    obtain ⟨q28, hq28⟩ : ∃ b, b = V26.heap.size := ⟨_, rfl⟩
                    rw [← hV28, ← hq28]
                    have hb28 : Below V26.heap.size V26 V28 := by rw [hV28]; exact (Below.refl _ _).alloc (Nat.le_refl _) _
                    have src28 : Source V28 (some ⟨q28, 0, none⟩) 1 1 [.int .i64 p, .slice a2 xs.length c2] := by rw [hV28, hq28]; exact source_new V26 [.int .i64 p, .slice a2 xs.length c2] 28
                    have hB28 : Below W1.heap.size W1 V28 := hB26.trans (hb28.mono hB26.size)
                    have HI28 := Lib.hid (owns_below HI26.out hb28 (Nat.le_refl _))
                    clear hb28 hV28 hq28
                    refine hK.out _ _ ?_ (fun hHeld => ?_)
                    · exact ⟨on_cell hB28 g0, on_cell hB28 g1⟩
                    clear hK K
                    (try simp only [Act.put, List.setIfInBounds_toArray, List.set_cons_zero, List.set_cons_succ])
                    refine wpAnyH_ready (rs := [11]) (by kernel_rfl) (by simp) ?_
                    refine AllReadyH.cons (o := _) rfl (fun K hK => ?_) ?_
                    · have ho29 := owns_below HoL.out hB28 (Nat.le_refl _)
                      refine step_append_any elemRow _ rfl _ _ rfl 0 _ ρr.rows.length csL rfl ho29 (some ⟨q28, 0, none⟩) 1 1 [.int .i64 p, .slice a2 xs.length c2] rfl src28 rfl (by simp [Value.oneCell']) (by unfold maxLen; omega) (by omega) (Nat.zero_le _) ?_
                      intro v29 V29 hown29 hgrow29 hblk29
                      have hP29 := Lib.hid (hTick.out.putList HoL.out HgL.out HcL.out hB28 HI28.out hown29 hgrow29 hblk29)
                      have d29 := hgrow29.cell (on_cell hB28 gl) (fun e => (HnL.out _ e.symm).1 rfl)
                      have z29 : V29.frozen? ⟨rb, 1, none⟩ = false := (World.frozen?_of_block (w := V28) (hgrow29.block rb (World.block_lt_of_cell? _ _ (on_cell hB28 gl)) (fun e => (HnL.out _ e.symm).1 rfl))).trans ((hB28.frozen (p := ⟨rb, 1, none⟩) (World.block_lt_of_cell? _ _ gl)).trans fzT)
                      have j029 := hgrow29.cell (on_cell hB28 g0) (fun e => (HnL.out _ e.symm).2 rfl)
                      have j129 := hgrow29.cell (on_cell hB28 g1) (fun e => (HnL.out _ e.symm).2 rfl)
                      obtain ⟨x29, y29, rfl⟩ := owns_slice hown29
                      clear hown29 hgrow29 hblk29 ho29
                      refine hK.out _ _ ?_ (fun hHeld => ?_)
                      · exact ⟨j029, j129⟩
                      clear hK K
                      (try simp only [Act.put, List.setIfInBounds_toArray, List.set_cons_zero, List.set_cons_succ])
                      refine wpAnyH_take (i := 12) (oi := ⟨some 54, _, _, _, _, _⟩) (v := ?_) rfl (by kernel_rfl) (by kernel_rfl) (by kernel_rfl) (fun _ _ _ h => h) (Or.inl ⟨by rfl, ?_⟩) (by assumption) ?_
                      rotate_left 1
                      · intro w hSw
                        (try dsimp only at hSw)
                        go_simp
                        all_goals with_reducible rfl
                      (try simp only [Act.put, List.setIfInBounds_toArray, List.set_cons_zero, List.set_cons_succ])
                      refine wpAnyH_take (i := 13) (oi := ⟨some 55, _, _, _, _, _⟩) (v := ?_) rfl (by kernel_rfl) (by kernel_rfl) (by kernel_rfl) (fun _ _ _ h => h) (Or.inl ⟨by rfl, ?_⟩) (by assumption) ?_
                      rotate_left 1
                      · intro w hSw
                        (try dsimp only at hSw)
                        go_simp
                        all_goals with_reducible rfl
                      (try simp only [Act.put, List.setIfInBounds_toArray, List.set_cons_zero, List.set_cons_succ])
                      refine wpAnyH_ready (rs := [14]) (by kernel_rfl) (by simp) ?_
                      refine AllReadyH.cons (o := _) rfl (fun K hK => ?_) ?_
                      · go_simp
                        refine hK.out _ _ ?_ (fun hHeld => ?_)
                        · exact ⟨(World.cell?_setCell_far _ _ _ _ (Ne.symm hnb)).trans j029, (World.cell?_setCell_far _ _ _ _ (Ne.symm hnb)).trans j129⟩
                        clear hK K
                        (try simp only [Act.put, List.setIfInBounds_toArray, List.set_cons_zero, List.set_cons_succ])
                        refine wpAnyH_done (by kernel_rfl) ?_ _
                        refine NoPanic.normal ?_
                        obtain ⟨τ31, P31, T31⟩ := hP29.out
                        have HP31 := Lib.hid P31
                        clear P31 hHeld
                        go_upto_region 13 with fail
                        obtain ⟨V31, hV31⟩ : ∃ W, W = V29.setCell ⟨rb, 1, none⟩ (.slice (some ⟨x29, 0, none⟩) (ρr.rows.length + 1) y29) := ⟨_, rfl⟩
                        rw [← hV31] at HP31 T31 ⊢
                        clear hV31 hP29 d29 z29 j029 j129
                        obtain ⟨V32, hV32⟩ : ∃ V, V = V31.drew := ⟨_, rfl⟩
                        have hB32 : Below V31.heap.size V31 V32 := by rw [hV32]; exact (Below.refl _ _).drew
                        refine wp_region_noPanic ?_
                        refine wp_region_held_drew (S := (fun _ => True)) (by kernel_rfl) ?_ (fun hHeld => ?_)
                        · exact trivial
                        rw [← hV32]
                        clear hV32
                        refine wpAnyH_take (i := 0) (oi := ⟨some 56, _, _, _, _, _⟩) (v := ?_) rfl (by kernel_rfl) (by kernel_rfl) (by kernel_rfl) (fun _ _ _ h => h) (Or.inl ⟨by rfl, ?_⟩) (by assumption) ?_
                        rotate_left 1
                        · intro w hSw
                          (try dsimp only at hSw)
                          go_simp
                          all_goals with_reducible rfl
                        (try simp only [Act.put, List.setIfInBounds_toArray, List.set_cons_zero, List.set_cons_succ])
                        refine wpAnyH_take (i := 1) (oi := ⟨some 57, _, _, _, _, _⟩) (v := ?_) rfl (by kernel_rfl) (by kernel_rfl) (by kernel_rfl) (fun _ _ _ h => h) (Or.inl ⟨by rfl, ?_⟩) (by assumption) ?_
                        rotate_left 1
                        · intro w hSw
                          (try dsimp only at hSw)
                          go_simp
                          all_goals with_reducible rfl
                        (try simp only [Act.put, List.setIfInBounds_toArray, List.set_cons_zero, List.set_cons_succ])
                        refine wpAnyH_take (i := 2) (oi := ⟨some 58, _, _, _, _, _⟩) (v := ?_) rfl (by kernel_rfl) (by kernel_rfl) (by kernel_rfl) (fun _ _ _ h => h) (Or.inl ⟨by rfl, ?_⟩) (by assumption) ?_
                        rotate_left 1
                        · intro w hSw
                          (try dsimp only at hSw)
                          go_simp
                          all_goals with_reducible rfl
                        (try simp only [Act.put, List.setIfInBounds_toArray, List.set_cons_zero, List.set_cons_succ])
                        refine wpAnyH_take (i := 3) (oi := ⟨some 59, _, _, _, _, _⟩) (v := ?_) rfl (by kernel_rfl) (by kernel_rfl) (by kernel_rfl) (fun _ _ _ h => h) (Or.inl ⟨by rfl, ?_⟩) (by assumption) ?_
                        rotate_left 1
                        · intro w hSw
                          (try dsimp only at hSw)
                          go_simp
                          all_goals with_reducible rfl
                        (try simp only [Act.put, List.setIfInBounds_toArray, List.set_cons_zero, List.set_cons_succ])
                        refine wpAnyH_take (i := 5) (oi := ⟨some 61, _, _, _, _, _⟩) (v := ?_) rfl (by kernel_rfl) (by kernel_rfl) (by kernel_rfl) (fun _ _ _ h => h) (Or.inl ⟨by rfl, ?_⟩) (by assumption) ?_
                        rotate_left 1
                        · intro w hSw
                          (try dsimp only at hSw)
                          go_simp
                          all_goals with_reducible rfl
                        (try simp only [Act.put, List.setIfInBounds_toArray, List.set_cons_zero, List.set_cons_succ])
                        refine wpAnyH_take (i := 6) (oi := ⟨some 62, _, _, _, _, _⟩) (v := ?_) rfl (by kernel_rfl) (by kernel_rfl) (by kernel_rfl) (fun _ _ _ h => h) (Or.inl ⟨by rfl, ?_⟩) (by assumption) ?_
                        rotate_left 1
                        · intro w hSw
                          (try dsimp only at hSw)
                          go_simp
                          all_goals with_reducible rfl
                        (try simp only [Act.put, List.setIfInBounds_toArray, List.set_cons_zero, List.set_cons_succ])
                        refine wpAnyH_take (i := 7) (oi := ⟨some 63, _, _, _, _, _⟩) (v := ?_) rfl (by kernel_rfl) (by kernel_rfl) (by kernel_rfl) (fun _ _ _ h => h) (Or.inl ⟨by rfl, ?_⟩) (by assumption) ?_
                        rotate_left 1
                        · intro w hSw
                          (try dsimp only at hSw)
                          go_simp
                          all_goals with_reducible rfl
                        (try simp only [Act.put, List.setIfInBounds_toArray, List.set_cons_zero, List.set_cons_succ])
                        refine wpAnyH_ready (rs := [4, 8]) (by kernel_rfl) (by simp) ?_
                        refine AllReadyH.cons (o := _) rfl (fun K hK => ?_) ?_
                        · have dB := on_cell hB32 HP31.out.cells.2.2.1
                          have dC := on_cell hB32 HP31.out.cells.2.2.2.1
                          go_simp
                          refine hK.out _ _ ?_ (fun hHeld => ?_)
                          · exact trivial
                          clear hK K
                          (try simp only [Act.put, List.setIfInBounds_toArray, List.set_cons_zero, List.set_cons_succ])
                          refine wpAnyH_ready (rs := [8]) (by kernel_rfl) (by simp) ?_
                          refine AllReadyH.cons (o := _) rfl (fun K hK => ?_) ?_
                          · have dB := on_cell hB32 HP31.out.cells.2.2.1
                            have dC := on_cell hB32 HP31.out.cells.2.2.2.1
                            go_simp
                            refine hK.out _ _ ?_ (fun hHeld => ?_)
                            · exact trivial
                            clear hK K
                            (try simp only [Act.put, List.setIfInBounds_toArray, List.set_cons_zero, List.set_cons_succ])
                            refine wpAnyH_ready (rs := [9]) (by kernel_rfl) (by simp) ?_
                            refine AllReadyH.cons (o := _) rfl (fun K hK => ?_) ?_
                            · go_simp
                              obtain ⟨V35, hV35⟩ : ∃ W, W = V32.alloc (.cells #[.int .i64 (cn : Int)] 3) := ⟨_, rfl⟩
                              obtain ⟨q35, hq35⟩ : ∃ b, b = V32.heap.size := ⟨_, rfl⟩
                              rw [← hV35, ← hq35]
                              have hb35 : Below V32.heap.size V32 V35 := by rw [hV35]; exact (Below.refl _ _).alloc (Nat.le_refl _) _
                              have src35 : Source V35 (some ⟨q35, 0, none⟩) 1 1 [.int .i64 (cn : Int)] := by rw [hV35, hq35]; exact source_new V32 [.int .i64 (cn : Int)] 3
                              have hB35 : Below V31.heap.size V31 V35 := hB32.trans (hb35.mono hB32.size)
                              clear hb35 hV35 hq35
                              refine hK.out _ _ ?_ (fun hHeld => ?_)
                              · exact trivial
                              clear hK K
                              (try simp only [Act.put, List.setIfInBounds_toArray, List.set_cons_zero, List.set_cons_succ])
                              refine wpAnyH_ready (rs := [10]) (by kernel_rfl) (by simp) ?_
                              refine AllReadyH.cons (o := _) rfl (fun K hK => ?_) ?_
                              · have ho36 := owns_below HP31.out.born.1 hB35 (Nat.le_refl _)
                                have hbl36 : ρr.born.length = ρr.rows.length := HSR.out.len
                                refine step_append_any elemInt _ rfl _ _ rfl 0 _ ρr.born.length (ρr.born.map (Value.int .i64)) rfl ho36 (some ⟨q35, 0, none⟩) 1 1 [.int .i64 (cn : Int)] rfl src35 rfl (by simp [Value.oneCell']) (by unfold maxLen; omega) (by omega) (Nat.zero_le _) ?_
                                intro v36 V36 hown36 hgrow36 hblk36
                                have hP36 := Lib.hid (HP31.out.putBorn hB35 hown36 hgrow36 hblk36)
                                have hnB36 : vB.ownBlock ≠ some rb := fun e => by have := HP31.out.born.2 _ e; rw [HP31.out.mine] at this; cases this
                                have d36 := hgrow36.cell (on_cell hB35 HP31.out.cells.2.2.1) (fun e => hnB36 e.symm)
                                have z36 : V36.frozen? ⟨rb, 2, none⟩ = false := (World.frozen?_of_block (w := V35) (hgrow36.block rb (World.block_lt_of_cell? _ _ (on_cell hB35 HP31.out.cells.2.2.1)) (fun e => hnB36 e.symm))).trans ((hB35.frozen (p := ⟨rb, 2, none⟩) (World.block_lt_of_cell? _ _ HP31.out.cells.2.2.1)).trans (HP31.out.cells.2.2.2.2 2))
                                obtain ⟨x36, y36, rfl⟩ := owns_slice hown36
                                clear hown36 hgrow36 hblk36 ho36
                                refine hK.out _ _ ?_ (fun hHeld => ?_)
                                · exact trivial
                                clear hK K
                                (try simp only [Act.put, List.setIfInBounds_toArray, List.set_cons_zero, List.set_cons_succ])
                                refine wpAnyH_take (i := 11) (oi := ⟨some 67, _, _, _, _, _⟩) (v := ?_) rfl (by kernel_rfl) (by kernel_rfl) (by kernel_rfl) (fun _ _ _ h => h) (Or.inl ⟨by rfl, ?_⟩) (by assumption) ?_
                                rotate_left 1
                                · intro w hSw
                                  (try dsimp only at hSw)
                                  go_simp
                                  all_goals with_reducible rfl
                                (try simp only [Act.put, List.setIfInBounds_toArray, List.set_cons_zero, List.set_cons_succ])
                                refine wpAnyH_take (i := 12) (oi := ⟨some 68, _, _, _, _, _⟩) (v := ?_) rfl (by kernel_rfl) (by kernel_rfl) (by kernel_rfl) (fun _ _ _ h => h) (Or.inl ⟨by rfl, ?_⟩) (by assumption) ?_
                                rotate_left 1
                                · intro w hSw
                                  (try dsimp only at hSw)
                                  go_simp
                                  all_goals with_reducible rfl
                                (try simp only [Act.put, List.setIfInBounds_toArray, List.set_cons_zero, List.set_cons_succ])
                                refine wpAnyH_ready (rs := [13]) (by kernel_rfl) (by simp) ?_
                                refine AllReadyH.cons (o := _) rfl (fun K hK => ?_) ?_
                                · go_simp
                                  refine hK.out _ _ ?_ (fun hHeld => ?_)
                                  · exact trivial
                                  clear hK K
                                  (try simp only [Act.put, List.setIfInBounds_toArray, List.set_cons_zero, List.set_cons_succ])
                                  refine wpAnyH_done (by kernel_rfl) ?_ _
                                  refine NoPanic.normal ?_
                                  obtain ⟨τ38, P38, T38⟩ := hP36.out
                                  rw [Hcn.out] at P38
                                  have hfin := Lib.hid (P38.whole HSR.out hfr hrlen)
                                  clear P38 hHeld
                                  have hTall := (hTT.trans (T31.mono (R' := fun _ => True) (fun _ _ => trivial))).trans (T38.mono (R' := fun _ => True) (fun _ _ => trivial))
                                  rw [hbl36] at hfin hTall
                                  have hrows : (ρr.push (p, xs)).rows.length = ρr.rows.length + 1 := by simp [Rf.push]
                                  go_wp2_with fail
                                  go_roundw
                                  case rel => exact ⟨k + 1, τ38, by omega, by go_num, by rw [HN.out, if_neg hin, hrows]; congr 1; omega, Lib.hid (by rw [HN.out, if_neg hin]; exact hfin.out), Tr.trans hTall⟩
                                  case measure => simp [intOf]; omega
                                exact AllReadyH.nil
                              exact AllReadyH.nil
                            exact AllReadyH.nil
                          exact AllReadyH.nil
                        refine AllReadyH.cons (o := _) rfl (fun K hK => ?_) ?_
                        · have dB := on_cell hB32 HP31.out.cells.2.2.1
                          have dC := on_cell hB32 HP31.out.cells.2.2.2.1
                          go_simp
                          refine hK.out _ _ ?_ (fun hHeld => ?_)
                          · exact trivial
                          clear hK K
                          (try simp only [Act.put, List.setIfInBounds_toArray, List.set_cons_zero, List.set_cons_succ])
                          refine wpAnyH_ready (rs := [4, 9]) (by kernel_rfl) (by simp) ?_
                          refine AllReadyH.cons (o := _) rfl (fun K hK => ?_) ?_
                          · have dB := on_cell hB32 HP31.out.cells.2.2.1
                            have dC := on_cell hB32 HP31.out.cells.2.2.2.1
                            go_simp
                            refine hK.out _ _ ?_ (fun hHeld => ?_)
                            · exact trivial
                            clear hK K
                            (try simp only [Act.put, List.setIfInBounds_toArray, List.set_cons_zero, List.set_cons_succ])
                            refine wpAnyH_ready (rs := [9]) (by kernel_rfl) (by simp) ?_
                            refine AllReadyH.cons (o := _) rfl (fun K hK => ?_) ?_
                            · go_simp
                              obtain ⟨V41, hV41⟩ : ∃ W, W = V32.alloc (.cells #[.int .i64 (cn : Int)] 3) := ⟨_, rfl⟩
                              obtain ⟨q41, hq41⟩ : ∃ b, b = V32.heap.size := ⟨_, rfl⟩
                              rw [← hV41, ← hq41]
                              have hb41 : Below V32.heap.size V32 V41 := by rw [hV41]; exact (Below.refl _ _).alloc (Nat.le_refl _) _
                              have src41 : Source V41 (some ⟨q41, 0, none⟩) 1 1 [.int .i64 (cn : Int)] := by rw [hV41, hq41]; exact source_new V32 [.int .i64 (cn : Int)] 3
                              have hB41 : Below V31.heap.size V31 V41 := hB32.trans (hb41.mono hB32.size)
                              clear hb41 hV41 hq41
                              refine hK.out _ _ ?_ (fun hHeld => ?_)
                              · exact trivial
                              clear hK K
                              (try simp only [Act.put, List.setIfInBounds_toArray, List.set_cons_zero, List.set_cons_succ])
                              refine wpAnyH_ready (rs := [10]) (by kernel_rfl) (by simp) ?_
                              refine AllReadyH.cons (o := _) rfl (fun K hK => ?_) ?_
                              · have ho42 := owns_below HP31.out.born.1 hB41 (Nat.le_refl _)
                                have hbl42 : ρr.born.length = ρr.rows.length := HSR.out.len
                                refine step_append_any elemInt _ rfl _ _ rfl 0 _ ρr.born.length (ρr.born.map (Value.int .i64)) rfl ho42 (some ⟨q41, 0, none⟩) 1 1 [.int .i64 (cn : Int)] rfl src41 rfl (by simp [Value.oneCell']) (by unfold maxLen; omega) (by omega) (Nat.zero_le _) ?_
                                intro v42 V42 hown42 hgrow42 hblk42
                                have hP42 := Lib.hid (HP31.out.putBorn hB41 hown42 hgrow42 hblk42)
                                have hnB42 : vB.ownBlock ≠ some rb := fun e => by have := HP31.out.born.2 _ e; rw [HP31.out.mine] at this; cases this
                                have d42 := hgrow42.cell (on_cell hB41 HP31.out.cells.2.2.1) (fun e => hnB42 e.symm)
                                have z42 : V42.frozen? ⟨rb, 2, none⟩ = false := (World.frozen?_of_block (w := V41) (hgrow42.block rb (World.block_lt_of_cell? _ _ (on_cell hB41 HP31.out.cells.2.2.1)) (fun e => hnB42 e.symm))).trans ((hB41.frozen (p := ⟨rb, 2, none⟩) (World.block_lt_of_cell? _ _ HP31.out.cells.2.2.1)).trans (HP31.out.cells.2.2.2.2 2))
                                obtain ⟨x42, y42, rfl⟩ := owns_slice hown42
                                clear hown42 hgrow42 hblk42 ho42
                                refine hK.out _ _ ?_ (fun hHeld => ?_)
                                · exact trivial
                                clear hK K
                                (try simp only [Act.put, List.setIfInBounds_toArray, List.set_cons_zero, List.set_cons_succ])
                                refine wpAnyH_take (i := 11) (oi := ⟨some 67, _, _, _, _, _⟩) (v := ?_) rfl (by kernel_rfl) (by kernel_rfl) (by kernel_rfl) (fun _ _ _ h => h) (Or.inl ⟨by rfl, ?_⟩) (by assumption) ?_
                                rotate_left 1
                                · intro w hSw
                                  (try dsimp only at hSw)
                                  go_simp
                                  all_goals with_reducible rfl
                                (try simp only [Act.put, List.setIfInBounds_toArray, List.set_cons_zero, List.set_cons_succ])
                                refine wpAnyH_take (i := 12) (oi := ⟨some 68, _, _, _, _, _⟩) (v := ?_) rfl (by kernel_rfl) (by kernel_rfl) (by kernel_rfl) (fun _ _ _ h => h) (Or.inl ⟨by rfl, ?_⟩) (by assumption) ?_
                                rotate_left 1
                                · intro w hSw
                                  (try dsimp only at hSw)
                                  go_simp
                                  all_goals with_reducible rfl
                                (try simp only [Act.put, List.setIfInBounds_toArray, List.set_cons_zero, List.set_cons_succ])
                                refine wpAnyH_ready (rs := [13]) (by kernel_rfl) (by simp) ?_
                                refine AllReadyH.cons (o := _) rfl (fun K hK => ?_) ?_
                                · go_simp
                                  refine hK.out _ _ ?_ (fun hHeld => ?_)
                                  · exact trivial
                                  clear hK K
                                  (try simp only [Act.put, List.setIfInBounds_toArray, List.set_cons_zero, List.set_cons_succ])
                                  refine wpAnyH_done (by kernel_rfl) ?_ _
                                  refine NoPanic.normal ?_
                                  obtain ⟨τ44, P44, T44⟩ := hP42.out
                                  rw [Hcn.out] at P44
                                  have hfin := Lib.hid (P44.whole HSR.out hfr hrlen)
                                  clear P44 hHeld
                                  have hTall := (hTT.trans (T31.mono (R' := fun _ => True) (fun _ _ => trivial))).trans (T44.mono (R' := fun _ => True) (fun _ _ => trivial))
                                  rw [hbl42] at hfin hTall
                                  have hrows : (ρr.push (p, xs)).rows.length = ρr.rows.length + 1 := by simp [Rf.push]
                                  go_wp2_with fail
                                  go_roundw
                                  case rel => exact ⟨k + 1, τ44, by omega, by go_num, by rw [HN.out, if_neg hin, hrows]; congr 1; omega, Lib.hid (by rw [HN.out, if_neg hin]; exact hfin.out), Tr.trans hTall⟩
                                  case measure => simp [intOf]; omega
                                exact AllReadyH.nil
                              exact AllReadyH.nil
                            exact AllReadyH.nil
                          refine AllReadyH.cons (o := _) rfl (fun K hK => ?_) ?_
                          · go_simp
                            obtain ⟨V45, hV45⟩ : ∃ W, W = V32.alloc (.cells #[.int .i64 (cn : Int)] 3) := ⟨_, rfl⟩
                            obtain ⟨q45, hq45⟩ : ∃ b, b = V32.heap.size := ⟨_, rfl⟩
                            rw [← hV45, ← hq45]
                            have hb45 : Below V32.heap.size V32 V45 := by rw [hV45]; exact (Below.refl _ _).alloc (Nat.le_refl _) _
                            have src45 : Source V45 (some ⟨q45, 0, none⟩) 1 1 [.int .i64 (cn : Int)] := by rw [hV45, hq45]; exact source_new V32 [.int .i64 (cn : Int)] 3
                            have hB45 : Below V31.heap.size V31 V45 := hB32.trans (hb45.mono hB32.size)
                            clear hb45 hV45 hq45
                            refine hK.out _ _ ?_ (fun hHeld => ?_)
                            · exact trivial
                            clear hK K
                            (try simp only [Act.put, List.setIfInBounds_toArray, List.set_cons_zero, List.set_cons_succ])
                            refine wpAnyH_ready (rs := [4]) (by kernel_rfl) (by simp) ?_
                            refine AllReadyH.cons (o := _) rfl (fun K hK => ?_) ?_
                            · have dB := on_cell hB45 HP31.out.cells.2.2.1
                              have dC := on_cell hB45 HP31.out.cells.2.2.2.1
                              go_simp
                              refine hK.out _ _ ?_ (fun hHeld => ?_)
                              · exact trivial
                              clear hK K
                              (try simp only [Act.put, List.setIfInBounds_toArray, List.set_cons_zero, List.set_cons_succ])
                              refine wpAnyH_ready (rs := [10]) (by kernel_rfl) (by simp) ?_
                              refine AllReadyH.cons (o := _) rfl (fun K hK => ?_) ?_
                              · have ho47 := owns_below HP31.out.born.1 hB45 (Nat.le_refl _)
                                have hbl47 : ρr.born.length = ρr.rows.length := HSR.out.len
                                refine step_append_any elemInt _ rfl _ _ rfl 0 _ ρr.born.length (ρr.born.map (Value.int .i64)) rfl ho47 (some ⟨q45, 0, none⟩) 1 1 [.int .i64 (cn : Int)] rfl src45 rfl (by simp [Value.oneCell']) (by unfold maxLen; omega) (by omega) (Nat.zero_le _) ?_
                                intro v47 V47 hown47 hgrow47 hblk47
                                have hP47 := Lib.hid (HP31.out.putBorn hB45 hown47 hgrow47 hblk47)
                                have hnB47 : vB.ownBlock ≠ some rb := fun e => by have := HP31.out.born.2 _ e; rw [HP31.out.mine] at this; cases this
                                have d47 := hgrow47.cell (on_cell hB45 HP31.out.cells.2.2.1) (fun e => hnB47 e.symm)
                                have z47 : V47.frozen? ⟨rb, 2, none⟩ = false := (World.frozen?_of_block (w := V45) (hgrow47.block rb (World.block_lt_of_cell? _ _ (on_cell hB45 HP31.out.cells.2.2.1)) (fun e => hnB47 e.symm))).trans ((hB45.frozen (p := ⟨rb, 2, none⟩) (World.block_lt_of_cell? _ _ HP31.out.cells.2.2.1)).trans (HP31.out.cells.2.2.2.2 2))
                                obtain ⟨x47, y47, rfl⟩ := owns_slice hown47
                                clear hown47 hgrow47 hblk47 ho47
                                refine hK.out _ _ ?_ (fun hHeld => ?_)
                                · exact trivial
                                clear hK K
                                (try simp only [Act.put, List.setIfInBounds_toArray, List.set_cons_zero, List.set_cons_succ])
                                refine wpAnyH_take (i := 11) (oi := ⟨some 67, _, _, _, _, _⟩) (v := ?_) rfl (by kernel_rfl) (by kernel_rfl) (by kernel_rfl) (fun _ _ _ h => h) (Or.inl ⟨by rfl, ?_⟩) (by assumption) ?_
                                rotate_left 1
                                · intro w hSw
                                  (try dsimp only at hSw)
                                  go_simp
                                  all_goals with_reducible rfl
                                (try simp only [Act.put, List.setIfInBounds_toArray, List.set_cons_zero, List.set_cons_succ])
                                refine wpAnyH_take (i := 12) (oi := ⟨some 68, _, _, _, _, _⟩) (v := ?_) rfl (by kernel_rfl) (by kernel_rfl) (by kernel_rfl) (fun _ _ _ h => h) (Or.inl ⟨by rfl, ?_⟩) (by assumption) ?_
                                rotate_left 1
                                · intro w hSw
                                  (try dsimp only at hSw)
                                  go_simp
                                  all_goals with_reducible rfl
                                (try simp only [Act.put, List.setIfInBounds_toArray, List.set_cons_zero, List.set_cons_succ])
                                refine wpAnyH_ready (rs := [13]) (by kernel_rfl) (by simp) ?_
                                refine AllReadyH.cons (o := _) rfl (fun K hK => ?_) ?_
                                · go_simp
                                  refine hK.out _ _ ?_ (fun hHeld => ?_)
                                  · exact trivial
                                  clear hK K
                                  (try simp only [Act.put, List.setIfInBounds_toArray, List.set_cons_zero, List.set_cons_succ])
                                  refine wpAnyH_done (by kernel_rfl) ?_ _
                                  refine NoPanic.normal ?_
                                  obtain ⟨τ49, P49, T49⟩ := hP47.out
                                  rw [Hcn.out] at P49
                                  have hfin := Lib.hid (P49.whole HSR.out hfr hrlen)
                                  clear P49 hHeld
                                  have hTall := (hTT.trans (T31.mono (R' := fun _ => True) (fun _ _ => trivial))).trans (T49.mono (R' := fun _ => True) (fun _ _ => trivial))
                                  rw [hbl47] at hfin hTall
                                  have hrows : (ρr.push (p, xs)).rows.length = ρr.rows.length + 1 := by simp [Rf.push]
                                  go_wp2_with fail
                                  go_roundw
                                  case rel => exact ⟨k + 1, τ49, by omega, by go_num, by rw [HN.out, if_neg hin, hrows]; congr 1; omega, Lib.hid (by rw [HN.out, if_neg hin]; exact hfin.out), Tr.trans hTall⟩
                                  case measure => simp [intOf]; omega
                                exact AllReadyH.nil
                              exact AllReadyH.nil
                            exact AllReadyH.nil
                          exact AllReadyH.nil
                        exact AllReadyH.nil
                      exact AllReadyH.nil
                    exact AllReadyH.nil
                  exact AllReadyH.nil
                refine AllReadyH.cons (o := _) rfl (fun K hK => ?_) ?_
                · go_simp
                  obtain ⟨V50, hV50⟩ : ∃ W, W = V26.alloc (.cells #[.int .i64 p, .slice a2 xs.length c2] 28) := ⟨_, rfl⟩
                  obtain ⟨q50, hq50⟩ : ∃ b, b = V26.heap.size := ⟨_, rfl⟩
                  rw [← hV50, ← hq50]
                  have hb50 : Below V26.heap.size V26 V50 := by rw [hV50]; exact (Below.refl _ _).alloc (Nat.le_refl _) _
                  have src50 : Source V50 (some ⟨q50, 0, none⟩) 1 1 [.int .i64 p, .slice a2 xs.length c2] := by rw [hV50, hq50]; exact source_new V26 [.int .i64 p, .slice a2 xs.length c2] 28
                  have hB50 : Below W1.heap.size W1 V50 := hB26.trans (hb50.mono hB26.size)
                  have HI50 := Lib.hid (owns_below HI26.out hb50 (Nat.le_refl _))
                  clear hb50 hV50 hq50
                  refine hK.out _ _ ?_ (fun hHeld => ?_)
                  · exact ⟨on_cell hB50 g0, on_cell hB50 g1⟩
                  clear hK K
                  (try simp only [Act.put, List.setIfInBounds_toArray, List.set_cons_zero, List.set_cons_succ])
                  refine wpAnyH_ready (rs := [4]) (by kernel_rfl) (by simp) ?_
                  refine AllReadyH.cons (o := _) rfl (fun K hK => ?_) ?_
                  · have dL := on_cell hB50 gl
                    go_simp
                    refine hK.out _ _ ?_ (fun hHeld => ?_)
                    · exact ⟨on_cell hB50 g0, on_cell hB50 g1⟩
                    clear hK K
                    (try simp only [Act.put, List.setIfInBounds_toArray, List.set_cons_zero, List.set_cons_succ])
                    refine wpAnyH_ready (rs := [11]) (by kernel_rfl) (by simp) ?_
                    refine AllReadyH.cons (o := _) rfl (fun K hK => ?_) ?_
                    · have ho52 := owns_below HoL.out hB50 (Nat.le_refl _)
                      refine step_append_any elemRow _ rfl _ _ rfl 0 _ ρr.rows.length csL rfl ho52 (some ⟨q50, 0, none⟩) 1 1 [.int .i64 p, .slice a2 xs.length c2] rfl src50 rfl (by simp [Value.oneCell']) (by unfold maxLen; omega) (by omega) (Nat.zero_le _) ?_
                      intro v52 V52 hown52 hgrow52 hblk52
                      have hP52 := Lib.hid (hTick.out.putList HoL.out HgL.out HcL.out hB50 HI50.out hown52 hgrow52 hblk52)
                      have d52 := hgrow52.cell (on_cell hB50 gl) (fun e => (HnL.out _ e.symm).1 rfl)
                      have z52 : V52.frozen? ⟨rb, 1, none⟩ = false := (World.frozen?_of_block (w := V50) (hgrow52.block rb (World.block_lt_of_cell? _ _ (on_cell hB50 gl)) (fun e => (HnL.out _ e.symm).1 rfl))).trans ((hB50.frozen (p := ⟨rb, 1, none⟩) (World.block_lt_of_cell? _ _ gl)).trans fzT)
                      have j052 := hgrow52.cell (on_cell hB50 g0) (fun e => (HnL.out _ e.symm).2 rfl)
                      have j152 := hgrow52.cell (on_cell hB50 g1) (fun e => (HnL.out _ e.symm).2 rfl)
                      obtain ⟨x52, y52, rfl⟩ := owns_slice hown52
                      clear hown52 hgrow52 hblk52 ho52
                      refine hK.out _ _ ?_ (fun hHeld => ?_)
                      · exact ⟨j052, j152⟩
                      clear hK K
                      (try simp only [Act.put, List.setIfInBounds_toArray, List.set_cons_zero, List.set_cons_succ])
                      refine wpAnyH_take (i := 12) (oi := ⟨some 54, _, _, _, _, _⟩) (v := ?_) rfl (by kernel_rfl) (by kernel_rfl) (by kernel_rfl) (fun _ _ _ h => h) (Or.inl ⟨by rfl, ?_⟩) (by assumption) ?_
                      rotate_left 1
                      · intro w hSw
                        (try dsimp only at hSw)
                        go_simp
                        all_goals with_reducible rfl
                      (try simp only [Act.put, List.setIfInBounds_toArray, List.set_cons_zero, List.set_cons_succ])
                      refine wpAnyH_take (i := 13) (oi := ⟨some 55, _, _, _, _, _⟩) (v := ?_) rfl (by kernel_rfl) (by kernel_rfl) (by kernel_rfl) (fun _ _ _ h => h) (Or.inl ⟨by rfl, ?_⟩) (by assumption) ?_
                      rotate_left 1
                      · intro w hSw
                        (try dsimp only at hSw)
                        go_simp
                        all_goals with_reducible rfl
                      (try simp only [Act.put, List.setIfInBounds_toArray, List.set_cons_zero, List.set_cons_succ])
                      refine wpAnyH_ready (rs := [14]) (by kernel_rfl) (by simp) ?_
                      refine AllReadyH.cons (o := _) rfl (fun K hK => ?_) ?_
                      · go_simp
                        refine hK.out _ _ ?_ (fun hHeld => ?_)
                        · exact ⟨(World.cell?_setCell_far _ _ _ _ (Ne.symm hnb)).trans j052, (World.cell?_setCell_far _ _ _ _ (Ne.symm hnb)).trans j152⟩
                        clear hK K
                        (try simp only [Act.put, List.setIfInBounds_toArray, List.set_cons_zero, List.set_cons_succ])
                        refine wpAnyH_done (by kernel_rfl) ?_ _
                        refine NoPanic.normal ?_
                        obtain ⟨τ54, P54, T54⟩ := hP52.out
                        have HP54 := Lib.hid P54
                        clear P54 hHeld
                        go_upto_region 13 with fail
                        obtain ⟨V54, hV54⟩ : ∃ W, W = V52.setCell ⟨rb, 1, none⟩ (.slice (some ⟨x52, 0, none⟩) (ρr.rows.length + 1) y52) := ⟨_, rfl⟩
                        rw [← hV54] at HP54 T54 ⊢
                        clear hV54 hP52 d52 z52 j052 j152
                        obtain ⟨V55, hV55⟩ : ∃ V, V = V54.drew := ⟨_, rfl⟩
                        have hB55 : Below V54.heap.size V54 V55 := by rw [hV55]; exact (Below.refl _ _).drew
                        refine wp_region_noPanic ?_
                        refine wp_region_held_drew (S := (fun _ => True)) (by kernel_rfl) ?_ (fun hHeld => ?_)
                        · exact trivial
                        rw [← hV55]
                        clear hV55
                        refine wpAnyH_take (i := 0) (oi := ⟨some 56, _, _, _, _, _⟩) (v := ?_) rfl (by kernel_rfl) (by kernel_rfl) (by kernel_rfl) (fun _ _ _ h => h) (Or.inl ⟨by rfl, ?_⟩) (by assumption) ?_
                        rotate_left 1
                        · intro w hSw
                          (try dsimp only at hSw)
                          go_simp
                          all_goals with_reducible rfl
                        (try simp only [Act.put, List.setIfInBounds_toArray, List.set_cons_zero, List.set_cons_succ])
                        refine wpAnyH_take (i := 1) (oi := ⟨some 57, _, _, _, _, _⟩) (v := ?_) rfl (by kernel_rfl) (by kernel_rfl) (by kernel_rfl) (fun _ _ _ h => h) (Or.inl ⟨by rfl, ?_⟩) (by assumption) ?_
                        rotate_left 1
                        · intro w hSw
                          (try dsimp only at hSw)
                          go_simp
                          all_goals with_reducible rfl
                        (try simp only [Act.put, List.setIfInBounds_toArray, List.set_cons_zero, List.set_cons_succ])
                        refine wpAnyH_take (i := 2) (oi := ⟨some 58, _, _, _, _, _⟩) (v := ?_) rfl (by kernel_rfl) (by kernel_rfl) (by kernel_rfl) (fun _ _ _ h => h) (Or.inl ⟨by rfl, ?_⟩) (by assumption) ?_
                        rotate_left 1
                        · intro w hSw
                          (try dsimp only at hSw)
                          go_simp
                          all_goals with_reducible rfl
                        (try simp only [Act.put, List.setIfInBounds_toArray, List.set_cons_zero, List.set_cons_succ])
                        refine wpAnyH_take (i := 3) (oi := ⟨some 59, _, _, _, _, _⟩) (v := ?_) rfl (by kernel_rfl) (by kernel_rfl) (by kernel_rfl) (fun _ _ _ h => h) (Or.inl ⟨by rfl, ?_⟩) (by assumption) ?_
                        rotate_left 1
                        · intro w hSw
                          (try dsimp only at hSw)
                          go_simp
                          all_goals with_reducible rfl
                        (try simp only [Act.put, List.setIfInBounds_toArray, List.set_cons_zero, List.set_cons_succ])
                        refine wpAnyH_take (i := 5) (oi := ⟨some 61, _, _, _, _, _⟩) (v := ?_) rfl (by kernel_rfl) (by kernel_rfl) (by kernel_rfl) (fun _ _ _ h => h) (Or.inl ⟨by rfl, ?_⟩) (by assumption) ?_
                        rotate_left 1
                        · intro w hSw
                          (try dsimp only at hSw)
                          go_simp
                          all_goals with_reducible rfl
                        (try simp only [Act.put, List.setIfInBounds_toArray, List.set_cons_zero, List.set_cons_succ])
                        refine wpAnyH_take (i := 6) (oi := ⟨some 62, _, _, _, _, _⟩) (v := ?_) rfl (by kernel_rfl) (by kernel_rfl) (by kernel_rfl) (fun _ _ _ h => h) (Or.inl ⟨by rfl, ?_⟩) (by assumption) ?_
                        rotate_left 1
                        · intro w hSw
                          (try dsimp only at hSw)
                          go_simp
                          all_goals with_reducible rfl
                        (try simp only [Act.put, List.setIfInBounds_toArray, List.set_cons_zero, List.set_cons_succ])
                        refine wpAnyH_take (i := 7) (oi := ⟨some 63, _, _, _, _, _⟩) (v := ?_) rfl (by kernel_rfl) (by kernel_rfl) (by kernel_rfl) (fun _ _ _ h => h) (Or.inl ⟨by rfl, ?_⟩) (by assumption) ?_
                        rotate_left 1
                        · intro w hSw
                          (try dsimp only at hSw)
                          go_simp
                          all_goals with_reducible rfl
                        (try simp only [Act.put, List.setIfInBounds_toArray, List.set_cons_zero, List.set_cons_succ])
                        refine wpAnyH_ready (rs := [4, 8]) (by kernel_rfl) (by simp) ?_
                        refine AllReadyH.cons (o := _) rfl (fun K hK => ?_) ?_
                        · have dB := on_cell hB55 HP54.out.cells.2.2.1
                          have dC := on_cell hB55 HP54.out.cells.2.2.2.1
                          go_simp
                          refine hK.out _ _ ?_ (fun hHeld => ?_)
                          · exact trivial
                          clear hK K
                          (try simp only [Act.put, List.setIfInBounds_toArray, List.set_cons_zero, List.set_cons_succ])
                          refine wpAnyH_ready (rs := [8]) (by kernel_rfl) (by simp) ?_
                          refine AllReadyH.cons (o := _) rfl (fun K hK => ?_) ?_
                          · have dB := on_cell hB55 HP54.out.cells.2.2.1
                            have dC := on_cell hB55 HP54.out.cells.2.2.2.1
                            go_simp
                            refine hK.out _ _ ?_ (fun hHeld => ?_)
                            · exact trivial
                            clear hK K
                            (try simp only [Act.put, List.setIfInBounds_toArray, List.set_cons_zero, List.set_cons_succ])
                            refine wpAnyH_ready (rs := [9]) (by kernel_rfl) (by simp) ?_
                            refine AllReadyH.cons (o := _) rfl (fun K hK => ?_) ?_
                            · go_simp
                              obtain ⟨V58, hV58⟩ : ∃ W, W = V55.alloc (.cells #[.int .i64 (cn : Int)] 3) := ⟨_, rfl⟩
                              obtain ⟨q58, hq58⟩ : ∃ b, b = V55.heap.size := ⟨_, rfl⟩
                              rw [← hV58, ← hq58]
                              have hb58 : Below V55.heap.size V55 V58 := by rw [hV58]; exact (Below.refl _ _).alloc (Nat.le_refl _) _
                              have src58 : Source V58 (some ⟨q58, 0, none⟩) 1 1 [.int .i64 (cn : Int)] := by rw [hV58, hq58]; exact source_new V55 [.int .i64 (cn : Int)] 3
                              have hB58 : Below V54.heap.size V54 V58 := hB55.trans (hb58.mono hB55.size)
                              clear hb58 hV58 hq58
                              refine hK.out _ _ ?_ (fun hHeld => ?_)
                              · exact trivial
                              clear hK K
                              (try simp only [Act.put, List.setIfInBounds_toArray, List.set_cons_zero, List.set_cons_succ])
                              refine wpAnyH_ready (rs := [10]) (by kernel_rfl) (by simp) ?_
                              refine AllReadyH.cons (o := _) rfl (fun K hK => ?_) ?_
                              · have ho59 := owns_below HP54.out.born.1 hB58 (Nat.le_refl _)
                                have hbl59 : ρr.born.length = ρr.rows.length := HSR.out.len
                                refine step_append_any elemInt _ rfl _ _ rfl 0 _ ρr.born.length (ρr.born.map (Value.int .i64)) rfl ho59 (some ⟨q58, 0, none⟩) 1 1 [.int .i64 (cn : Int)] rfl src58 rfl (by simp [Value.oneCell']) (by unfold maxLen; omega) (by omega) (Nat.zero_le _) ?_
                                intro v59 V59 hown59 hgrow59 hblk59
                                have hP59 := Lib.hid (HP54.out.putBorn hB58 hown59 hgrow59 hblk59)
                                have hnB59 : vB.ownBlock ≠ some rb := fun e => by have := HP54.out.born.2 _ e; rw [HP54.out.mine] at this; cases this
                                have d59 := hgrow59.cell (on_cell hB58 HP54.out.cells.2.2.1) (fun e => hnB59 e.symm)
                                have z59 : V59.frozen? ⟨rb, 2, none⟩ = false := (World.frozen?_of_block (w := V58) (hgrow59.block rb (World.block_lt_of_cell? _ _ (on_cell hB58 HP54.out.cells.2.2.1)) (fun e => hnB59 e.symm))).trans ((hB58.frozen (p := ⟨rb, 2, none⟩) (World.block_lt_of_cell? _ _ HP54.out.cells.2.2.1)).trans (HP54.out.cells.2.2.2.2 2))
                                obtain ⟨x59, y59, rfl⟩ := owns_slice hown59
                                clear hown59 hgrow59 hblk59 ho59
                                refine hK.out _ _ ?_ (fun hHeld => ?_)
                                · exact trivial
                                clear hK K
                                (try simp only [Act.put, List.setIfInBounds_toArray, List.set_cons_zero, List.set_cons_succ])
                                refine wpAnyH_take (i := 11) (oi := ⟨some 67, _, _, _, _, _⟩) (v := ?_) rfl (by kernel_rfl) (by kernel_rfl) (by kernel_rfl) (fun _ _ _ h => h) (Or.inl ⟨by rfl, ?_⟩) (by assumption) ?_
                                rotate_left 1
                                · intro w hSw
                                  (try dsimp only at hSw)
                                  go_simp
                                  all_goals with_reducible rfl
                                (try simp only [Act.put, List.setIfInBounds_toArray, List.set_cons_zero, List.set_cons_succ])
                                refine wpAnyH_take (i := 12) (oi := ⟨some 68, _, _, _, _, _⟩) (v := ?_) rfl (by kernel_rfl) (by kernel_rfl) (by kernel_rfl) (fun _ _ _ h => h) (Or.inl ⟨by rfl, ?_⟩) (by assumption) ?_
                                rotate_left 1
                                · intro w hSw
                                  (try dsimp only at hSw)
                                  go_simp
                                  all_goals with_reducible rfl
                                (try simp only [Act.put, List.setIfInBounds_toArray, List.set_cons_zero, List.set_cons_succ])
                                refine wpAnyH_ready (rs := [13]) (by kernel_rfl) (by simp) ?_
                                refine AllReadyH.cons (o := _) rfl (fun K hK => ?_) ?_
                                · go_simp
                                  refine hK.out _ _ ?_ (fun hHeld => ?_)
                                  · exact trivial
                                  clear hK K
                                  (try simp only [Act.put, List.setIfInBounds_toArray, List.set_cons_zero, List.set_cons_succ])
                                  refine wpAnyH_done (by kernel_rfl) ?_ _
                                  refine NoPanic.normal ?_
                                  obtain ⟨τ61, P61, T61⟩ := hP59.out
                                  rw [Hcn.out] at P61
                                  have hfin := Lib.hid (P61.whole HSR.out hfr hrlen)
                                  clear P61 hHeld
                                  have hTall := (hTT.trans (T54.mono (R' := fun _ => True) (fun _ _ => trivial))).trans (T61.mono (R' := fun _ => True) (fun _ _ => trivial))
                                  rw [hbl59] at hfin hTall
                                  have hrows : (ρr.push (p, xs)).rows.length = ρr.rows.length + 1 := by simp [Rf.push]
                                  go_wp2_with fail
                                  go_roundw
                                  case rel => exact ⟨k + 1, τ61, by omega, by go_num, by rw [HN.out, if_neg hin, hrows]; congr 1; omega, Lib.hid (by rw [HN.out, if_neg hin]; exact hfin.out), Tr.trans hTall⟩
                                  case measure => simp [intOf]; omega
                                exact AllReadyH.nil
                              exact AllReadyH.nil
                            exact AllReadyH.nil
                          exact AllReadyH.nil
                        refine AllReadyH.cons (o := _) rfl (fun K hK => ?_) ?_
                        · have dB := on_cell hB55 HP54.out.cells.2.2.1
                          have dC := on_cell hB55 HP54.out.cells.2.2.2.1
                          go_simp
                          refine hK.out _ _ ?_ (fun hHeld => ?_)
                          · exact trivial
                          clear hK K
                          (try simp only [Act.put, List.setIfInBounds_toArray, List.set_cons_zero, List.set_cons_succ])
                          refine wpAnyH_ready (rs := [4, 9]) (by kernel_rfl) (by simp) ?_
                          refine AllReadyH.cons (o := _) rfl (fun K hK => ?_) ?_
                          · have dB := on_cell hB55 HP54.out.cells.2.2.1
                            have dC := on_cell hB55 HP54.out.cells.2.2.2.1
                            go_simp
                            refine hK.out _ _ ?_ (fun hHeld => ?_)
                            · exact trivial
                            clear hK K
                            (try simp only [Act.put, List.setIfInBounds_toArray, List.set_cons_zero, List.set_cons_succ])
                            refine wpAnyH_ready (rs := [9]) (by kernel_rfl) (by simp) ?_
                            refine AllReadyH.cons (o := _) rfl (fun K hK => ?_) ?_
                            · go_simp
                              obtain ⟨V64, hV64⟩ : ∃ W, W = V55.alloc (.cells #[.int .i64 (cn : Int)] 3) := ⟨_, rfl⟩
                              obtain ⟨q64, hq64⟩ : ∃ b, b = V55.heap.size := ⟨_, rfl⟩
                              rw [← hV64, ← hq64]
                              have hb64 : Below V55.heap.size V55 V64 := by rw [hV64]; exact (Below.refl _ _).alloc (Nat.le_refl _) _
                              have src64 : Source V64 (some ⟨q64, 0, none⟩) 1 1 [.int .i64 (cn : Int)] := by rw [hV64, hq64]; exact source_new V55 [.int .i64 (cn : Int)] 3
                              have hB64 : Below V54.heap.size V54 V64 := hB55.trans (hb64.mono hB55.size)
                              clear hb64 hV64 hq64
                              refine hK.out _ _ ?_ (fun hHeld => ?_)
                              · exact trivial
                              clear hK K
                              (try simp only [Act.put, List.setIfInBounds_toArray, List.set_cons_zero, List.set_cons_succ])
                              refine wpAnyH_ready (rs := [10]) (by kernel_rfl) (by simp) ?_
                              refine AllReadyH.cons (o := _) rfl (fun K hK => ?_) ?_
                              · have ho65 := owns_below HP54.out.born.1 hB64 (Nat.le_refl _)
                                have hbl65 : ρr.born.length = ρr.rows.length := HSR.out.len
                                refine step_append_any elemInt _ rfl _ _ rfl 0 _ ρr.born.length (ρr.born.map (Value.int .i64)) rfl ho65 (some ⟨q64, 0, none⟩) 1 1 [.int .i64 (cn : Int)] rfl src64 rfl (by simp [Value.oneCell']) (by unfold maxLen; omega) (by omega) (Nat.zero_le _) ?_
                                intro v65 V65 hown65 hgrow65 hblk65
                                have hP65 := Lib.hid (HP54.out.putBorn hB64 hown65 hgrow65 hblk65)
                                have hnB65 : vB.ownBlock ≠ some rb := fun e => by have := HP54.out.born.2 _ e; rw [HP54.out.mine] at this; cases this
                                have d65 := hgrow65.cell (on_cell hB64 HP54.out.cells.2.2.1) (fun e => hnB65 e.symm)
                                have z65 : V65.frozen? ⟨rb, 2, none⟩ = false := (World.frozen?_of_block (w := V64) (hgrow65.block rb (World.block_lt_of_cell? _ _ (on_cell hB64 HP54.out.cells.2.2.1)) (fun e => hnB65 e.symm))).trans ((hB64.frozen (p := ⟨rb, 2, none⟩) (World.block_lt_of_cell? _ _ HP54.out.cells.2.2.1)).trans (HP54.out.cells.2.2.2.2 2))
                                obtain ⟨x65, y65, rfl⟩ := owns_slice hown65
                                clear hown65 hgrow65 hblk65 ho65
                                refine hK.out _ _ ?_ (fun hHeld => ?_)
                                · exact trivial
                                clear hK K
                                (try simp only [Act.put, List.setIfInBounds_toArray, List.set_cons_zero, List.set_cons_succ])
                                refine wpAnyH_take (i := 11) (oi := ⟨some 67, _, _, _, _, _⟩) (v := ?_) rfl (by kernel_rfl) (by kernel_rfl) (by kernel_rfl) (fun _ _ _ h => h) (Or.inl ⟨by rfl, ?_⟩) (by assumption) ?_
                                rotate_left 1
                                · intro w hSw
                                  (try dsimp only at hSw)
                                  go_simp
                                  all_goals with_reducible rfl
                                (try simp only [Act.put, List.setIfInBounds_toArray, List.set_cons_zero, List.set_cons_succ])
                                refine wpAnyH_take (i := 12) (oi := ⟨some 68, _, _, _, _, _⟩) (v := ?_) rfl (by kernel_rfl) (by kernel_rfl) (by kernel_rfl) (fun _ _ _ h => h) (Or.inl ⟨by rfl, ?_⟩) (by assumption) ?_
                                rotate_left 1
                                · intro w hSw
                                  (try dsimp only at hSw)
                                  go_simp
                                  all_goals with_reducible rfl
                                (try simp only [Act.put, List.setIfInBounds_toArray, List.set_cons_zero, List.set_cons_succ])
                                refine wpAnyH_ready (rs := [13]) (by kernel_rfl) (by simp) ?_
                                refine AllReadyH.cons (o := _) rfl (fun K hK => ?_) ?_
                                · go_simp
                                  refine hK.out _ _ ?_ (fun hHeld => ?_)
                                  · exact trivial
                                  clear hK K
                                  (try simp only [Act.put, List.setIfInBounds_toArray, List.set_cons_zero, List.set_cons_succ])
                                  refine wpAnyH_done (by kernel_rfl) ?_ _
                                  refine NoPanic.normal ?_
                                  obtain ⟨τ67, P67, T67⟩ := hP65.out
                                  rw [Hcn.out] at P67
                                  have hfin := Lib.hid (P67.whole HSR.out hfr hrlen)
                                  clear P67 hHeld
                                  have hTall := (hTT.trans (T54.mono (R' := fun _ => True) (fun _ _ => trivial))).trans (T67.mono (R' := fun _ => True) (fun _ _ => trivial))
                                  rw [hbl65] at hfin hTall
                                  have hrows : (ρr.push (p, xs)).rows.length = ρr.rows.length + 1 := by simp [Rf.push]
                                  go_wp2_with fail
                                  go_roundw
                                  case rel => exact ⟨k + 1, τ67, by omega, by go_num, by rw [HN.out, if_neg hin, hrows]; congr 1; omega, Lib.hid (by rw [HN.out, if_neg hin]; exact hfin.out), Tr.trans hTall⟩
                                  case measure => simp [intOf]; omega
                                exact AllReadyH.nil
                              exact AllReadyH.nil
                            exact AllReadyH.nil
                          refine AllReadyH.cons (o := _) rfl (fun K hK => ?_) ?_
                          · go_simp
                            obtain ⟨V68, hV68⟩ : ∃ W, W = V55.alloc (.cells #[.int .i64 (cn : Int)] 3) := ⟨_, rfl⟩
                            obtain ⟨q68, hq68⟩ : ∃ b, b = V55.heap.size := ⟨_, rfl⟩
                            rw [← hV68, ← hq68]
                            have hb68 : Below V55.heap.size V55 V68 := by rw [hV68]; exact (Below.refl _ _).alloc (Nat.le_refl _) _
                            have src68 : Source V68 (some ⟨q68, 0, none⟩) 1 1 [.int .i64 (cn : Int)] := by rw [hV68, hq68]; exact source_new V55 [.int .i64 (cn : Int)] 3
                            have hB68 : Below V54.heap.size V54 V68 := hB55.trans (hb68.mono hB55.size)
                            clear hb68 hV68 hq68
                            refine hK.out _ _ ?_ (fun hHeld => ?_)
                            · exact trivial
                            clear hK K
                            (try simp only [Act.put, List.setIfInBounds_toArray, List.set_cons_zero, List.set_cons_succ])
                            refine wpAnyH_ready (rs := [4]) (by kernel_rfl) (by simp) ?_
                            refine AllReadyH.cons (o := _) rfl (fun K hK => ?_) ?_
                            · have dB := on_cell hB68 HP54.out.cells.2.2.1
                              have dC := on_cell hB68 HP54.out.cells.2.2.2.1
                              go_simp
                              refine hK.out _ _ ?_ (fun hHeld => ?_)
                              · exact trivial
                              clear hK K
                              (try simp only [Act.put, List.setIfInBounds_toArray, List.set_cons_zero, List.set_cons_succ])
                              refine wpAnyH_ready (rs := [10]) (by kernel_rfl) (by simp) ?_
                              refine AllReadyH.cons (o := _) rfl (fun K hK => ?_) ?_
                              · have ho70 := owns_below HP54.out.born.1 hB68 (Nat.le_refl _)
                                have hbl70 : ρr.born.length = ρr.rows.length := HSR.out.len
                                refine step_append_any elemInt _ rfl _ _ rfl 0 _ ρr.born.length (ρr.born.map (Value.int .i64)) rfl ho70 (some ⟨q68, 0, none⟩) 1 1 [.int .i64 (cn : Int)] rfl src68 rfl (by simp [Value.oneCell']) (by unfold maxLen; omega) (by omega) (Nat.zero_le _) ?_
                                intro v70 V70 hown70 hgrow70 hblk70
                                have hP70 := Lib.hid (HP54.out.putBorn hB68 hown70 hgrow70 hblk70)
                                have hnB70 : vB.ownBlock ≠ some rb := fun e => by have := HP54.out.born.2 _ e; rw [HP54.out.mine] at this; cases this
                                have d70 := hgrow70.cell (on_cell hB68 HP54.out.cells.2.2.1) (fun e => hnB70 e.symm)
                                have z70 : V70.frozen? ⟨rb, 2, none⟩ = false := (World.frozen?_of_block (w := V68) (hgrow70.block rb (World.block_lt_of_cell? _ _ (on_cell hB68 HP54.out.cells.2.2.1)) (fun e => hnB70 e.symm))).trans ((hB68.frozen (p := ⟨rb, 2, none⟩) (World.block_lt_of_cell? _ _ HP54.out.cells.2.2.1)).trans (HP54.out.cells.2.2.2.2 2))
                                obtain ⟨x70, y70, rfl⟩ := owns_slice hown70
                                clear hown70 hgrow70 hblk70 ho70
                                refine hK.out _ _ ?_ (fun hHeld => ?_)
                                · exact trivial
                                clear hK K
                                (try simp only [Act.put, List.setIfInBounds_toArray, List.set_cons_zero, List.set_cons_succ])
                                refine wpAnyH_take (i := 11) (oi := ⟨some 67, _, _, _, _, _⟩) (v := ?_) rfl (by kernel_rfl) (by kernel_rfl) (by kernel_rfl) (fun _ _ _ h => h) (Or.inl ⟨by rfl, ?_⟩) (by assumption) ?_
                                rotate_left 1
                                · intro w hSw
                                  (try dsimp only at hSw)
                                  go_simp
                                  all_goals with_reducible rfl
                                (try simp only [Act.put, List.setIfInBounds_toArray, List.set_cons_zero, List.set_cons_succ])
                                refine wpAnyH_take (i := 12) (oi := ⟨some 68, _, _, _, _, _⟩) (v := ?_) rfl (by kernel_rfl) (by kernel_rfl) (by kernel_rfl) (fun _ _ _ h => h) (Or.inl ⟨by rfl, ?_⟩) (by assumption) ?_
                                rotate_left 1
                                · intro w hSw
                                  (try dsimp only at hSw)
                                  go_simp
                                  all_goals with_reducible rfl
                                (try simp only [Act.put, List.setIfInBounds_toArray, List.set_cons_zero, List.set_cons_succ])
                                refine wpAnyH_ready (rs := [13]) (by kernel_rfl) (by simp) ?_
                                refine AllReadyH.cons (o := _) rfl (fun K hK => ?_) ?_
                                · go_simp
                                  refine hK.out _ _ ?_ (fun hHeld => ?_)
                                  · exact trivial
                                  clear hK K
                                  (try simp only [Act.put, List.setIfInBounds_toArray, List.set_cons_zero, List.set_cons_succ])
                                  refine wpAnyH_done (by kernel_rfl) ?_ _
                                  refine NoPanic.normal ?_
                                  obtain ⟨τ72, P72, T72⟩ := hP70.out
                                  rw [Hcn.out] at P72
                                  have hfin := Lib.hid (P72.whole HSR.out hfr hrlen)
                                  clear P72 hHeld
                                  have hTall := (hTT.trans (T54.mono (R' := fun _ => True) (fun _ _ => trivial))).trans (T72.mono (R' := fun _ => True) (fun _ _ => trivial))
                                  rw [hbl70] at hfin hTall
                                  have hrows : (ρr.push (p, xs)).rows.length = ρr.rows.length + 1 := by simp [Rf.push]
                                  go_wp2_with fail
                                  go_roundw
                                  case rel => exact ⟨k + 1, τ72, by omega, by go_num, by rw [HN.out, if_neg hin, hrows]; congr 1; omega, Lib.hid (by rw [HN.out, if_neg hin]; exact hfin.out), Tr.trans hTall⟩
                                  case measure => simp [intOf]; omega
                                exact AllReadyH.nil
                              exact AllReadyH.nil
                            exact AllReadyH.nil
                          exact AllReadyH.nil
                        exact AllReadyH.nil
                      exact AllReadyH.nil
                    exact AllReadyH.nil
                  exact AllReadyH.nil
                exact AllReadyH.nil
              exact AllReadyH.nil
        · have hke : k = l.length := by omega
          subst hke
          have hso := HSr.out
          rw [List.take_length] at hso ⊢
          go_wp2
          go_ret2
          exact ⟨rfl, τr, hso, T0.trans Tr⟩
end
end Go.Proofs.Ytgodidoibcomcaa
