/-
  A store in the midst of a push: each part with a state of its own; what each of push's steps leaves. Plain facts on worlds, no walk.
-/
import Derived.Test.YtkejjiohkhlnnaaSParts
namespace Go.Proofs.Ytkejjiohkhlnnaa
open Go.RowKit
open Go.Maps (Keyed)

structure PartsAt (s sb : Nat) (ar : List Int) (rR : List Row) (bs : List Int) (rU rN : List Row) (LO LW : Value → List Int) (births mN mO mW : Nat) (ls : List (Nat × Int)) (h : Hd) (τ : Own) (w : World) : Prop where
  fresh : Fresh τ w
  mine : τ sb = some (s, .head)
  head : HeadIs sb h ar.length births w
  ar : IntsZ (Still s τ) w h.aAr h.cAr ar
  rows : RowsPart s τ w h.vR rR bs
  undo : UndoPart s sb τ w h.vU rU
  num : NumPart s τ w h.bN mN rN
  of : ListsPart s τ w 3 h.bO mO .of .ofv LO
  wh : ListsPart s τ w 138 h.bW mW .wh .whv LW
  lows : LowsPart s τ w h.vL ls
theorem StoreAt.parts {s sb : Nat} {σ : St} {h : Hd} {τ : Own} {w : World} (hs : StoreAt s sb σ h τ w) : PartsAt s sb σ.ar σ.rows σ.bs σ.rows σ.rows (ofK σ.rows) (whK σ.rows) σ.births σ.births σ.births (σ.births * 8) σ.lows h τ w :=
  ⟨hs.fresh, hs.mine, hs.head, hs.ar, hs.rows, hs.undo, hs.num, hs.of, hs.wh, hs.lows⟩

/-- all but what lies still for ever -/
def Moves (r : Role) : Prop := r ≠ .still

section
variable {s sb : Nat} {ar : List Int} {rR : List Row} {bs : List Int} {rU rN : List Row} {LO LW : Value → List Int} {births mN mO mW : Nat} {ls : List (Nat × Int)} {h : Hd} {τ : Own} {w : World}

/-- everything but the parts R stays -/
theorem PartsAt.turn {R : Role → Prop} {τ' : Own} {w' : World} (P : PartsAt s sb ar rR bs rU rN LO LW births mN mO mW ls h τ w) (ht : Turn s R τ τ' w w') (h0 : ¬ R .still) (h1 : ¬ R .head) (h2 : ¬ R .rows) (h3 : ¬ R .undo) (h4 : ¬ R .num) (h5 : ¬ R .of) (h6 : ∀ k, ¬ R (.ofv k)) (h7 : ¬ R .wh) (h8 : ∀ k, ¬ R (.whv k)) (h9 : ¬ R .lows) : PartsAt s sb ar rR bs rU rN LO LW births mN mO mW ls h τ' w' :=
  ⟨ht.fresh, (ht.own sb (Array.getElem?_eq_some_iff.1 P.head).1).trans P.mine, P.head.turn P.mine ht h1, still_turn ht h0 P.ar, P.rows.turn ht h2 h0, P.undo.turn ht h3 h0, P.num.turn ht h4, P.of.turn ht h5 h6, P.wh.turn ht h7 h8, P.lows.turn ht h9⟩

theorem PartsAt.setBirths (P : PartsAt s sb ar rR bs rU rN LO LW births mN mO mW ls h τ w) (n : Nat) : PartsAt s sb ar rR bs rU rN LO LW n mN mO mW ls h τ (w.setCell ⟨sb, 6, none⟩ (.int .i64 (n : Int))) ∧ Turn s Moves τ τ w (w.setCell ⟨sb, 6, none⟩ (.int .i64 (n : Int))) := by
  have T : Turn s (fun r => r = .head) τ τ w (w.setCell ⟨sb, 6, none⟩ (.int .i64 (n : Int))) := Turn.setCell (R := fun r => r = .head) P.fresh (a := ⟨sb, 6, none⟩) P.mine rfl _
  refine ⟨⟨T.fresh, P.mine, P.head.births n, still_turn T (fun h => by cases h) P.ar, P.rows.turn T (fun h => by cases h) (fun h => by cases h), P.undo.turn T (fun h => by cases h) (fun h => by cases h), P.num.turn T (fun h => by cases h), P.of.turn T (fun h => by cases h) (fun k h => by cases h), P.wh.turn T (fun h => by cases h) (fun k h => by cases h), P.lows.turn T (fun h => by cases h)⟩, T.mono fun r hr => by subst hr; intro h; cases h⟩

theorem PartsAt.putRow (P : PartsAt s sb ar rR bs rU rN LO LW births mN mO mW ls h τ w) (hlen : bs.length = rR.length) {r : Row} {a : Option Addr} {c : Nat} {bt : Int} (hi : IntsZ (Still s τ) w a c r.2) {cs : List Value} (ho : w.ownsRow 0 123 3 h.vR rR.length cs) (hg : ∀ g, h.vR.ownBlock = some g → τ g = some (s, .rows))
    (hc : ∀ i r bt, rR[i]? = some r → bs[i]? = some bt → cs[i * 3]? = some (.int .i64 r.1) ∧ (∃ a c, cs[i * 3 + 1]? = some (.slice a r.2.length c) ∧ IntsZ (Still s τ) w a c r.2) ∧ cs[i * 3 + 2]? = some (.int .i64 bt))
    {wA w2 : World} {v' : Value} (hbA : Below w.heap.size w wA) (hown2 : w2.ownsRow 0 123 3 v' (rR.length + 1) (cs ++ [.int .i64 r.1, .slice a r.2.length c, .int .i64 bt])) (hgrow : wA.grownBy w2 h.vR.ownBlock) (hblk : v'.ownBlock = h.vR.ownBlock ∨ v'.ownBlock = some wA.heap.size) :
    ∃ τ2, PartsAt s sb ar (rR ++ [r]) (bs ++ [bt]) rU rN LO LW births mN mO mW ls { h with vR := v' } τ2 (w2.setCell ⟨sb, 1, none⟩ v') ∧ Turn s Moves τ τ2 w (w2.setCell ⟨sb, 1, none⟩ v') := by
  have TA : Turn s (fun _ => False) τ τ w wA := Turn.of_below hbA P.fresh
  have PA := P.turn TA (fun h => h) (fun h => h) (fun h => h) (fun h => h) (fun h => h) (fun h => h) (fun _ h => h) (fun h => h) (fun _ h => h) (fun h => h)
  have T2 : Turn s (fun r => r = .rows) τ (adopted s .rows wA.heap.size w2.heap.size τ) wA w2 := Turn.grown hgrow PA.fresh .rows rfl hg
  have hrows := RowsPart.push (v' := v') (r := r) (bt := bt) (a := a) (c := c) (cs := cs) (wA := wA) (τ2 := adopted s .rows wA.heap.size w2.heap.size τ) (rows := rR) hlen (by simpa using ho.1) (fun i r bt hr hb => by
    obtain ⟨c1, ⟨a1, ca, c2, hI⟩, c3⟩ := hc i r bt hr hb
    exact ⟨c1, ⟨a1, ca, c2, still_turn TA (fun h => h) hI⟩, c3⟩) (still_turn TA (fun h => h) hi) T2 (fun h => by cases h) hown2 (tag_grown hown2 (fun g e => ⟨hg g e, Nat.lt_of_lt_of_le (ho.lt g e).2 hbA.size⟩) hblk)
  have hmine : adopted s .rows wA.heap.size w2.heap.size τ sb = some (s, .head) := (T2.own sb (Array.getElem?_eq_some_iff.1 PA.head).1).trans P.mine
  have T3 : Turn s (fun r => r = .head) (adopted s .rows wA.heap.size w2.heap.size τ) (adopted s .rows wA.heap.size w2.heap.size τ) w2 (w2.setCell ⟨sb, 1, none⟩ v') := Turn.setCell (R := fun r => r = .head) T2.fresh (a := ⟨sb, 1, none⟩) hmine rfl _
  have T23 := (T2.mono (R' := fun r => r = .rows ∨ r = .head) (fun r h => .inl h)).trans (T3.mono (fun r h => .inr h))
  refine ⟨_, ⟨T3.fresh, hmine, (PA.head.turn P.mine T2 (fun h => by cases h)).setR v', still_turn T23 (fun h => by rcases h with h | h <;> cases h) PA.ar, hrows.turn T3 (fun h => by cases h) (fun h => by cases h), PA.undo.turn T23 (fun h => by rcases h with h | h <;> cases h) (fun h => by rcases h with h | h <;> cases h), PA.num.turn T23 (fun h => by rcases h with h | h <;> cases h), PA.of.turn T23 (fun h => by rcases h with h | h <;> cases h) (fun k h => by rcases h with h | h <;> cases h), PA.wh.turn T23 (fun h => by rcases h with h | h <;> cases h) (fun k h => by rcases h with h | h <;> cases h), PA.lows.turn T23 (fun h => by rcases h with h | h <;> cases h)⟩, ?_⟩
  exact (TA.mono (fun r h => h.elim)).trans (T23.mono fun r h => by rcases h with rfl | rfl <;> (intro h; cases h))

theorem PartsAt.putUndo (P : PartsAt s sb ar rR bs rU rN LO LW births mN mO mW ls h τ w) {r : Row} {u : Value} {fs : List Value} (ho : w.ownsRow 0 1 1 h.vU rU.length fs) (hg : ∀ g, h.vU.ownBlock = some g → τ g = some (s, .undo)) (hc : ∀ i r, rU[i]? = some r → ∃ u, fs[i]? = some u ∧ UndoAt s sb τ w u i r) (hu : UndoAt s sb τ w u rU.length r)
    {wA w2 : World} {v' : Value} (hbA : Below w.heap.size w wA) (hown2 : w2.ownsRow 0 1 1 v' (rU.length + 1) (fs ++ [u])) (hgrow : wA.grownBy w2 h.vU.ownBlock) (hblk : v'.ownBlock = h.vU.ownBlock ∨ v'.ownBlock = some wA.heap.size) :
    ∃ τ2, PartsAt s sb ar rR bs (rU ++ [r]) rN LO LW births mN mO mW ls { h with vU := v' } τ2 (w2.setCell ⟨sb, 2, none⟩ v') ∧ Turn s Moves τ τ2 w (w2.setCell ⟨sb, 2, none⟩ v') := by
  have TA : Turn s (fun _ => False) τ τ w wA := Turn.of_below hbA P.fresh
  have PA := P.turn TA (fun h => h) (fun h => h) (fun h => h) (fun h => h) (fun h => h) (fun h => h) (fun _ h => h) (fun h => h) (fun _ h => h) (fun h => h)
  have T2 : Turn s (fun r => r = .undo) τ (adopted s .undo wA.heap.size w2.heap.size τ) wA w2 := Turn.grown hgrow PA.fresh .undo rfl hg
  have hundo := UndoPart.push (sb := sb) (v' := v') (r := r) (u := u) (fs := fs) (wA := wA) (τ := τ) (τ2 := adopted s .undo wA.heap.size w2.heap.size τ) (rows := rU) (by simpa using ho.1) (fun i r hr => by
    obtain ⟨u1, h1, h2⟩ := hc i r hr
    exact ⟨u1, h1, h2.turn TA (fun h => h)⟩) (hu.turn TA (fun h => h)) T2 (fun h => by cases h) hown2 (tag_grown hown2 (fun g e => ⟨hg g e, Nat.lt_of_lt_of_le (ho.lt g e).2 hbA.size⟩) hblk)
  have hmine : adopted s .undo wA.heap.size w2.heap.size τ sb = some (s, .head) := (T2.own sb (Array.getElem?_eq_some_iff.1 PA.head).1).trans P.mine
  have T3 : Turn s (fun r => r = .head) (adopted s .undo wA.heap.size w2.heap.size τ) (adopted s .undo wA.heap.size w2.heap.size τ) w2 (w2.setCell ⟨sb, 2, none⟩ v') := Turn.setCell (R := fun r => r = .head) T2.fresh (a := ⟨sb, 2, none⟩) hmine rfl _
  have T23 := (T2.mono (R' := fun r => r = .undo ∨ r = .head) (fun r h => .inl h)).trans (T3.mono (fun r h => .inr h))
  refine ⟨_, ⟨T3.fresh, hmine, (PA.head.turn P.mine T2 (fun h => by cases h)).setU v', still_turn T23 (fun h => by rcases h with h | h <;> cases h) PA.ar, PA.rows.turn T23 (fun h => by rcases h with h | h <;> cases h) (fun h => by rcases h with h | h <;> cases h), hundo.turn T3 (fun h => by cases h) (fun h => by cases h), PA.num.turn T23 (fun h => by rcases h with h | h <;> cases h), PA.of.turn T23 (fun h => by rcases h with h | h <;> cases h) (fun k h => by rcases h with h | h <;> cases h), PA.wh.turn T23 (fun h => by rcases h with h | h <;> cases h) (fun k h => by rcases h with h | h <;> cases h), PA.lows.turn T23 (fun h => by rcases h with h | h <;> cases h)⟩, ?_⟩
  exact (TA.mono (fun r h => h.elim)).trans (T23.mono fun r h => by rcases h with rfl | rfl <;> (intro h; cases h))

theorem PartsAt.putNum (P : PartsAt s sb ar rR bs rU rN LO LW births mN mO mW ls h τ w) {r : Row} (hf : ∀ r ∈ rN, FitsRow ar r) (hr : FitsRow ar r) (hp : ar.length ≤ 128) (hno : r ∉ rN) {wA : World} (hbA : Below w.heap.size w wA) :
    ∃ es clock, (Instr.mapUpdate 104 (.map (some h.bN)) (keyV r) (.int .i64 (rN.length : Int))).run Try.prog wA = .ok () (ChangeMaps.setBlock wA h.bN (.map es clock)) ∧
      PartsAt s sb ar rR bs rU (rN ++ [r]) LO LW births (mN + 1) mO mW ls h τ (ChangeMaps.setBlock wA h.bN (.map es clock)) ∧ Turn s Moves τ τ w (ChangeMaps.setBlock wA h.bN (.map es clock)) ∧ Turn s (fun r => r = .num) τ τ wA (ChangeMaps.setBlock wA h.bN (.map es clock)) := by
  have TA : Turn s (fun _ => False) τ τ w wA := Turn.of_below hbA P.fresh
  have PA := P.turn TA (fun h => h) (fun h => h) (fun h => h) (fun h => h) (fun h => h) (fun h => h) (fun _ h => h) (fun h => h) (fun _ h => h) (fun h => h)
  obtain ⟨es, clock, hrun, hN⟩ := PA.num.push hf hr hp hno
  have T2 : Turn s (fun r => r = .num) τ τ wA (ChangeMaps.setBlock wA h.bN (.map es clock)) := Turn.setMap (R := fun r => r = .num) PA.fresh PA.num.1 rfl _
  exact ⟨es, clock, hrun, ⟨T2.fresh, P.mine, PA.head.turn P.mine T2 (fun h => by cases h), still_turn T2 (fun h => by cases h) PA.ar, PA.rows.turn T2 (fun h => by cases h) (fun h => by cases h), PA.undo.turn T2 (fun h => by cases h) (fun h => by cases h), hN, PA.of.turn T2 (fun h => by cases h) (fun k h => by cases h), PA.wh.turn T2 (fun h => by cases h) (fun k h => by cases h), PA.lows.turn T2 (fun h => by cases h)⟩, (TA.mono (fun r h => h.elim)).trans (T2.mono fun r h => by subst h; intro h; cases h), T2⟩

theorem ofv_inj : ∀ k k', Role.ofv k = Role.ofv k' → k = k' := fun k k' h => by cases h; rfl
theorem whv_inj : ∀ k k', Role.whv k = Role.whv k' → k = k' := fun k k' h => by cases h; rfl

/-- the list of a predicate: what is looked up, and what a longer one leaves -/
theorem PartsAt.putOf (P : PartsAt s sb ar rR bs rU rN LO LW births mN mO mW ls h τ w) {p : Int} (hp : Rng p) (n : Int) :
    ∃ v0, w.ownsRow 0 3 1 v0 (LO (.int .i64 p)).length ((LO (.int .i64 p)).map (Value.int .i64)) ∧ (∀ g, v0.ownBlock = some g → τ g = some (s, .ofv (.int .i64 p))) ∧ (∀ W : World, Below w.heap.size w W → (Instr.lookup 105 (.map (some h.bO)) (.int .i64 p) false).run Try.prog W = .ok v0 W) ∧
      ∀ (wA w2 : World) (v' : Value), Below w.heap.size w wA → w2.ownsRow 0 3 1 v' ((LO (.int .i64 p)).length + 1) ((LO (.int .i64 p)).map (Value.int .i64) ++ [.int .i64 n]) → wA.grownBy w2 v0.ownBlock → (v'.ownBlock = v0.ownBlock ∨ v'.ownBlock = some wA.heap.size) →
        ∃ τ2 es clock, (Instr.mapUpdate 105 (.map (some h.bO)) (.int .i64 p) v').run Try.prog w2 = .ok () (ChangeMaps.setBlock w2 h.bO (.map es clock)) ∧
          PartsAt s sb ar rR bs rU rN (updL LO (.int .i64 p) n) LW births mN (mO + 1) mW ls h τ2 (ChangeMaps.setBlock w2 h.bO (.map es clock)) ∧ Turn s Moves τ τ2 w (ChangeMaps.setBlock w2 h.bO (.map es clock)) ∧ Turn s Moves τ τ2 w w2 ∧ w.heap[h.bO]? = w2.heap[h.bO]? := by
  obtain ⟨v0, ho, hg, hlook, hput⟩ := P.of.at ofv_inj (fun k h => by cases h) intLaw Try.underlying105 (.int .i64 p) (intKey_of hp) n
  have hbO : h.bO < w.heap.size := by obtain ⟨_, f, hm, _⟩ := P.of; exact hm.lt
  refine ⟨v0, ho, hg, fun W hW => hlook W (hW.block _ hbO), fun wA w2 v' hbA hown2 hgrow hblk => ?_⟩
  have TA : Turn s (fun _ => False) τ τ w wA := Turn.of_below hbA P.fresh
  have PA := P.turn TA (fun h => h) (fun h => h) (fun h => h) (fun h => h) (fun h => h) (fun h => h) (fun _ h => h) (fun h => h) (fun _ h => h) (fun h => h)
  have T2 : Turn s (fun r => r = .ofv (.int .i64 p)) τ (adopted s (.ofv (.int .i64 p)) wA.heap.size w2.heap.size τ) wA w2 := Turn.grown hgrow PA.fresh _ rfl hg
  have TW : Turn s (fun r => r = .ofv (.int .i64 p)) τ (adopted s (.ofv (.int .i64 p)) wA.heap.size w2.heap.size τ) w w2 := (TA.mono (fun r h => h.elim)).trans T2
  obtain ⟨es, clock, hrun, hL⟩ := hput _ w2 v' TW hown2 (tag_grown hown2 (fun g e => ⟨hg g e, Nat.lt_of_lt_of_le (ho.lt g e).2 hbA.size⟩) hblk)
  have hbk : adopted s (.ofv (.int .i64 p)) wA.heap.size w2.heap.size τ h.bO = some (s, .of) := (TW.own _ hbO).trans P.of.1
  have T3 : Turn s (fun r => r = .of) (adopted s (.ofv (.int .i64 p)) wA.heap.size w2.heap.size τ) (adopted s (.ofv (.int .i64 p)) wA.heap.size w2.heap.size τ) w2 (ChangeMaps.setBlock w2 h.bO (.map es clock)) := Turn.setMap (R := fun r => r = .of) T2.fresh hbk rfl _
  have T23 := (TW.mono (R' := fun r => r = .ofv (.int .i64 p) ∨ r = .of) (fun r h => .inl h)).trans (T3.mono (fun r h => .inr h))
  have hm2 : adopted s (.ofv (.int .i64 p)) wA.heap.size w2.heap.size τ sb = some (s, .head) := (TW.own sb (Array.getElem?_eq_some_iff.1 P.head).1).trans P.mine
  refine ⟨_, es, clock, hrun, ⟨T3.fresh, hm2, P.head.turn P.mine T23 (fun h => by rcases h with h | h <;> cases h), still_turn T23 (fun h => by rcases h with h | h <;> cases h) P.ar, P.rows.turn T23 (fun h => by rcases h with h | h <;> cases h) (fun h => by rcases h with h | h <;> cases h), P.undo.turn T23 (fun h => by rcases h with h | h <;> cases h) (fun h => by rcases h with h | h <;> cases h), P.num.turn T23 (fun h => by rcases h with h | h <;> cases h), hL, P.wh.turn T23 (fun h => by rcases h with h | h <;> cases h) (fun k h => by rcases h with h | h <;> cases h), P.lows.turn T23 (fun h => by rcases h with h | h <;> cases h)⟩, T23.mono (fun r h => by rcases h with rfl | rfl <;> (intro h; cases h)), TW.mono (fun r h => by subst h; intro h; cases h), ?_⟩
  exact (TW.keep _ hbO (fun r e er => by rw [P.of.1] at e; cases e; cases er)).symm

/-- the list of a place: an entry is made, a longer list made, the entry filled -/
theorem PartsAt.putWh (P : PartsAt s sb ar rR bs rU rN LO LW births mN mO mW ls h τ w) (hmW : mW ≤ maxLen) {p i x : Int} (hp : Rng p) (hi : Rng i) (hx : Rng x) (n : Int) :
    ∃ v0, w.ownsRow 0 3 1 v0 (LW (placeV p i x)).length ((LW (placeV p i x)).map (Value.int .i64)) ∧ (∀ g, v0.ownBlock = some g → τ g = some (s, .whv (placeV p i x))) ∧ h.bW < w.heap.size ∧
      ∀ W : World, Below w.heap.size w W → ∃ st es1 clock1, (Instr.mapEntry 106 (.map (some h.bW)) (placeV p i x)).run Try.prog W = .ok (.tuple #[v0, goInt (st : Nat)]) (ChangeMaps.setBlock W h.bW (.map es1 clock1)) ∧
        ∀ (wA w2 : World) (v' : Value), (∀ j, j < w.heap.size → j ≠ h.bW → wA.heap[j]? = w.heap[j]?) → w.heap.size ≤ wA.heap.size → wA.os = w.os → wA.tape = w.tape → wA.output = w.output → w2.heap[h.bW]? = some (.map es1 clock1) →
          w2.ownsRow 0 3 1 v' ((LW (placeV p i x)).length + 1) ((LW (placeV p i x)).map (Value.int .i64) ++ [.int .i64 n]) → wA.grownBy w2 v0.ownBlock → (v'.ownBlock = v0.ownBlock ∨ v'.ownBlock = some wA.heap.size) →
          ∃ τ2 es clock, (Instr.entryStore 106 (.map (some h.bW)) (goInt (st : Nat)) v').run Try.prog w2 = .ok () (ChangeMaps.setBlock w2 h.bW (.map es clock)) ∧
            PartsAt s sb ar rR bs rU rN LO (updL LW (placeV p i x) n) births mN mO (mW + 1) ls h τ2 (ChangeMaps.setBlock w2 h.bW (.map es clock)) ∧ Turn s Moves τ τ2 w (ChangeMaps.setBlock w2 h.bW (.map es clock)) := by
  obtain ⟨v0, ho, hg, hb, hput⟩ := P.wh.entry hmW whv_inj (fun k h => by cases h) placeLaw Try.underlying106 (placeV p i x) (placeKey_of hp hi hx) n
  have hbW : h.bW < w.heap.size := by obtain ⟨_, f, hm, _⟩ := P.wh; exact hm.lt
  refine ⟨v0, ho, hg, hbW, fun W hW => ?_⟩
  obtain ⟨st, es1, clock1, hrun, hlater⟩ := hput W (hW.block _ hbW)
  refine ⟨st, es1, clock1, hrun, fun wA w2 v' hk hsz hos htp hop hbk hown2 hgrow hblk => ?_⟩
  have TA : Turn s (fun r => r = .wh) τ τ w wA := ⟨hos, htp, hop, hsz, fun j hj hr => hk j hj (fun e => by subst e; exact hr _ hb rfl), fun _ _ => rfl, (fun j hj s' r e => by rw [P.fresh j hj] at e; cases e), fun j hj => P.fresh j (Nat.le_trans hsz hj)⟩
  have T2 : Turn s (fun r => r = .whv (placeV p i x)) τ (adopted s (.whv (placeV p i x)) wA.heap.size w2.heap.size τ) wA w2 := Turn.grown hgrow TA.fresh _ rfl hg
  have TW : Turn s (fun r => r = .whv (placeV p i x) ∨ r = .wh) τ (adopted s (.whv (placeV p i x)) wA.heap.size w2.heap.size τ) w w2 := (TA.mono (fun r h => .inr h)).trans (T2.mono (fun r h => .inl h))
  obtain ⟨es, clock, hrun2, hL⟩ := hlater _ w2 v' TW hbk hown2 (tag_grown hown2 (fun g e => ⟨hg g e, Nat.lt_of_lt_of_le (ho.lt g e).2 hsz⟩) hblk)
  have hbk2 : adopted s (.whv (placeV p i x)) wA.heap.size w2.heap.size τ h.bW = some (s, .wh) := (TW.own _ hbW).trans hb
  have T3 : Turn s (fun r => r = .wh) (adopted s (.whv (placeV p i x)) wA.heap.size w2.heap.size τ) (adopted s (.whv (placeV p i x)) wA.heap.size w2.heap.size τ) w2 (ChangeMaps.setBlock w2 h.bW (.map es clock)) := Turn.setMap (R := fun r => r = .wh) T2.fresh hbk2 rfl _
  have T23 := TW.trans (T3.mono (fun r h => .inr h))
  have hm2 : adopted s (.whv (placeV p i x)) wA.heap.size w2.heap.size τ sb = some (s, .head) := (TW.own sb (Array.getElem?_eq_some_iff.1 P.head).1).trans P.mine
  exact ⟨_, es, clock, hrun2, ⟨T3.fresh, hm2, P.head.turn P.mine T23 (fun h => by rcases h with h | h <;> cases h), still_turn T23 (fun h => by rcases h with h | h <;> cases h) P.ar, P.rows.turn T23 (fun h => by rcases h with h | h <;> cases h) (fun h => by rcases h with h | h <;> cases h), P.undo.turn T23 (fun h => by rcases h with h | h <;> cases h) (fun h => by rcases h with h | h <;> cases h), P.num.turn T23 (fun h => by rcases h with h | h <;> cases h), P.of.turn T23 (fun h => by rcases h with h | h <;> cases h) (fun k h => by rcases h with h | h <;> cases h), hL, P.lows.turn T23 (fun h => by rcases h with h | h <;> cases h)⟩, T23.mono (fun r h => by rcases h with rfl | rfl <;> (intro h; cases h))⟩
end
end Go.Proofs.Ytkejjiohkhlnnaa
