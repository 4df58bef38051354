/-
  What a store's parts become when the last row is taken out again: plain facts on worlds, no walk.
-/
import Derived.Test.YtkejjiohkhlnnaaSPush
namespace Go.Proofs.Ytkejjiohkhlnnaa
open Go.RowKit
open Go.Maps (Keyed)
open Go.ChangeMaps
open Classical

/-- 'm[k] = v' where k is in: no entry more -/
theorem MapIs.replace {P : Program} {k e t : TypeId} {w : World} {b n : Nat} {f : Value → Option Value} (h : MapIs P k w b n f) (K : Keyed P k) (ht : P.underlying t = some (.map k e)) {key : Value} {kl : Lit} (hkey : keyOf P k key = some kl) {old : Value} (hold : f key = some old) (val : Value) :
    ∃ es clock, (Instr.mapUpdate t (.map (some b)) key val).run P w = .ok () (setBlock w b (.map es clock)) ∧ MapIs P k (setBlock w b (.map es clock)) b n (upd f key (some val)) := by
  have hlt := h.lt
  have hd := h
  obtain ⟨es, clock, hrun, hm⟩ := h.update K ht hkey val
  obtain ⟨es0, clock0, hb, hst, hks, hs, hf⟩ := hd
  obtain ⟨x, hx, hxk, _⟩ := (hf key old).1 hold
  rcases K.find w hkey es0.toList hks with ⟨_, h2⟩ | ⟨j, e0, h1, h2, h3⟩
  · exact absurd hxk (h2 x hx)
  · have hj : es0[j]? = some e0 := by simpa using h2
    have hrun' : (Instr.mapUpdate t (.map (some b)) key val).run P w = .ok () (setBlock w b (.map (es0.modify j (fun e' => { e' with key := key, val := val })) clock0)) := by
      simp [Instr.mapUpdate, run_underlying ht, MapKept.run_getObj_map hb, K.check w false hkey, h1, hj, h3, K.stays w hkey, MapKept.run_setObj_map _ hb, Result.andThen, setBlock]
    have e2 : setBlock w b (.map es clock) = setBlock w b (.map (es0.modify j (fun e' => { e' with key := key, val := val })) clock0) := by
      rw [hrun] at hrun'
      simpa using hrun'
    obtain ⟨es1, clock1, g1, g2, g3, _, g5⟩ := hm
    refine ⟨es, clock, hrun, es1, clock1, g1, g2, g3, ?_, g5⟩
    rw [e2, setBlock_same hlt] at g1
    simp at g1
    rw [← g1.1]
    simpa using hs

/-- L, but without the last number at the key -/
noncomputable def popL (L : Value → List Int) (key : Value) : Value → List Int := fun k => if k = key then (L k).dropLast else L k
theorem popL_updL (L : Value → List Int) (key : Value) (n : Int) : popL (updL L key n) key = L := by
  funext k
  unfold popL updL
  split <;> simp_all
/-- the lists by places while the row r is taken out: k places are done -/
noncomputable def whDown (rows : List Row) (r : Row) (k : Nat) (key : Value) : List Int := whK rows key ++ if ∃ (j : Nat) (x : Int), k ≤ j ∧ r.2[j]? = some x ∧ key = placeV r.1 j x then [(rows.length : Int)] else []
theorem whDown_zero (rows : List Row) (r : Row) : whK (rows ++ [r]) = whDown rows r 0 := by
  rw [whK_snoc]
  funext key
  rw [whMid_eq]
  unfold whDown
  congr 2
  apply propext
  constructor
  · rintro ⟨j, x, _, h1, h2⟩; exact ⟨j, x, Nat.zero_le _, h1, h2⟩
  · rintro ⟨j, x, _, h1, h2⟩; exact ⟨j, x, (List.getElem?_eq_some_iff.1 h1).1, h1, h2⟩
theorem whDown_end (rows : List Row) (r : Row) : whDown rows r r.2.length = whK rows := by
  funext key
  unfold whDown
  rw [if_neg, List.append_nil]
  rintro ⟨j, x, h0, h1, _⟩
  have := (List.getElem?_eq_some_iff.1 h1).1
  omega
theorem whDown_here (rows : List Row) (r : Row) {k : Nat} {x : Int} (hx : r.2[k]? = some x) : whDown rows r k (placeV r.1 k x) = whK rows (placeV r.1 k x) ++ [(rows.length : Int)] := by
  unfold whDown
  rw [if_pos ⟨k, x, Nat.le_refl _, hx, rfl⟩]
theorem whDown_succ (rows : List Row) (r : Row) {k : Nat} {x : Int} (hx : r.2[k]? = some x) : popL (whDown rows r k) (placeV r.1 k x) = whDown rows r (k + 1) := by
  funext key
  unfold popL
  split
  · rename_i hk
    rw [hk, whDown_here rows r hx]
    unfold whDown
    rw [if_neg]
    · simp
    · rintro ⟨j, y, h0, h1, h2⟩
      simp [placeV] at h2
      omega
  · rename_i hk
    unfold whDown
    congr 2
    apply propext
    constructor
    · rintro ⟨j, y, h0, h1, h2⟩
      refine ⟨j, y, ?_, h1, h2⟩
      rcases Nat.lt_or_ge k j with h | h
      · exact h
      · have : j = k := by omega
        subst this
        rw [hx] at h1
        cases h1
        exact absurd h2 hk
    · rintro ⟨j, y, h0, h1, h2⟩; exact ⟨j, y, by omega, h1, h2⟩
theorem whDown_gone (rows : List Row) (r : Row) {k : Nat} {x : Int} : whDown rows r (k + 1) (placeV r.1 k x) = whK rows (placeV r.1 k x) := by
  unfold whDown
  rw [if_neg, List.append_nil]
  rintro ⟨j, y, h0, h1, h2⟩
  simp [placeV] at h2
  omega

/-- a row that one owns, but shorter -/
theorem owns_cut {w : World} {base size n : Nat} {e : TypeId} {v : Value} {xs : List Value} (h : w.ownsRow base e size v (n + 1) xs) : ∃ g cap, v = .slice (some ⟨g, 0, none⟩) (n + 1) cap ∧ n + 1 ≤ cap ∧ ∀ k, k ≤ n + 1 → w.ownsRow base e size (.slice (some ⟨g, 0, none⟩) k cap) k (xs.take (k * size)) := by
  obtain ⟨hl, h | ⟨g, cap, cur, rfl, h1, h2, h3, h4, h5, h6⟩⟩ := h
  · omega
  · refine ⟨g, cap, rfl, h3, fun k hk => ⟨?_, .inr ⟨g, cap, cur, rfl, h1, h2, by omega, h4, h5, ?_⟩⟩⟩
    · rw [List.length_take, hl]
      exact Nat.min_eq_left (Nat.mul_le_mul_right _ hk)
    · rw [← h6, List.take_take, Nat.min_eq_left (Nat.mul_le_mul_right _ hk)]

theorem NumPart.pop {s : Nat} {τ : Own} {w : World} {b m : Nat} {rows : List Row} {ar : List Int} {r : Row} (h : NumPart s τ w b m (rows ++ [r])) (hf : ∀ r' ∈ rows ++ [r], FitsRow ar r') (hp : ar.length ≤ 128) (hno : r ∉ rows) (ty : TypeId) :
    ∃ es clock, (Builtin.delete_ #[104, 111] ty #[.map (some b), keyV r]).run Try.prog w = .ok (.tuple #[]) (setBlock w b (.map es clock)) ∧ NumPart s τ (setBlock w b (.map es clock)) b m rows := by
  obtain ⟨hb, f, hm, h2, h3⟩ := h
  have hr := hf r (by simp)
  obtain ⟨l, hl⟩ := keyV_key hr hp
  obtain ⟨es, clock, hrun, hm'⟩ := hm.drop rowLaw Try.underlying104 hl ty
  refine ⟨es, clock, hrun, hb, _, hm', fun i r1 h1 => ?_, fun key v hv => ?_⟩
  · have hmem := List.mem_of_getElem? h1
    rw [upd_ne _ _ (fun e => hno (keyV_inj (hf r1 (by simp [hmem])) hr e ▸ hmem))]
    exact h2 i r1 (by rw [List.getElem?_append_left (List.getElem?_eq_some_iff.1 h1).1]; exact h1)
  · unfold upd at hv
    split at hv
    · cases hv
    · rename_i hne
      obtain ⟨r1, h1, hk1⟩ := h3 key v hv
      rcases List.mem_append.1 h1 with h1 | h1
      · exact ⟨r1, h1, hk1⟩
      · rw [List.mem_singleton] at h1
        subst h1
        exact absurd hk1 hne

theorem ListsPart.pop {s : Nat} {τ : Own} {w : World} {K t : TypeId} {b m : Nat} {role : Role} {tag : Value → Role} {L : Value → List Int} (h : ListsPart s τ w K b m role tag L) (hrole : ∀ k, tag k ≠ role) (Kd : Keyed Try.prog K) (ht : Try.prog.underlying t = some (.map K 22)) (key : Value) (hk : ∃ l, keyOf Try.prog K key = some l) {n : Nat} (hn : (L key).length = n + 1) :
    ∃ g cap, n + 1 ≤ cap ∧ (∀ W : World, W.heap[b]? = w.heap[b]? → (Instr.lookup t (.map (some b)) key false).run Try.prog W = .ok (.slice (some ⟨g, 0, none⟩) (n + 1) cap) W) ∧ τ g = some (s, tag key) ∧
      ∀ W : World, (∀ j, j < w.heap.size → W.heap[j]? = w.heap[j]?) → ∃ es clock, (Instr.mapUpdate t (.map (some b)) key (.slice (some ⟨g, 0, none⟩) n cap)).run Try.prog W = .ok () (setBlock W b (.map es clock)) ∧ ListsPart s τ (setBlock W b (.map es clock)) K b m role tag (popL L key) ∧
        (∀ W' : World, W'.heap[b]? = some (.map es clock) → (Instr.lookup t (.map (some b)) key false).run Try.prog W' = .ok (.slice (some ⟨g, 0, none⟩) n cap) W') := by
  obtain ⟨hb, f, hm, h3, h4⟩ := h
  obtain ⟨l, hl⟩ := hk
  obtain ⟨v0, hv0⟩ : ∃ v0, f key = some v0 := by
    cases hf : f key with
    | none => rw [h3 key hf ⟨l, hl⟩] at hn; simp at hn
    | some v => exact ⟨v, rfl⟩
  obtain ⟨ho, hg⟩ := h4 key v0 hv0
  rw [hn] at ho
  obtain ⟨g, cap, rfl, hcap, hcut⟩ := owns_cut ho
  refine ⟨g, cap, hcap, fun W hW => ?_, hg g rfl, fun W hW => ?_⟩
  · have := (hm.kept hW).look Kd ht (zeroInts W) hl false
    rw [hv0] at this
    exact this
  · obtain ⟨es, clock, hrun, hm'⟩ := (hm.kept (hW b hm.lt)).replace Kd ht hl hv0 (.slice (some ⟨g, 0, none⟩) n cap)
    have hset : ∀ {v : Value} {n : Nat} {xs : List Value}, w.ownsRow 0 3 1 v n xs → (∀ g, v.ownBlock = some g → τ g ≠ some (s, role)) → (setBlock W b (.map es clock)).ownsRow 0 3 1 v n xs := fun h hne => owns_block h (fun g e => by
      have : g ≠ b := by
        rintro rfl
        exact hne _ e hb
      rw [setBlock_ne this]
      exact hW g (h.lt g e).2)
    refine ⟨es, clock, hrun, ⟨hb, _, hm', fun k hk hkl => ?_, fun k v hv => ?_⟩, fun W' hW' => ?_⟩
    · unfold upd at hk
      split at hk
      · cases hk
      · rename_i hne
        unfold popL
        rw [if_neg hne]
        exact h3 k hk hkl
    · unfold upd at hv
      split at hv
      · rename_i hkk
        cases hv
        subst hkk
        unfold popL
        rw [if_pos rfl, List.length_dropLast, hn]
        have := hcut n (by omega)
        have e : (List.map (Value.int IntKind.i64) (L k)).take (n * 1) = List.map (Value.int IntKind.i64) (L k).dropLast := by
          rw [List.dropLast_eq_take, hn, Nat.mul_one, Nat.add_sub_cancel, List.map_take]
        rw [e] at this
        exact ⟨hset this (fun g' e' => by cases e'; rw [hg g rfl]; intro h; simp at h; exact hrole k h), fun g' e' => by cases e'; exact hg g rfl⟩
      · rename_i hne
        unfold popL
        rw [if_neg hne]
        obtain ⟨ho2, hg2⟩ := h4 k v hv
        exact ⟨hset ho2 (fun g' e' => by rw [hg2 g' e']; intro h; simp at h; exact hrole k h), hg2⟩
    · have := (hm'.kept (w' := W') (hW'.trans (setBlock_same (by rw [show W.heap.size = W.heap.size from rfl]; have h1 := hW b hm.lt; exact (Array.getElem?_eq_some_iff.1 (h1.trans (Array.getElem?_eq_getElem hm.lt))).1)).symm)).look Kd ht (zeroInts W') hl false
      rw [upd_same] at this
      exact this

/-- a list that is empty: its entry goes -/
theorem ListsPart.gone {s : Nat} {τ : Own} {w : World} {K t : TypeId} {b m : Nat} {role : Role} {tag : Value → Role} {L : Value → List Int} (h : ListsPart s τ w K b m role tag L) (hrole : ∀ k, tag k ≠ role) (Kd : Keyed Try.prog K) (ht : Try.prog.underlying t = some (.map K 22)) (key : Value) (hk : ∃ l, keyOf Try.prog K key = some l) (hn : L key = []) (ty : TypeId)
    {W : World} (hW : ∀ j, j < w.heap.size → W.heap[j]? = w.heap[j]?) :
    ∃ es clock, (Builtin.delete_ #[t, K] ty #[.map (some b), key]).run Try.prog W = .ok (.tuple #[]) (setBlock W b (.map es clock)) ∧ ListsPart s τ (setBlock W b (.map es clock)) K b m role tag L := by
  obtain ⟨hb, f, hm, h3, h4⟩ := h
  obtain ⟨l, hl⟩ := hk
  obtain ⟨es, clock, hrun, hm'⟩ := (hm.kept (hW b hm.lt)).drop Kd ht hl ty
  have hset : ∀ {v : Value} {n : Nat} {xs : List Value}, w.ownsRow 0 3 1 v n xs → (∀ g, v.ownBlock = some g → τ g ≠ some (s, role)) → (setBlock W b (.map es clock)).ownsRow 0 3 1 v n xs := fun h hne => owns_block h (fun g e => by
    have : g ≠ b := by
      rintro rfl
      exact hne _ e hb
    rw [setBlock_ne this]
    exact hW g (h.lt g e).2)
  refine ⟨es, clock, hrun, hb, _, hm', fun k hk hkl => ?_, fun k v hv => ?_⟩
  · unfold upd at hk
    split at hk
    · rename_i hkk
      subst hkk
      exact hn
    · exact h3 k hk hkl
  · unfold upd at hv
    split at hv
    · cases hv
    · obtain ⟨ho2, hg2⟩ := h4 k v hv
      exact ⟨hset ho2 (fun g' e' => by rw [hg2 g' e']; intro h; simp at h; exact hrole k h), hg2⟩

section
variable {s sb : Nat} {ar : List Int} {rR : List Row} {bs : List Int} {rU rN : List Row} {LO LW : Value → List Int} {births mN mO mW : Nat} {ls : List (Nat × Int)} {h : Hd} {τ : Own} {w : World}

/-- everything but one block of s stays -/
theorem PartsAt.stay {w' : World} (P : PartsAt s sb ar rR bs rU rN LO LW births mN mO mW ls h τ w) (hb : Below w.heap.size w w') : PartsAt s sb ar rR bs rU rN LO LW births mN mO mW ls h τ w' :=
  P.turn (R := fun _ => False) (Turn.of_below hb P.fresh) (fun h => h) (fun h => h) (fun h => h) (fun h => h) (fun h => h) (fun h => h) (fun _ h => h) (fun h => h) (fun _ h => h) (fun h => h)

theorem PartsAt.popNum {r : Row} (P : PartsAt s sb ar rR bs rU (rN ++ [r]) LO LW births mN mO mW ls h τ w) (hf : ∀ r' ∈ rN ++ [r], FitsRow ar r') (hp : ar.length ≤ 128) (hno : r ∉ rN) (ty : TypeId) {wA : World} (hbA : Below w.heap.size w wA) :
    ∃ es clock, (Builtin.delete_ #[104, 111] ty #[.map (some h.bN), keyV r]).run Try.prog wA = .ok (.tuple #[]) (setBlock wA h.bN (.map es clock)) ∧
      PartsAt s sb ar rR bs rU rN LO LW births mN mO mW ls h τ (setBlock wA h.bN (.map es clock)) ∧ Turn s Moves τ τ w (setBlock wA h.bN (.map es clock)) := by
  have PA := P.stay hbA
  obtain ⟨es, clock, hrun, hN⟩ := PA.num.pop hf hp hno ty
  have T2 : Turn s (fun r => r = .num) τ τ wA (setBlock wA h.bN (.map es clock)) := Turn.setMap (R := fun r => r = .num) PA.fresh PA.num.1 rfl _
  exact ⟨es, clock, hrun, ⟨T2.fresh, P.mine, PA.head.turn P.mine T2 (fun h => by cases h), still_turn T2 (fun h => by cases h) PA.ar, PA.rows.turn T2 (fun h => by cases h) (fun h => by cases h), PA.undo.turn T2 (fun h => by cases h) (fun h => by cases h), hN, PA.of.turn T2 (fun h => by cases h) (fun k h => by cases h), PA.wh.turn T2 (fun h => by cases h) (fun k h => by cases h), PA.lows.turn T2 (fun h => by cases h)⟩, (Turn.of_below hbA P.fresh).trans (T2.mono fun r h => by subst h; intro h; cases h)⟩

theorem PartsAt.popOf (P : PartsAt s sb ar rR bs rU rN LO LW births mN mO mW ls h τ w) {p : Int} (hp : Rng p) {n : Nat} (hn : (LO (.int .i64 p)).length = n + 1) :
    ∃ g cap, n + 1 ≤ cap ∧ (∀ W : World, Below w.heap.size w W → (Instr.lookup 105 (.map (some h.bO)) (.int .i64 p) false).run Try.prog W = .ok (.slice (some ⟨g, 0, none⟩) (n + 1) cap) W) ∧
      ∀ wA : World, Below w.heap.size w wA → ∃ es clock, (Instr.mapUpdate 105 (.map (some h.bO)) (.int .i64 p) (.slice (some ⟨g, 0, none⟩) n cap)).run Try.prog wA = .ok () (setBlock wA h.bO (.map es clock)) ∧
        PartsAt s sb ar rR bs rU rN (popL LO (.int .i64 p)) LW births mN mO mW ls h τ (setBlock wA h.bO (.map es clock)) ∧ Turn s Moves τ τ w (setBlock wA h.bO (.map es clock)) := by
  obtain ⟨g, cap, hcap, hlook, _, hput⟩ := P.of.pop (fun k h => by cases h) intLaw Try.underlying105 (.int .i64 p) (intKey_of hp) hn
  have hbO : h.bO < w.heap.size := by obtain ⟨_, f, hm, _⟩ := P.of; exact hm.lt
  refine ⟨g, cap, hcap, fun W hW => hlook W (hW.block _ hbO), fun wA hbA => ?_⟩
  have PA := P.stay hbA
  obtain ⟨es, clock, hrun, hL, _⟩ := hput wA (fun j hj => hbA.block j hj)
  have T2 : Turn s (fun r => r = .of) τ τ wA (setBlock wA h.bO (.map es clock)) := Turn.setMap (R := fun r => r = .of) PA.fresh PA.of.1 rfl _
  exact ⟨es, clock, hrun, ⟨T2.fresh, P.mine, PA.head.turn P.mine T2 (fun h => by cases h), still_turn T2 (fun h => by cases h) PA.ar, PA.rows.turn T2 (fun h => by cases h) (fun h => by cases h), PA.undo.turn T2 (fun h => by cases h) (fun h => by cases h), PA.num.turn T2 (fun h => by cases h), hL, PA.wh.turn T2 (fun h => by cases h) (fun k h => by cases h), PA.lows.turn T2 (fun h => by cases h)⟩, (Turn.of_below hbA P.fresh).trans (T2.mono fun r h => by subst h; intro h; cases h)⟩

theorem PartsAt.popWh (P : PartsAt s sb ar rR bs rU rN LO LW births mN mO mW ls h τ w) {p i x : Int} (hp : Rng p) (hi : Rng i) (hx : Rng x) {n : Nat} (hn : (LW (placeV p i x)).length = n + 1) :
    ∃ g cap, n + 1 ≤ cap ∧ (∀ W : World, Below w.heap.size w W → (Instr.lookup 106 (.map (some h.bW)) (placeV p i x) false).run Try.prog W = .ok (.slice (some ⟨g, 0, none⟩) (n + 1) cap) W) ∧
      ∀ wA : World, Below w.heap.size w wA → ∃ es clock, (Instr.mapUpdate 106 (.map (some h.bW)) (placeV p i x) (.slice (some ⟨g, 0, none⟩) n cap)).run Try.prog wA = .ok () (setBlock wA h.bW (.map es clock)) ∧
        PartsAt s sb ar rR bs rU rN LO (popL LW (placeV p i x)) births mN mO mW ls h τ (setBlock wA h.bW (.map es clock)) ∧ Turn s Moves τ τ w (setBlock wA h.bW (.map es clock)) ∧
        (∀ W : World, Below (setBlock wA h.bW (.map es clock)).heap.size (setBlock wA h.bW (.map es clock)) W → (Instr.lookup 106 (.map (some h.bW)) (placeV p i x) false).run Try.prog W = .ok (.slice (some ⟨g, 0, none⟩) n cap) W) := by
  obtain ⟨g, cap, hcap, hlook, _, hput⟩ := P.wh.pop (fun k h => by cases h) (Keyed.of_law placeLaw) Try.underlying106 (placeV p i x) (placeKey_of hp hi hx) hn
  have hbW : h.bW < w.heap.size := by obtain ⟨_, f, hm, _⟩ := P.wh; exact hm.lt
  refine ⟨g, cap, hcap, fun W hW => hlook W (hW.block _ hbW), fun wA hbA => ?_⟩
  have PA := P.stay hbA
  obtain ⟨es, clock, hrun, hL, hlater⟩ := hput wA (fun j hj => hbA.block j hj)
  have T2 : Turn s (fun r => r = .wh) τ τ wA (setBlock wA h.bW (.map es clock)) := Turn.setMap (R := fun r => r = .wh) PA.fresh PA.wh.1 rfl _
  have hbWA := Nat.lt_of_lt_of_le hbW hbA.size
  exact ⟨es, clock, hrun, ⟨T2.fresh, P.mine, PA.head.turn P.mine T2 (fun h => by cases h), still_turn T2 (fun h => by cases h) PA.ar, PA.rows.turn T2 (fun h => by cases h) (fun h => by cases h), PA.undo.turn T2 (fun h => by cases h) (fun h => by cases h), PA.num.turn T2 (fun h => by cases h), PA.of.turn T2 (fun h => by cases h) (fun k h => by cases h), hL, PA.lows.turn T2 (fun h => by cases h)⟩, (Turn.of_below hbA P.fresh).trans (T2.mono fun r h => by subst h; intro h; cases h), fun W hW => hlater W ((hW.block _ (by simpa [setBlock] using hbWA)).trans (setBlock_same hbWA))⟩

theorem PartsAt.goneWh (P : PartsAt s sb ar rR bs rU rN LO LW births mN mO mW ls h τ w) {p i x : Int} (hp : Rng p) (hi : Rng i) (hx : Rng x) (hn : LW (placeV p i x) = []) (ty : TypeId) {wA : World} (hbA : Below w.heap.size w wA) :
    ∃ es clock, (Builtin.delete_ #[106, 138] ty #[.map (some h.bW), placeV p i x]).run Try.prog wA = .ok (.tuple #[]) (setBlock wA h.bW (.map es clock)) ∧
        PartsAt s sb ar rR bs rU rN LO LW births mN mO mW ls h τ (setBlock wA h.bW (.map es clock)) ∧ Turn s Moves τ τ w (setBlock wA h.bW (.map es clock)) := by
  have PA := P.stay hbA
  obtain ⟨es, clock, hrun, hL⟩ := P.wh.gone (fun k h => by cases h) (Keyed.of_law placeLaw) Try.underlying106 (placeV p i x) (placeKey_of hp hi hx) hn ty (W := wA) (fun j hj => hbA.block j hj)
  have T2 : Turn s (fun r => r = .wh) τ τ wA (setBlock wA h.bW (.map es clock)) := Turn.setMap (R := fun r => r = .wh) PA.fresh PA.wh.1 rfl _
  exact ⟨es, clock, hrun, ⟨T2.fresh, P.mine, PA.head.turn P.mine T2 (fun h => by cases h), still_turn T2 (fun h => by cases h) PA.ar, PA.rows.turn T2 (fun h => by cases h) (fun h => by cases h), PA.undo.turn T2 (fun h => by cases h) (fun h => by cases h), PA.num.turn T2 (fun h => by cases h), PA.of.turn T2 (fun h => by cases h) (fun k h => by cases h), hL, PA.lows.turn T2 (fun h => by cases h)⟩, (Turn.of_below hbA P.fresh).trans (T2.mono fun r h => by subst h; intro h; cases h)⟩

/-- the rows' slice, but shorter by one -/
theorem PartsAt.popRow {r : Row} {bt : Int} (P : PartsAt s sb ar (rR ++ [r]) (bs ++ [bt]) rU rN LO LW births mN mO mW ls h τ w) (hlen : bs.length = rR.length) :
    ∃ g cap, h.vR = .slice (some ⟨g, 0, none⟩) (rR.length + 1) cap ∧ rR.length + 1 ≤ cap ∧ ∀ wA : World, Below w.heap.size w wA →
      PartsAt s sb ar rR bs rU rN LO LW births mN mO mW ls { h with vR := .slice (some ⟨g, 0, none⟩) rR.length cap } τ (wA.setCell ⟨sb, 1, none⟩ (.slice (some ⟨g, 0, none⟩) rR.length cap)) ∧ Turn s Moves τ τ w (wA.setCell ⟨sb, 1, none⟩ (.slice (some ⟨g, 0, none⟩) rR.length cap)) := by
  obtain ⟨cs, ho, hg, hc⟩ := P.rows
  rw [List.length_append, List.length_singleton] at ho
  obtain ⟨g, cap, hv, hcap, hcut⟩ := owns_cut ho
  have hrows : RowsPart s τ w (.slice (some ⟨g, 0, none⟩) rR.length cap) rR bs := by
    refine ⟨_, hcut rR.length (by omega), fun g' e => by cases e; exact hg g (by rw [hv]; rfl), fun i r1 b1 h1 h2 => ?_⟩
    have hi := (List.getElem?_eq_some_iff.1 h1).1
    obtain ⟨c1, ⟨a, c, c2, hI⟩, c3⟩ := hc i r1 b1 (by rw [List.getElem?_append_left hi]; exact h1) (by rw [List.getElem?_append_left (by omega)]; exact h2)
    exact ⟨by rw [List.getElem?_take_of_lt (by omega)]; exact c1, ⟨a, c, by rw [List.getElem?_take_of_lt (by omega)]; exact c2, hI⟩, by rw [List.getElem?_take_of_lt (by omega)]; exact c3⟩
  refine ⟨g, cap, hv, hcap, fun wA hbA => ?_⟩
  have TA : Turn s (fun _ => False) τ τ w wA := Turn.of_below hbA P.fresh
  have PA := P.stay hbA
  have T3 : Turn s (fun r => r = .head) τ τ wA (wA.setCell ⟨sb, 1, none⟩ (.slice (some ⟨g, 0, none⟩) rR.length cap)) := Turn.setCell (R := fun r => r = .head) PA.fresh (a := ⟨sb, 1, none⟩) P.mine rfl _
  exact ⟨⟨T3.fresh, P.mine, PA.head.setR _, still_turn T3 (fun h => by cases h) PA.ar, (hrows.turn TA (fun h => h) (fun h => h)).turn T3 (fun h => by cases h) (fun h => by cases h), PA.undo.turn T3 (fun h => by cases h) (fun h => by cases h), PA.num.turn T3 (fun h => by cases h), PA.of.turn T3 (fun h => by cases h) (fun k h => by cases h), PA.wh.turn T3 (fun h => by cases h) (fun k h => by cases h), PA.lows.turn T3 (fun h => by cases h)⟩, (TA.mono (fun r h => h.elim)).trans (T3.mono fun r h => by subst h; intro h; cases h)⟩

/-- the list of what takes out, but shorter -/
theorem PartsAt.cutUndo (P : PartsAt s sb ar rR bs rU rN LO LW births mN mO mW ls h τ w) {n : Nat} (hn : n ≤ rU.length) :
    ∃ v, (h.vU = .slice none 0 0 ∧ rU.length = 0 ∧ v = .slice none 0 0 ∨ ∃ g cap, h.vU = .slice (some ⟨g, 0, none⟩) rU.length cap ∧ rU.length ≤ cap ∧ v = .slice (some ⟨g, 0, none⟩) n cap) ∧ ∀ wA : World, Below w.heap.size w wA →
      PartsAt s sb ar rR bs (rU.take n) rN LO LW births mN mO mW ls { h with vU := v } τ (wA.setCell ⟨sb, 2, none⟩ v) ∧ Turn s Moves τ τ w (wA.setCell ⟨sb, 2, none⟩ v) := by
  obtain ⟨fs, ho, hg, hc⟩ := P.undo
  have hl : (rU.take n).length = n := by simp; omega
  have key : ∃ v, (h.vU = .slice none 0 0 ∧ rU.length = 0 ∧ v = .slice none 0 0 ∨ ∃ g cap, h.vU = .slice (some ⟨g, 0, none⟩) rU.length cap ∧ rU.length ≤ cap ∧ v = .slice (some ⟨g, 0, none⟩) n cap) ∧ UndoPart s sb τ w v (rU.take n) := by
    obtain ⟨hl0, hh | ⟨g, cap, cur, hv, h1, h2, h3, h4, h5, h6⟩⟩ := ho
    · have hn0 : n = 0 := by omega
      subst hn0
      refine ⟨_, .inl ⟨hh.1, hh.2, rfl⟩, ?_⟩
      refine ⟨[], ?_, fun g e => ?_, fun i r hr => ?_⟩
      · rw [hl]; exact World.ownsRow_nil _ _ _ _
      · cases e
      · simp at hr
    · refine ⟨_, .inr ⟨g, cap, hv, h3, rfl⟩, ?_⟩
      refine ⟨fs.take (n * 1), ?_, fun g' e => ?_, fun i r hr => ?_⟩
      · rw [hl]
        refine ⟨?_, .inr ⟨g, cap, cur, rfl, h1, h2, by omega, h4, h5, ?_⟩⟩
        · rw [List.length_take, hl0]
          omega
        · rw [← h6, List.take_take]
          congr 1
          omega
      · cases e
        exact hg g (by rw [hv]; rfl)
      · have hi := (List.getElem?_eq_some_iff.1 hr).1
        rw [hl] at hi
        rw [List.getElem?_take_of_lt hi] at hr
        obtain ⟨u, hu, hU⟩ := hc i r hr
        exact ⟨u, by rw [List.getElem?_take_of_lt (by omega)]; exact hu, hU⟩
  obtain ⟨v, hv, hundo⟩ := key
  refine ⟨v, hv, fun wA hbA => ?_⟩
  have TA : Turn s (fun _ => False) τ τ w wA := Turn.of_below hbA P.fresh
  have PA := P.stay hbA
  have T3 : Turn s (fun r => r = .head) τ τ wA (wA.setCell ⟨sb, 2, none⟩ v) := Turn.setCell (R := fun r => r = .head) PA.fresh (a := ⟨sb, 2, none⟩) P.mine rfl _
  exact ⟨⟨T3.fresh, P.mine, PA.head.setU _, still_turn T3 (fun h => by cases h) PA.ar, PA.rows.turn T3 (fun h => by cases h) (fun h => by cases h), (hundo.turn TA (fun h => h) (fun h => h)).turn T3 (fun h => by cases h) (fun h => by cases h), PA.num.turn T3 (fun h => by cases h), PA.of.turn T3 (fun h => by cases h) (fun k h => by cases h), PA.wh.turn T3 (fun h => by cases h) (fun k h => by cases h), PA.lows.turn T3 (fun h => by cases h)⟩, (TA.mono (fun r h => h.elim)).trans (T3.mono fun r h => by subst h; intro h; cases h)⟩
end
end Go.Proofs.Ytkejjiohkhlnnaa
