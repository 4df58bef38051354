/-
  Maps by their entries, over whatever program: a block that is a map answers as a function on keys does; looking up, storing, dropping, and an entry that is made first and filled later.
-/
import Derived.WalkKit
import Derived.Maps.Own
import Derived.Maps.OwnSet
import Derived.WideKeyEntry
import Derived.WideKeyArr2
namespace Go.Proofs.Ytkejjiohkhlnnaa
open Go.RowKit
open Go.Maps (Keyed)
open Go.ChangeMaps Go.MapKept Go.WideElems
open Classical

/-- block b is a map of at most n entries; at each key it holds what f says -/
def MapIs (P : Program) (k : TypeId) (w : World) (b n : Nat) (f : Value → Option Value) : Prop :=
  ∃ es clock, w.heap[b]? = some (.map es clock) ∧ Stamped es clock ∧ (∀ x ∈ es.toList, ∃ l, keyOf P k x.key = some l) ∧ es.size ≤ n ∧ ∀ key v, f key = some v ↔ ∃ x ∈ es.toList, x.key = key ∧ x.val = v

/-- f, but v at the key -/
noncomputable def upd (f : Value → Option Value) (key : Value) (v : Option Value) : Value → Option Value := fun k => if k = key then v else f k
theorem upd_same (f : Value → Option Value) (key : Value) (v : Option Value) : upd f key v key = v := by simp [upd]
theorem upd_ne (f : Value → Option Value) {key k : Value} (v : Option Value) (h : k ≠ key) : upd f key v k = f k := by simp [upd, h]

section
variable {P : Program} {k e t : TypeId} {w w' : World} {b n : Nat} {f : Value → Option Value}

theorem MapIs.lt (h : MapIs P k w b n f) : b < w.heap.size := by
  obtain ⟨es, clock, hb, _⟩ := h
  exact (Array.getElem?_eq_some_iff.1 hb).1
theorem MapIs.kept (h : MapIs P k w b n f) (hb : w'.heap[b]? = w.heap[b]?) : MapIs P k w' b n f := by
  obtain ⟨es, clock, h1, h2⟩ := h
  exact ⟨es, clock, hb.trans h1, h2⟩
theorem MapIs.mono (h : MapIs P k w b n f) {m : Nat} (hm : n ≤ m) : MapIs P k w b m f := by
  obtain ⟨es, clock, h1, h2, h3, h4, h5⟩ := h
  exact ⟨es, clock, h1, h2, h3, Nat.le_trans h4 hm, h5⟩
theorem MapIs.made (P : Program) (k : TypeId) (w : World) : MapIs P k (w.alloc (.map #[] 0)) w.heap.size 0 (fun _ => none) :=
  ⟨#[], 0, (heap_alloc w _).1, stamped_empty 0, by simp, Nat.le_refl _, by simp⟩

/-- 'm[k]' and 'v, ok := m[k]' -/
theorem MapIs.look (h : MapIs P k w b n f) (K : Keyed P k) (ht : P.underlying t = some (.map k e)) {z : Value} (hz : (zeroValue e).run P w = .ok z w) {key : Value} {kl : Lit} (hkey : keyOf P k key = some kl) (c : Bool) :
    (Instr.lookup t (.map (some b)) key c).run P w = .ok (if c then .tuple #[(f key).getD z, .bool (f key).isSome] else (f key).getD z) w := by
  obtain ⟨es, clock, hb, _, hks, _, hf⟩ := h
  rcases K.find w hkey es.toList hks with ⟨h1, h2⟩ | ⟨j, e0, h1, h2, h3⟩
  · have hn : f key = none := by
      cases hfk : f key with
      | none => rfl
      | some v =>
        obtain ⟨x, hx, hxk, _⟩ := (hf key v).1 hfk
        exact absurd hxk (h2 x hx)
    rw [hn]
    simp [Instr.lookup, run_underlying ht, MapKept.run_getObj_map hb, K.check w _ hkey, h1, hz, Result.andThen]
  · have hn : f key = some e0.val := (hf key e0.val).2 ⟨e0, List.mem_of_getElem? h2, h3, rfl⟩
    rw [hn]
    simp [Instr.lookup, run_underlying ht, MapKept.run_getObj_map hb, K.check w _ hkey, h1, Result.andThen]

theorem nodup_at {l : List MapEntry} (h : (l.map (·.key)).Nodup) {i j : Nat} {x y : MapEntry} (hx : l[i]? = some x) (hy : l[j]? = some y) (hk : x.key = y.key) : i = j := by
  have hi := (List.getElem?_eq_some_iff.1 hx).1
  have hj := (List.getElem?_eq_some_iff.1 hy).1
  have e1 : (l.map (·.key))[i]? = some x.key := by simp [hx]
  have e2 : (l.map (·.key))[j]? = some x.key := by simp [hy, hk]
  exact (List.getElem?_inj (by simpa using hi) h).1 (e1.trans e2.symm)

/-- 'm[k] = v' -/
theorem MapIs.update (h : MapIs P k w b n f) (K : Keyed P k) (ht : P.underlying t = some (.map k e)) {key : Value} {kl : Lit} (hkey : keyOf P k key = some kl) (val : Value) :
    ∃ es clock, (Instr.mapUpdate t (.map (some b)) key val).run P w = .ok () (setBlock w b (.map es clock)) ∧ MapIs P k (setBlock w b (.map es clock)) b (n + 1) (upd f key (some val)) := by
  obtain ⟨es, clock, hb, hst, hks, hs, hf⟩ := h
  rcases K.find w hkey es.toList hks with ⟨h1, h2⟩ | ⟨j, e0, h1, h2, h3⟩
  · refine ⟨es.push ⟨key, val, clock⟩, clock + 1, ?_, es.push ⟨key, val, clock⟩, clock + 1, heap_setBlock_same hb _, stamped_push hst h2, ?_, by simp; omega, ?_⟩
    · simp [Instr.mapUpdate, run_underlying ht, MapKept.run_getObj_map hb, K.check w false hkey, h1, MapKept.run_setObj_map _ hb, Result.andThen, setBlock]
    · intro x hx
      simp only [Array.toList_push, List.mem_append, List.mem_singleton] at hx
      rcases hx with hx | rfl
      · exact hks x hx
      · exact ⟨_, hkey⟩
    · intro key' v
      simp only [Array.toList_push, List.mem_append, List.mem_singleton, upd]
      split
      · rename_i hk
        subst hk
        constructor
        · intro hv
          exact ⟨_, .inr rfl, rfl, by simpa using hv⟩
        · rintro ⟨x, hx | rfl, hxk, hxv⟩
          · exact absurd hxk (h2 x hx)
          · simpa using hxv
      · rename_i hk
        rw [hf]
        constructor
        · rintro ⟨x, hx, hxk, hxv⟩
          exact ⟨x, .inl hx, hxk, hxv⟩
        · rintro ⟨x, hx | rfl, hxk, hxv⟩
          · exact ⟨x, hx, hxk, hxv⟩
          · exact absurd hxk.symm hk
  · have hj : es[j]? = some e0 := by simpa using h2
    have hkeyf : ∀ e', es[j]? = some e' → ({ e' with key := key, val := val } : MapEntry).key = e'.key := fun e' he' => by rw [hj] at he'; cases he'; exact h3.symm
    have hlist : (es.modify j (fun e' => { e' with key := key, val := val })).toList = es.toList.set j { e0 with key := key, val := val } := by rw [Array.toList_modify, modify_eq_set _ _ _ _ h2]
    have hjl : j < es.toList.length := (List.getElem?_eq_some_iff.1 h2).1
    have hmem : ∀ x, x ∈ es.toList.set j { e0 with key := key, val := val } ↔ x = { e0 with key := key, val := val } ∨ (x ∈ es.toList ∧ x.key ≠ key) := by
      intro x
      constructor
      · intro hx
        obtain ⟨i, hi, ex⟩ := List.getElem_of_mem hx
        rw [List.getElem_set] at ex
        split at ex
        · exact Or.inl ex.symm
        · rename_i hne
          have hi' : i < es.toList.length := by simpa using hi
          refine Or.inr ⟨ex ▸ List.getElem_mem hi', fun hk => hne ?_⟩
          exact nodup_at hst.2.2 h2 (List.getElem?_eq_getElem hi') (by rw [ex, hk, h3])
      · rintro (rfl | ⟨hx, hk⟩)
        · exact List.mem_iff_getElem?.2 ⟨j, List.getElem?_set_self hjl⟩
        · obtain ⟨i, hi, ex⟩ := List.getElem_of_mem hx
          refine List.mem_iff_getElem?.2 ⟨i, ?_⟩
          have hij : j ≠ i := by
            rintro rfl
            rw [List.getElem?_eq_getElem hi, Option.some.injEq] at h2
            exact hk (by rw [← ex, h2, h3])
          rw [List.getElem?_set_ne hij, List.getElem?_eq_getElem hi, ex]
    refine ⟨es.modify j (fun e' => { e' with key := key, val := val }), clock, ?_, _, _, heap_setBlock_same hb _, stamped_modify hst _ _ (fun _ _ => rfl) (fun e' _ he' => hkeyf e' he'), ?_, by simp; omega, ?_⟩
    · simp [Instr.mapUpdate, run_underlying ht, MapKept.run_getObj_map hb, K.check w false hkey, h1, hj, h3, K.stays w hkey, MapKept.run_setObj_map _ hb, Result.andThen, setBlock]
    · intro x hx
      rw [hlist, hmem] at hx
      rcases hx with rfl | ⟨hx, _⟩
      · exact ⟨_, hkey⟩
      · exact hks x hx
    · intro key' v
      rw [hlist]
      simp only [upd, hmem]
      split
      · rename_i hk
        subst hk
        constructor
        · intro hv
          exact ⟨_, .inl rfl, rfl, by simpa using hv⟩
        · rintro ⟨x, rfl | ⟨_, hx⟩, hxk, hxv⟩
          · simpa using hxv
          · exact absurd hxk hx
      · rename_i hk
        rw [hf]
        constructor
        · rintro ⟨x, hx, hxk, hxv⟩
          exact ⟨x, .inr ⟨hx, by rw [hxk]; exact hk⟩, hxk, hxv⟩
        · rintro ⟨x, rfl | ⟨hx, _⟩, hxk, hxv⟩
          · exact absurd hxk.symm hk
          · exact ⟨x, hx, hxk, hxv⟩

/-- 'delete(m, k)' -/
theorem MapIs.drop (h : MapIs P k w b n f) (K : Keyed P k) (ht : P.underlying t = some (.map k e)) {key : Value} {kl : Lit} (hkey : keyOf P k key = some kl) (ty : TypeId) :
    ∃ es clock, (Builtin.delete_ #[t, k] ty #[.map (some b), key]).run P w = .ok (.tuple #[]) (setBlock w b (.map es clock)) ∧ MapIs P k (setBlock w b (.map es clock)) b n (upd f key none) := by
  obtain ⟨es, clock, hb, hst, hks, hs, hf⟩ := h
  rcases K.find w hkey es.toList hks with ⟨h1, h2⟩ | ⟨j, e0, h1, h2, h3⟩
  · refine ⟨es, clock, ?_, es, clock, heap_setBlock_same hb _, hst, hks, hs, ?_⟩
    · simp [Builtin.delete_, run_underlying ht, MapKept.run_getObj_map hb, K.check w _ hkey, h1, MapKept.run_setObj_map _ hb, Result.andThen, setBlock]
    · intro key' v
      simp only [upd]
      split
      · rename_i hk
        subst hk
        constructor
        · intro hv; cases hv
        · rintro ⟨x, hx, hxk, _⟩
          exact absurd hxk (h2 x hx)
      · exact hf key' v
  · have hj : es[j]? = some e0 := by simpa using h2
    have hjl : j < es.size := (Array.getElem?_eq_some_iff.1 hj).1
    have hlist : (es.eraseIdxIfInBounds j).toList = es.toList.eraseIdx j := by simp [Array.eraseIdxIfInBounds, hjl]
    have hmem : ∀ x, x ∈ es.toList.eraseIdx j ↔ x ∈ es.toList ∧ x.key ≠ key := by
      intro x
      rw [List.mem_eraseIdx_iff_getElem?]
      constructor
      · rintro ⟨i, hne, hi⟩
        refine ⟨List.mem_of_getElem? hi, fun hk => hne ?_⟩
        exact nodup_at hst.2.2 hi h2 (by rw [hk, h3])
      · rintro ⟨hx, hk⟩
        obtain ⟨i, hi, ex⟩ := List.getElem_of_mem hx
        refine ⟨i, ?_, by rw [List.getElem?_eq_getElem hi, ex]⟩
        rintro rfl
        rw [List.getElem?_eq_getElem hi, Option.some.injEq] at h2
        exact hk (by rw [← ex, h2, h3])
    refine ⟨es.eraseIdxIfInBounds j, clock, ?_, _, _, heap_setBlock_same hb _, stamped_erase hst j, ?_, Nat.le_trans (by simp [Array.eraseIdxIfInBounds]; split <;> simp) hs, ?_⟩
    · simp [Builtin.delete_, run_underlying ht, MapKept.run_getObj_map hb, K.check w _ hkey, h1, MapKept.run_setObj_map _ hb, Result.andThen, setBlock]
    · intro x hx
      rw [hlist, hmem] at hx
      exact hks x hx.1
    · intro key' v
      rw [hlist]
      simp only [upd, hmem]
      split
      · rename_i hk
        subst hk
        constructor
        · intro hv; cases hv
        · rintro ⟨x, ⟨_, hx⟩, hxk, _⟩
          exact absurd hxk hx
      · rename_i hk
        rw [hf]
        constructor
        · rintro ⟨x, hx, hxk, hxv⟩
          exact ⟨x, ⟨hx, by rw [hxk]; exact hk⟩, hxk, hxv⟩
        · rintro ⟨x, ⟨hx, _⟩, hxk, hxv⟩
          exact ⟨x, hx, hxk, hxv⟩

/-- 'm[k] op= ..': the entry first, its filling later: together a store into the map as it was -/
theorem MapIs.entry (h : MapIs P k w b n f) (hn : n ≤ maxLen) (K : WideMaps.KeyLaw P k) (ht : P.underlying t = some (.map k e)) {z : Value} (hz : ∀ u : World, (zeroValue e).run P u = .ok z u) {key : Value} {kl : Lit} (hkey : keyOf P k key = some kl) :
    ∃ st es1 clock1, (Instr.mapEntry t (.map (some b)) key).run P w = .ok (.tuple #[(f key).getD z, goInt (st : Nat)]) (setBlock w b (.map es1 clock1)) ∧
      ∀ (w2 : World) (val : Value), w2.heap[b]? = some (.map es1 clock1) → ∃ es' clock', (Instr.entryStore t (.map (some b)) (goInt (st : Nat)) val).run P w2 = .ok () (setBlock w2 b (.map es' clock')) ∧ MapIs P k (setBlock w2 b (.map es' clock')) b (n + 1) (upd f key (some val)) := by
  have h' := h
  obtain ⟨es, clock, hb, hst, hks, hs, hf⟩ := h
  have F : Fit P k (fun _ => some ((.nil : DataW Unit), [])) es clock := ⟨by omega, hst, fun x hx => by
    obtain ⟨l, hl⟩ := hks x hx
    exact ⟨(l, .nil), by simp [WideElems.rd, hl]⟩⟩
  obtain ⟨v0, st, es1, clock1, hrun, hv, hlater⟩ := entry_then_store K ht hz hb F hkey
  have e0 : v0 = (f key).getD z := by
    rcases hv with ⟨e0, he, hk, rfl⟩ | ⟨hno, rfl⟩
    · rw [(hf key e0.val).2 ⟨e0, he, hk, rfl⟩]; rfl
    · have : f key = none := by
        cases hfk : f key with
        | none => rfl
        | some v =>
          obtain ⟨x, hx, hxk, _⟩ := (hf key v).1 hfk
          exact absurd hxk (hno x hx)
      rw [this]; rfl
  subst e0
  refine ⟨st, es1, clock1, hrun, fun w2 val hw2 => ?_⟩
  obtain ⟨es', clock', h1, h2⟩ := hlater w2 val hw2
  obtain ⟨es2, clock2, h3, h4⟩ := h'.update (Keyed.of_law K) ht hkey val
  rw [h2] at h3
  have e2 : setBlock w b (.map es' clock') = setBlock w b (.map es2 clock2) := by
    simpa using h3
  rw [← e2] at h4
  refine ⟨es', clock', h1, ?_⟩
  exact h4.kept (by rw [heap_setBlock_same hw2, heap_setBlock_same hb])
end

/-- an array of ints is a key -/
theorem mapM_ints {P : Program} {e : TypeId} {q : IntKind} (he : P.underlying e = some (.int q)) (D : Nat) (xs : List Int) (hx : ∀ x ∈ xs, (Lit.int q x).wf = true) : ∀ L : List Nat, (∀ i ∈ L, i < xs.length) →
    ∃ ls, L.mapM (fun i => P.keyLits (D + 1) e (((xs.map (Value.int q)).drop (i * 1)).take 1)) = some ls
  | [], _ => ⟨[], rfl⟩
  | i :: L, h => by
    obtain ⟨ls, hl⟩ := mapM_ints he D xs hx L (fun j hj => h j (List.mem_cons_of_mem _ hj))
    have hi := h i (List.mem_cons_self ..)
    have e1 : ((xs.map (Value.int q)).drop (i * 1)).take 1 = [Value.int q xs[i]] := by
      rw [Nat.mul_one, List.drop_eq_getElem_cons (by simpa using hi)]
      simp
    refine ⟨[Lit.int q xs[i]] :: ls, ?_⟩
    rw [List.mapM_cons, hl, e1]
    simp [Program.keyLits, he, hx _ (List.getElem_mem hi)]
theorem key_ints {P : Program} {k e : TypeId} {n : Nat} {q : IntKind} (A : WideMaps.ArrKey P k e n) (he : P.underlying e = some (.int q)) (hsz : ∃ m, P.types.size = m + 1) (hc : P.cellsOf e = 1) (xs : List Int) (hn : xs.length = n) (hx : ∀ x ∈ xs, (Lit.int q x).wf = true) :
    ∃ l, keyOf P k (.agg (xs.map (Value.int q)).toArray) = some l := by
  have hkt := A.keyType hsz
  obtain ⟨m0, hm0⟩ := hsz
  obtain ⟨ls, hl⟩ := mapM_ints he m0 xs hx (List.range n) (by simp [hn])
  refine ⟨.string (keyBytes ls.flatten), ?_⟩
  unfold keyOf
  simp only [A.hu]
  rw [if_pos (by simp [hkt, Value.formed, A.hu, A.size, hn]), hm0]
  unfold Program.keyLits
  simp only [A.hu, Value.cells, hc]
  rw [if_pos (by rw [A.size]; simpa using hn), hl]
  rfl
end Go.Proofs.Ytkejjiohkhlnnaa
