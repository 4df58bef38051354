/-
  The evaluator's operations on memory are sound (2): append, copy, build of slices.
-/
import Derived.Test.YtdgpdmbfhehpfaaGreatDoorEvH
import Derived.Laws.Append
set_option linter.all false
namespace Go.Proofs.YtdgpdmbfhehpfaaGreatDoor.Ev
open Go.RowKit

variable {gs : Prm} {P : Program} {N0 : Nat} {ρ : Env} {h h' : Heap} {w : World} {nb : Nat}

theorem buildSlice_ok {a : Act} {o : Oper} {ts : List AVal} (hG : GOk gs ρ) (hts : VRels ρ ts a.tmps.toList) {t len : Nat} {parts : Array (Nat × Operand)} (ho : o.op = .buildSlice t len parts) (H : Holds P N0 ρ h w) (hnb : nb < h.next) (hf : ρ nb = none) {n : ANext}
    (hr : buildSliceA P gs ts h nb t len parts = some (n, h')) : Good P N0 (· ≠ nb) ρ w h' n ((execOp a.eval o).run P w) := by
  unfold buildSliceA at hr
  split at hr
  · rename_i e hu
    simp only [Option.bind_eq_some_iff] at hr
    obtain ⟨s, hs, hr⟩ := hr
    split at hr
    · rename_i hb
      have hb := Nat.le_of_ble_eq_true hb
      simp only [Option.bind_eq_some_iff] at hr
      obtain ⟨z, hz, ps, hps, cs, hcs, hr⟩ := hr
      cases hr
      obtain ⟨i, Z, us, hi, hZ, hzc, hus, h0, hrel, _⟩ := zeroCells_ok (ρ := ρ) hz
      simp only [tsize, hi, Option.map_some, Option.some.injEq] at hs
      subst hs
      obtain ⟨p1, p2⟩ := parts_ok hG hts hps
      obtain ⟨us', h1, h2⟩ := fill_ok hrel p1 p2 hcs
      obtain ⟨ρ', H', M, hB, hB0⟩ := H.row hnb hf h2 e
      refine ⟨.value (.slice (some ⟨w.heap.size, 0, none⟩) len len), _, ρ', ?_, M, H', _, rfl, .sliceE0 hB hB0⟩
      have hle : ¬ (16777216 < len * i.size) := by omega
      have hpl : (parts.map fun (i, x) => (i, a.eval x)).toList = parts.toList.map fun x => (x.1, a.eval x.2) := by simp
      have hzv : (zeroValue e).run P w = .ok Z w := by simp [zeroValue, typeInfo, hi, hZ]
      have hszr : (sizeOf e).run P w = .ok i.size w := by simp [sizeOf, typeInfo, hi]
      have hm : ∀ zc : Array Value, (len * i.size ≠ 0 → zc = ⟨us⟩) → (Array.range (len * i.size)).map (fun x => zc[x % zc.size]!) = ⟨repsV len us⟩ := fun zc hzc' => by
        by_cases hl0 : len * i.size = 0
        · have hlen : len = 0 := by
            rcases Nat.mul_eq_zero.1 hl0 with h | h
            · exact h
            · omega
          subst hlen
          rw [hl0]; simp [repsV]
        · rw [hzc' hl0]
          have := made_reps us (by omega) len
          simp only [madeCells, hus] at this
          exact this
      have hrun : (Instr.buildSlice t len (parts.map fun (i, x) => (i, a.eval x))).run P w = .ok (.slice (some ⟨w.heap.size, 0, none⟩) len len) (w.alloc (.cells ⟨us'⟩ e)) := by
        simp only [Instr.buildSlice, Sem.run_bind, run_underlying hu, hszr, Result.andThen_ok]
        rw [if_neg (by omega)]
        by_cases hl0 : len * i.size = 0
        · simp only [hl0, if_true, Sem.run_pure, Sem.run_bind, Result.andThen_ok]
          have := hm #[] (fun h => absurd hl0 h)
          rw [hl0] at this
          rw [this, hpl, h1]
          rfl
        · simp only [hl0, if_false, Sem.run_pure, Sem.run_bind, Result.andThen_ok, hzv]
          rw [hm Z.cells (fun _ => hzc), hpl, h1]
          rfl
      simp only [execOp, ho, Sem.run_bind, hrun, Result.andThen_ok, Sem.run_pure]
    · cases hr
  · cases hr

theorem first_ok (H : Holds P N0 ρ h w) {size n : Nat} {x : AVal} {X : Value} (hX : VRel ρ x X) {cs : List AVal} (hr : firstCells h size n x = some cs) :
    ∃ us : List Value, (Builtin.firstCells size n X).run P w = .ok ⟨us⟩ w ∧ VRels ρ cs us := by
  unfold firstCells at hr
  split at hr
  · rename_i b o l c
    have key : ∀ B c' cap, ρ b = some (B, c') → ∃ us : List Value, (Builtin.firstCells size n (.slice (some ⟨B, ρ.β b + o, none⟩) l cap)).run P w = .ok ⟨us⟩ w ∧ VRels ρ cs us := fun B c' cap hB => by
      obtain ⟨us, hl, hu, hc⟩ := rds_ok H hr hB
      exact ⟨us, by have := run_firstCells_some (P := P) w size n ⟨B, ρ.β b + o, none⟩ l cap us hl hc; simpa using this, hu⟩
    cases hX with
    | sliceE hB => exact key _ _ _ hB
    | sliceR hB _ => exact key _ _ _ hB
  · split at hr
    · rename_i hn
      have hn := Nat.eq_of_beq_eq_true hn
      cases hr; cases hX
      exact ⟨[], run_firstCells_none (P := P) w size n 0 0, .nil⟩
    · cases hr
  · rename_i s
    split at hr
    · rename_i hs
      have hs := Nat.eq_of_beq_eq_true hs
      cases hr; cases hX
      refine ⟨(s.data.toList.map fun b => Value.int .u8 b.toNat).take n, ?_, ?_⟩
      · have : (s.extract 0 n).data.map (fun b => Value.int .u8 b.toNat) = ⟨(s.data.toList.map fun b => Value.int .u8 b.toNat).take n⟩ := by
          apply Array.ext'
          simp [ByteArray.data_extract, List.extract_eq_take_drop]
        simp only [Builtin.firstCells, this, Sem.run_pure]
      · have : ∀ l : List UInt8, VRels ρ (u8s l) (l.map fun b => Value.int .u8 b.toNat) := fun l => by
          induction l with
          | nil => exact .nil
          | cons b l ih => exact .cons (.int _ _) ih
        exact (this _).take n
    · cases hr
  · cases hr

theorem len_of {x : AVal} {X : Value} (hX : VRel ρ x X) {n : Nat} (hl : lenA x = some n) (hx : (∃ s, x = .str s) ∨ (∃ b o m c, x = .slice b o m c) ∨ x = .nils) (w : World) : (Builtin.lenOf X).run P w = .ok n w := by
  rcases hx with ⟨s, rfl⟩ | ⟨b, o, m, c, rfl⟩ | rfl
  · cases hX; simp [lenA] at hl; subst hl; rfl
  · simp [lenA] at hl; subst hl; cases hX <;> rfl
  · cases hX; simp [lenA] at hl; subst hl; rfl

theorem first_kind {size n : Nat} {x : AVal} {cs : List AVal} (hr : firstCells h size n x = some cs) : (∃ s, x = .str s) ∨ (∃ b o m c, x = .slice b o m c) ∨ x = .nils := by
  unfold firstCells at hr
  split at hr
  · exact .inr (.inl ⟨_, _, _, _, rfl⟩)
  · exact .inr (.inr rfl)
  · exact .inl ⟨_, rfl⟩
  · cases hr

/-- what append does first -/
theorem noMake_ok {ts : Array TypeId} (hn : noMake P ts = true) : ∃ xt, ts[1]? = some xt ∧ ((∃ e, P.underlying xt = some (.slice e)) ∨ P.underlying xt = some .string) := by
  unfold noMake at hn
  split at hn
  · rename_i xt hxt
    split at hn
    · rename_i e hu; exact ⟨xt, hxt, .inl ⟨e, hu⟩⟩
    · rename_i hu; exact ⟨xt, hxt, .inr hu⟩
    · cases hn
  · cases hn

/-- append with room enough: written behind -/
theorem append_in {ts : Array TypeId} {st e : TypeId} {ty : TypeId} (hst : ts[0]? = some st) (hu : P.underlying st = some (.slice e)) (hn : noMake P ts = true) {size n len cap : Nat} {base : Option Addr} {X : Value} (hs : tsize P e = some size)
    (hl : ∀ w, (Builtin.lenOf X).run P w = .ok n w) {us : List Value} (hf : (Builtin.firstCells size n X).run P w = .ok ⟨us⟩ w) (hroom : len + n ≤ cap) {w' : World}
    (hst' : match base with | some a => (storeCells (a.add (len * size)) us).run P w = .ok () w' | none => w' = w) :
    (Builtin.append_ ts ty #[.slice base len cap, X]).run P w = .ok (.slice base (len + n) cap) w' := by
  obtain ⟨xt, hxt, hd⟩ := noMake_ok hn
  cases base with
  | none =>
    simp only at hst'
    subst hst'
    rcases hd with ⟨e', hd⟩ | hd <;> simp [Builtin.append_, hst, run_underlying hu, size_run hs, hxt, run_underlying hd, hl, hroom, hf]
  | some a =>
    simp only at hst'
    rcases hd with ⟨e', hd⟩ | hd <;> simp [Builtin.append_, hst, run_underlying hu, size_run hs, hxt, run_underlying hd, hl, hroom, hf, hst']

/-- append without room: a new row -/
theorem append_new {ts : Array TypeId} {st e : TypeId} {ty : TypeId} (hst : ts[0]? = some st) (hu : P.underlying st = some (.slice e)) (hn : noMake P ts = true) {n len cap : Nat} {base : Option Addr} {X : Value} {i : TypeInfo} {z : Value}
    (hi : P.info? e = some i) (hz : i.zero = some z) (hl : ∀ w, (Builtin.lenOf X).run P w = .ok n w) {us os : List Value} (hf : (Builtin.firstCells i.size n X).run P w.drew = .ok ⟨us⟩ w.drew)
    (ho : (Builtin.firstCells i.size len (.slice base len cap)).run P w.drew = .ok ⟨os⟩ w.drew) (hroom : ¬ len + n ≤ cap) (hb : (len + n) * i.bytes ≤ 1048576) (hm : len + n ≤ 1048576) :
    ∃ nc, len + n ≤ nc ∧ (Builtin.append_ ts ty #[.slice base len cap, X]).run P w = .ok (.slice (some ⟨w.heap.size, 0, none⟩) (len + n) nc) (w.drew.alloc (.cells ⟨os ++ us ++ (Builtin.zeroCells z.cells (nc - (len + n))).toList⟩ e)) := by
  obtain ⟨xt, hxt, hd⟩ := noMake_ok hn
  refine ⟨grownCap w (len + n) cap e, ?_, ?_⟩
  · simp only [grownCap, Question.cut]; omega
  · have h1 : ¬ ((9223372036854775807 : Int) < ((len + n : Nat) : Int) ∧ i.bytes = 0) := by omega
    have h2 : ¬ (281474976710656 < Builtin.nextslicecap (len + n) cap * i.bytes) := by
      have := growslice_fits (need := len + n) (old := cap) (bytes := i.bytes) (by omega) (by omega)
      omega
    have hsz : (sizeOf e).run P w = .ok i.size w := by simp [sizeOf, typeInfo, hi]
    have hti : ∀ w, (typeInfo e).run P w = .ok i w := fun w => by simp [typeInfo, hi]
    have hzv : ∀ w, (zeroValue e).run P w = .ok z w := fun w => by simp [zeroValue, typeInfo, hi, hz]
    have hap : (⟨os⟩ : Array Value) ++ ⟨us⟩ ++ Builtin.zeroCells z.cells (grownCap w (len + n) cap e - (len + n)) = ⟨os ++ us ++ (Builtin.zeroCells z.cells (grownCap w (len + n) cap e - (len + n))).toList⟩ := by
      apply Array.ext'; simp
    rw [← hap]
    have hmax : IntKind.i64.max = 9223372036854775807 := rfl
    have h1' : ¬ ((9223372036854775807 : Int) < (len : Int) + (n : Int) ∧ i.bytes = 0) := by omega
    rcases hd with ⟨e', hd⟩ | hd <;> simp [Builtin.append_, hst, run_underlying hu, hsz, hxt, run_underlying hd, hl, hroom, hti, hmax, h1', h2, Question.forced, hf, ho, hzv, newRow, grownCap] <;> (congr 2; apply Array.ext'; simp)

theorem first_len {size n : Nat} {x : AVal} {cs : List AVal} (hl : lenA x = some n) (hr : firstCells h size n x = some cs) : cs.length = n * size := by
  unfold firstCells at hr
  split at hr
  · unfold rds at hr
    split at hr
    · split at hr
      · rename_i hb
        have hb := Nat.le_of_ble_eq_true hb
        cases hr
        rw [List.length_take, List.length_drop]; omega
      · cases hr
    · cases hr
  · split at hr
    · rename_i hn
      have hn := Nat.eq_of_beq_eq_true hn
      cases hr; subst hn; simp
    · cases hr
  · rename_i s
    split at hr
    · rename_i hs
      have hs := Nat.eq_of_beq_eq_true hs
      cases hr
      simp only [lenA, Option.some.injEq] at hl
      subst hs hl
      have e1 : (u8s s.data.toList).length = s.size := by rw [u8s, List.length_map]; rfl
      rw [List.length_take, e1]; omega
    · cases hr
  · cases hr

/-- a block takes over another one's place -/
theorem Holds.alias (H : Holds P N0 ρ h w) (hnb : nb < h.next) (hf : ρ nb = none) {b B c : Nat} {o o' : AObj} {O : Obj} {w' : World} (hg : h.get b = some o) (ht : o.turns = true) (hB : ρ b = some (B, c)) (hO : ORel P (ρ.upd nb B c) 0 c o' O)
    (h1 : w'.heap[B]? = some O) (h2 : ∀ k, k ≠ B → w'.heap[k]? = w.heap[k]?) (hs : w'.heap.size = w.heap.size) (hos : w'.os = w.os) (htp : w'.tape = w.tape) (hop : w'.output = w.output) :
    Holds P N0 (ρ.upd nb B c) ((h.put b .dead).put nb o') w' ∧ Mov N0 (· ≠ nb) ρ w (ρ.upd nb B c) w' := by
  have hlow := H.low _ _ _ _ hg ht hB
  have h0 : ρ.β nb = 0 := H.flat _ hf
  have hle : ρ.le (ρ.upd nb B c) := Env.le_upd hf
  have hbn : b ≠ nb := fun e => by subst e; rw [hf] at hB; cases hB
  have key : ∀ x B' c', x ≠ nb → (ρ.upd nb B c) x = some (B', c') → ρ x = some (B', c') := fun x B' c' hx e => by simpa [Env.upd, hx] using e
  have get2 : ∀ x ox, ((h.put b .dead).put nb o').get x = some ox → (x = nb ∧ ox = o') ∨ (x ≠ nb ∧ x = b ∧ ox = .dead) ∨ (x ≠ nb ∧ x ≠ b ∧ h.get x = some ox) := fun x ox g => by
    rcases Heap.get_put g with ⟨e1, e2⟩ | ⟨hne, g⟩
    · exact .inl ⟨e1, e2⟩
    · rcases Heap.get_put g with ⟨e1, e2⟩ | ⟨hne2, g⟩
      · exact .inr (.inl ⟨hne, e1, e2⟩)
      · exact .inr (.inr ⟨hne, hne2, g⟩)
  refine ⟨⟨?_, ?_, ?_, ?_, ?_, by rw [hs]; exact H.base, Env.upd_flat h0 H.flat⟩, hle, ⟨hos, htp, hop, by omega, fun k hk => h2 k (by omega)⟩, fun x hx e => by simpa [Env.upd, hx] using e⟩
  · intro x ox g
    rcases get2 x ox g with ⟨rfl, rfl⟩ | ⟨hne, rfl, rfl⟩ | ⟨hne, hne2, g⟩
    · exact ⟨B, c, O, Env.upd_same _ _ _ _, h1, by rw [show (ρ.upd x B c).β x = 0 from h0]; exact hO⟩
    · exact ⟨B, c, O, hle _ _ hB, h1, trivial⟩
    · obtain ⟨B', c', O', e1, e2, e3⟩ := H.obj _ _ g
      by_cases hd : ox.alive = true
      · refine ⟨B', c', O', hle _ _ e1, ?_, e3.mono hle⟩
        rw [h2 _ (fun e => hne2 (H.inj _ _ _ _ _ _ _ hg g ht hd hB (e ▸ e1)).symm), e2]
      · have : ox = .dead := by cases ox <;> simp_all [AObj.alive]
        subst this
        by_cases hk : B' = B
        · subst hk; exact ⟨B', c', O, hle _ _ e1, h1, trivial⟩
        · exact ⟨B', c', O', hle _ _ e1, (h2 _ hk).trans e2, trivial⟩
  · intro x y ox oy B' c1 c2 g1 g2 a1 a2 e1 e2
    rcases get2 x ox g1 with ⟨f1, f2⟩ | ⟨_, _, f2⟩ | ⟨hne, hne2, f1⟩
    · rcases get2 y oy g2 with ⟨k1, k2⟩ | ⟨_, _, k2⟩ | ⟨hne3, hne4, k1⟩
      · rw [f1, k1]
      · subst k2; simp [AObj.alive] at a2
      · subst f1
        rw [Env.upd_same] at e1
        cases e1
        exact absurd (H.inj _ _ _ _ _ _ _ hg k1 ht a2 hB (key _ _ _ hne3 e2)).symm hne4
    · subst f2; simp [AObj.turns] at a1
    · rcases get2 y oy g2 with ⟨k1, k2⟩ | ⟨_, _, k2⟩ | ⟨hne3, hne4, k1⟩
      · subst k1
        rw [Env.upd_same] at e2
        cases e2
        exact absurd (H.inj _ _ _ _ _ _ _ f1 hg a1 (AObj.alive_of_turns ht) (key _ _ _ hne e1) hB) hne2
      · subst k2; simp [AObj.alive] at a2
      · exact H.inj _ _ _ _ _ _ _ f1 k1 a1 a2 (key _ _ _ hne e1) (key _ _ _ hne3 e2)
  · intro x hx
    have hx' : h.next ≤ x := hx
    have : x ≠ nb := by omega
    simpa [Env.upd, this] using H.fresh x hx'
  · intro x B' c' e
    rw [hs]
    unfold Env.upd at e
    simp only at e
    split at e
    · cases e; exact H.lt _ _ _ hB
    · exact H.lt _ _ _ e
  · intro x ox B' c' g t e
    rcases get2 x ox g with ⟨f1, f2⟩ | ⟨_, _, f2⟩ | ⟨hne, hne2, f1⟩
    · subst f1; rw [Env.upd_same] at e; cases e; exact hlow
    · subst f2; simp [AObj.turns] at t
    · exact H.low _ _ _ _ f1 t (key _ _ _ hne e)

theorem zeroCells_len (z : Array Value) (n : Nat) : (Builtin.zeroCells z n).toList.length = n * z.size := by simp [Builtin.zeroCells]

/-- what append makes anew -/
theorem grown_ok {ts : Array TypeId} {st e : TypeId} {ty : TypeId} (hst : ts[0]? = some st) (hu : P.underlying st = some (.slice e)) (hn : noMake P ts = true) (H : Holds P N0 ρ h w) (hnb : nb < h.next) (hf : ρ nb = none) {n len cap : Nat} {base : Option Addr}
    {X : Value} {i : TypeInfo} {z : Value} {us0 : List Value} (hi : P.info? e = some i) (hz : i.zero = some z) (hzc : z.cells = ⟨us0⟩) (hz0 : us0.length = i.size) (hl : ∀ w, (Builtin.lenOf X).run P w = .ok n w)
    {new old : List AVal} {us : List Value} (hus : (Builtin.firstCells i.size n X).run P w.drew = .ok ⟨us⟩ w.drew) (hrel : VRels ρ new us) (hnl : new.length = n * i.size) {os : List Value} (hos : (Builtin.firstCells i.size len (.slice base len cap)).run P w.drew = .ok ⟨os⟩ w.drew) (hold : VRels ρ old os) (holdl : old.length = len * i.size)
    (hroom : ¬ len + n ≤ cap) (hb : (len + n) * i.bytes ≤ 1048576) (hm : len + n ≤ 1048576) :
    ∃ V w' ρ', (Builtin.append_ ts ty #[.slice base len cap, X]).run P w = .ok V w' ∧ Mov N0 (· ≠ nb) ρ w ρ' w' ∧ Holds P N0 ρ' (h.put nb (.cells (old ++ new) e false true)) w' ∧ VRel ρ' (.slice nb 0 (len + n) (.rest 0)) V := by
  obtain ⟨nc, hnc, hr⟩ := append_new (ty := ty) hst hu hn hi hz hl hus hos hroom hb hm
  have h1 := hrel.length
  have h2 := hold.length
  have hzl := zeroCells_len z.cells (nc - (len + n))
  have hsz : z.cells.size = i.size := by rw [hzc]; simpa using hz0
  rw [hsz] at hzl
  obtain ⟨ρ', H', M, hB, hB0⟩ := H.drew.rowG hnb hf (hold.append hrel) e (0, 0) true (fun _ => rfl) hi (room := nc) (zs := (Builtin.zeroCells z.cells (nc - (len + n))).toList) (by
    rw [List.length_append, hzl, ← h1, ← h2, hnl, holdl, ← Nat.add_mul, ← Nat.add_mul]
    congr 1
    omega)
  refine ⟨_, _, ρ', hr, ⟨M.ext, ((Below.refl _ _).drew).trans M.below, M.keep⟩, H', ?_⟩
  have := VRel.sliceR0 (ρ := ρ') (o := 0) (n := len + n) (k := 0) hB hB0 (by omega)
  simpa using this

theorem blt_false {a b : Nat} (h : Nat.ble a b = false) : ¬ a ≤ b := fun e => by rw [Nat.ble_eq_true_of_le e] at h; cases h

theorem bound_of {a b c : Nat} (h : (Nat.ble a b && Nat.ble c b) = true) : a ≤ b ∧ c ≤ b := by
  simp only [Bool.and_eq_true] at h
  exact ⟨Nat.le_of_ble_eq_true h.1, Nat.le_of_ble_eq_true h.2⟩

theorem append_ok {ts : Array TypeId} {ty : TypeId} (H : Holds P N0 ρ h w) (hnb : nb < h.next) (hf : ρ nb = none) {s x : AVal} {S X : Value} (hS : VRel ρ s S) (hX : VRel ρ x X) {n : ANext} (hr : appendA P h nb ts s x = some (n, h')) :
    ∃ V w' ρ', (Builtin.append_ ts ty #[S, X]).run P w = .ok V w' ∧ Mov N0 (· ≠ nb) ρ w ρ' w' ∧ Holds P N0 ρ' h' w' ∧ ∃ v, n = .value v ∧ VRel ρ' v V := by
  unfold appendA at hr
  split at hr
  · rename_i e hst0 hnm
    simp only [Option.bind_eq_some_iff] at hst0
    obtain ⟨st, hst, hu⟩ := hst0
    simp only [Option.bind_eq_some_iff] at hr
    obtain ⟨size, hsize, by_, hby, m, hm, new, hnew, z0, hz0, hr⟩ := hr
    obtain ⟨i, z, us0, hi, hz, hzc, hzl, h0, _, _⟩ := zeroCells_ok (ρ := ρ) hz0
    simp only [tsize, hi, Option.map_some, Option.some.injEq] at hsize
    simp only [tbytes, hi, Option.map_some, Option.some.injEq] at hby
    subst hsize hby
    have hszt : tsize P e = some i.size := by simp [tsize, hi]
    have hlo := fun w => len_of (P := P) hX hm (first_kind hnew) w
    obtain ⟨usd, husd, hreld⟩ := first_ok H.drew hX hnew
    have hnl := first_len hm hnew
    split at hr
    · cases hS
      split at hr
      · rename_i hn0
        have hn0 := Nat.eq_of_beq_eq_true hn0
        cases hr
        obtain ⟨us, hus, hrel⟩ := first_ok H hX hnew
        have ha := append_in (ty := ty) (base := none) (cap := 0) (len := 0) (w' := w) hst hu hnm hszt hlo hus (by omega) rfl
        refine ⟨_, w, ρ, ha, Mov.refl _ _ _ _, H, _, rfl, ?_⟩
        subst hn0
        exact .nils
      · rename_i hn0 hb
        cases hr
        obtain ⟨hb1, hb2⟩ := bound_of hb
        have hn1 : m ≠ 0 := fun e => by subst e; simp at hn0
        obtain ⟨V, w', ρ', r1, r2, r3, r4⟩ := grown_ok (ty := ty) (base := none) (cap := 0) (len := 0) hst hu hnm H hnb hf hi hz hzc hzl hlo husd hreld hnl (os := []) (old := []) (run_firstCells_none (P := P) w.drew _ _ 0 0) .nil (by simp) (by omega) (by simpa using hb1) (by omega)
        refine ⟨V, w', ρ', r1, r2, ?_, _, rfl, ?_⟩
        · simpa using r3
        · simpa using r4
      · cases hr
    · rename_i b o len c
      cases hS with
      | @sliceE _ _ _ _ B cr hB =>
      split at hr
      · rename_i hle
        have hle := Nat.le_of_ble_eq_true hle
        obtain ⟨us, hus, hrel⟩ := first_ok H hX hnew
        split at hr
        · rename_i hn0
          have hn0 := Nat.eq_of_beq_eq_true hn0
          cases hr
          have hus0 : us = [] := by
            have h1 := hrel.length
            have h2 := first_len hm hnew
            rw [hn0] at h2
            simp at h2
            subst h2
            simpa using h1.symm
          have ha := append_in (ty := ty) (base := some ⟨B, ρ.β b + o, none⟩) (w' := w) hst hu hnm hszt hlo hus hle (by subst hus0; rfl)
          refine ⟨_, w, ρ, ha, Mov.refl _ _ _ _, H, _, rfl, ?_⟩
          subst hn0
          exact .sliceE hB
        · simp only [Option.map_eq_some_iff] at hr
          obtain ⟨h1, hw, he⟩ := hr
          cases he
          obtain ⟨w', hst', H', M⟩ := wrs_ok (K := (· ≠ nb)) H hw hB hrel
          have ha := append_in (ty := ty) (base := some ⟨B, ρ.β b + o, none⟩) (w' := w') hst hu hnm hszt hlo hus hle (by simpa [addr_add, Nat.add_assoc] using hst')
          exact ⟨_, w', ρ, ha, M, H', _, rfl, .sliceE hB⟩
      · rename_i hle hb
        obtain ⟨hb1, hb2⟩ := bound_of hb
        simp only [Option.bind_eq_some_iff] at hr
        obtain ⟨old, hold, hr⟩ := hr
        cases hr
        obtain ⟨os, hol, hor, hoc⟩ := rds_ok H.drew hold hB
        have hos := run_firstCells_some (P := P) w.drew i.size len ⟨B, ρ.β b + o, none⟩ len c os hol hoc
        obtain ⟨V, w', ρ', r1, r2, r3, r4⟩ := grown_ok (ty := ty) hst hu hnm H hnb hf hi hz hzc hzl hlo husd hreld hnl (by simpa using hos) hor (by rw [hor.length, hol]) (blt_false hle) hb1 hb2
        exact ⟨V, w', ρ', r1, r2, r3, _, rfl, r4⟩
      · cases hr
    · rename_i b len
      cases hS with
      | @sliceR _ _ _ _ B cr hB hlen =>
      split at hr
      · rename_i cs e' hg
        split at hr
        · rename_i hb
          cases hr
          simp only [Bool.and_eq_true] at hb
          obtain ⟨⟨⟨⟨⟨hb0, hb1⟩, hb2⟩, hb3⟩, hb4⟩, hb5⟩ := hb
          have hb0 := Nat.eq_of_beq_eq_true hb0
          have hb1 := Nat.eq_of_beq_eq_true hb1
          have hb2 := Nat.le_of_ble_eq_true hb2
          have hb3 := Nat.le_of_ble_eq_true hb3
          subst hb0
          obtain ⟨C, E, fr, hC, hcs, hl, hfr, _, hrm⟩ := H.cells hg hB
          obtain ⟨hβ, hE, hfr⟩ := hfr rfl
          subst hfr hE
          rw [hβ, List.drop_zero] at hcs
          rw [hβ, Nat.zero_add] at hl
          obtain ⟨i', hi', hsz⟩ := hrm rfl
          rw [hi] at hi'
          cases hi'
          have hcl := hcs.length
          by_cases hroom : len + m ≤ cr - 0
          · obtain ⟨us, hus, hrel⟩ := first_ok H hX hnew
            have hul := hrel.length
            have hfit : len * i.size + 0 + us.length ≤ C.size := by
              rw [← hul, hnl, hsz, Nat.add_zero, ← Nat.add_mul]
              exact Nat.mul_le_mul_right _ (by omega)
            have h1 : ∀ v ∈ us, v.oneCell' = true := by
              intro u hu
              obtain ⟨j, hj, rfl⟩ := List.mem_iff_getElem.1 hu
              have hj' : j < new.length := by omega
              obtain ⟨u', hu', hr'⟩ := hrel.get (List.getElem?_eq_getElem hj')
              rw [List.getElem?_eq_getElem hj] at hu'
              cases hu'
              have := List.all_eq_true.1 hb5 _ (List.getElem_mem hj')
              rw [hr'.oneCell]
              exact this
            have hst' := run_storeCells_at (P := P) B (len * i.size) E us 0 C w hC hfit h1
            have hst2 : (storeCells ((⟨B, ρ.β b + 0, none⟩ : Addr).add (len * i.size)) us).run P w = .ok () (w.setRow B (C.toList.take (len * i.size + 0) ++ us ++ C.toList.drop (len * i.size + 0 + us.length)).toArray) := by
              rw [addr_add, hβ]; simpa using hst'
            have ha := append_in (ty := ty) (base := some ⟨B, ρ.β b + 0, none⟩) hst hu hnm hszt hlo hus hroom hst2
            have hCl : C.toList.length = C.size := Array.length_toList
            have hL : (C.toList.take (len * i.size + 0) ++ us ++ C.toList.drop (len * i.size + 0 + us.length)).length = C.size := by
              simp only [List.length_append, List.length_take, List.length_drop, hCl]
              omega
            have hset := setRow_heap w B C (C.toList.take (len * i.size + 0) ++ us ++ C.toList.drop (len * i.size + 0 + us.length)).toArray E (0, 0) hC
            obtain ⟨H', M⟩ := H.alias hnb hf hg rfl hB (o' := .cells (cs ++ new) E false true) (O := .cells (C.toList.take (len * i.size + 0) ++ us ++ C.toList.drop (len * i.size + 0 + us.length)).toArray E (0, 0))
              ⟨_, E, (0, 0), rfl, by
                rw [List.drop_zero]
                have e1 : ((C.toList.take (len * i.size + 0) ++ us ++ C.toList.drop (len * i.size + 0 + us.length)).toArray.toList.take (cs ++ new).length) = C.toList.take cs.length ++ us := by
                  have e2 : (cs ++ new).length = (C.toList.take (len * i.size + 0) ++ us).length := by
                    rw [List.length_append, List.length_append, hul, List.length_take, hCl, Nat.add_zero]; omega
                  rw [e2]
                  simp only [List.take_left]
                  rw [Nat.add_zero, hb1]
                rw [e1]
                exact (hcs.append hrel).mono (Env.le_upd hf), by
                  rw [List.length_append, List.size_toArray, hL, hul, ← hb1]; omega, fun _ => ⟨rfl, rfl, rfl⟩, fun e => (by cases e), fun _ => ⟨i, hi, by
                  rw [List.size_toArray, hL, hsz]⟩⟩
              hset (fun k hk => setRow_other w B k _ hk) (by simp [World.setRow]) rfl rfl rfl
            refine ⟨_, _, _, ha, M, H', _, rfl, ?_⟩
            have hv0 := VRel.sliceR0 (ρ := ρ.upd nb B cr) (b := nb) (o := 0) (n := len + m) (k := 0) (Env.upd_same _ _ _ _) (H.flat _ hf) (by omega)
            rw [hβ]
            exact hv0
          · have hrd : rds h b 0 (len * i.size) = some cs := by
              simp only [rds, hg]
              rw [Nat.ble_eq_true_of_le (by omega)]
              simp [hb1]
            obtain ⟨os, hol, hor, hoc⟩ := rds_ok H.drew hrd hB
            have hos := run_firstCells_some (P := P) w.drew i.size len ⟨B, ρ.β b + 0, none⟩ len (cr - 0) os hol hoc
            obtain ⟨V, w', ρ', r1, r2, r3, r4⟩ := grown_ok (ty := ty) hst hu hnm (H.kill hg) hnb hf hi hz hzc hzl hlo husd hreld hnl (by simpa using hos) hor (by rw [hor.length, hol]) hroom hb2 hb3
            exact ⟨V, w', ρ', r1, r2, r3, _, rfl, r4⟩
        · cases hr
      · cases hr
    · cases hr
  · cases hr

end Go.Proofs.YtdgpdmbfhehpfaaGreatDoor.Ev
