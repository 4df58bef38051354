/-
  The evaluator's operations on memory are sound (1).
-/
import Derived.Test.YtdgpdmbfhehpfaaGreatDoorEvG
import Derived.Laws.MakeOwn
import Derived.MapKept
set_option linter.all false
namespace Go.Proofs.YtdgpdmbfhehpfaaGreatDoor.Ev
open Go.RowKit

variable {gs : Prm} {P : Program} {N0 : Nat} {ρ : Env} {h h' : Heap} {w : World} {nb : Nat}

/-- a row of cells is made -/
theorem Holds.row (H : Holds P N0 ρ h w) (hnb : nb < h.next) (hf : ρ nb = none) {cs : List AVal} {us : List Value} (hc : VRels ρ cs us) (e : Nat) :
    ∃ ρ', Holds P N0 ρ' (h.put nb (.cells cs e true true)) (w.alloc (.cells ⟨us⟩ e)) ∧ Mov N0 (· ≠ nb) ρ w ρ' (w.alloc (.cells ⟨us⟩ e)) ∧ ρ' nb = some (w.heap.size, 0) ∧ ρ'.β nb = 0 := by
  have hl := hc.length
  refine ⟨_, H.new hnb hf (.cells cs e true true) (.cells ⟨us⟩ e) 0 ⟨⟨us⟩, e, (0, 0), rfl, ?_, ?_, fun _ => ⟨rfl, rfl, rfl⟩, fun _ _ => ?_, fun e => by cases e⟩⟩
  · rw [hl, List.drop_zero, List.take_length]; exact hc.mono (Env.le_upd hf)
  · simp [hl]
  · simp [hl]

/-- a row with room behind what is known -/
theorem Holds.rowG (H : Holds P N0 ρ h w) (hnb : nb < h.next) (hf : ρ nb = none) {cs : List AVal} {us zs : List Value} (hc : VRels ρ cs us) (e : Nat) (fr : Nat × Nat) (wr : Bool) (hfr : wr = true → fr = (0, 0)) {i : TypeInfo} (hi : P.info? e = some i) {room : Nat}
    (hr : us.length + zs.length = room * i.size) :
    ∃ ρ', Holds P N0 ρ' (h.put nb (.cells cs e false wr)) (w.alloc (.cells ⟨us ++ zs⟩ e fr)) ∧ Mov N0 (· ≠ nb) ρ w ρ' (w.alloc (.cells ⟨us ++ zs⟩ e fr)) ∧ ρ' nb = some (w.heap.size, room) ∧ ρ'.β nb = 0 := by
  have hl := hc.length
  refine ⟨_, H.new hnb hf (.cells cs e false wr) (.cells ⟨us ++ zs⟩ e fr) room ⟨⟨us ++ zs⟩, e, fr, rfl, ?_, ?_, fun h => ⟨rfl, rfl, hfr h⟩, ?_, fun _ => ⟨i, hi, ?_⟩⟩⟩
  · rw [hl, List.drop_zero]; simp only [List.take_left]; exact hc.mono (Env.le_upd hf)
  · simp [hl]
  · intro e; cases e
  · simp [hr]

theorem alloc_ok {a : Act} {o : Oper} {e : Nat} (ho : o.op = .alloc e) (H : Holds P N0 ρ h w) (hnb : nb < h.next) (hf : ρ nb = none) {n : ANext} (hr : allocA P h nb e = some (n, h')) :
    Good P N0 (· ≠ nb) ρ w h' n ((execOp a.eval o).run P w) := by
  simp only [allocA, Option.bind_eq_some_iff] at hr
  obtain ⟨z, hz, hr⟩ := hr
  cases hr
  obtain ⟨v, hv, hzr⟩ := zero_ok (w := w) (ρ := ρ) hz
  obtain ⟨ρ', H', M, hB, hB0⟩ := H.row hnb hf hzr.cells e
  refine ⟨.value (.pointer (some ⟨w.heap.size, 0, none⟩)), _, ρ', ?_, M, H', _, rfl, .ptr0 hB hB0⟩
  simp [execOp, ho, Instr.alloc, hv, newVar, newRow]

theorem box_ok {a : Act} {o : Oper} {e : Nat} {x : Operand} (ho : o.op = .box e x) (H : Holds P N0 ρ h w) (hnb : nb < h.next) (hf : ρ nb = none) {v : AVal} (hx : VRel ρ v (a.eval x)) {n : ANext} (hr : boxA h nb e v = some (n, h')) :
    Good P N0 (· ≠ nb) ρ w h' n ((execOp a.eval o).run P w) := by
  cases hr
  obtain ⟨ρ', H', M, hB, hB0⟩ := H.row hnb hf hx.cells e
  refine ⟨.value (.pointer (some ⟨w.heap.size, 0, none⟩)), _, ρ', ?_, M, H', _, rfl, .ptr0 hB hB0⟩
  simp [execOp, ho, Instr.box, newVar, newRow]

def repsV : Nat → List Value → List Value
  | 0, _ => []
  | n+1, z => z ++ repsV n z

theorem reps_rel {z : List AVal} {us : List Value} (hz : VRels ρ z us) : ∀ n, VRels ρ (reps n z) (repsV n us)
  | 0 => .nil
  | n+1 => hz.append (reps_rel hz n)

theorem reps_length (z : List AVal) : ∀ n, (reps n z).length = n * z.length
  | 0 => by simp [reps]
  | n+1 => by simp [reps, reps_length z n, Nat.succ_mul, Nat.add_comm]

theorem range_reps (us : List Value) (hs : 0 < us.length) : ∀ n, (List.range (n * us.length)).map (fun i => us[i % us.length]!) = repsV n us
  | 0 => by simp [repsV]
  | n+1 => by
    have e : (n + 1) * us.length = us.length + n * us.length := by rw [Nat.succ_mul, Nat.add_comm]
    rw [e, List.range_add, List.map_append, repsV]
    congr 1
    · apply List.ext_getElem?
      intro i
      simp only [List.getElem?_map]
      rcases Nat.lt_or_ge i us.length with hi | hi
      · rw [List.getElem?_range hi]
        simp [Nat.mod_eq_of_lt hi, hi]
      · rw [List.getElem?_eq_none (by simpa using hi), List.getElem?_eq_none hi]
        rfl
    · rw [← range_reps us hs n, List.map_map]
      apply List.map_congr_left
      intro i _
      simp

theorem made_reps (us : List Value) (hs : 0 < us.length) (n : Nat) : madeCells ⟨us⟩ (n * us.length) = ⟨repsV n us⟩ := by
  apply Array.ext'
  rw [← range_reps us hs n]
  simp only [madeCells, Array.toList_map, Array.toList_range]
  apply List.map_congr_left
  intro i _
  simp

theorem zeroCells_ok {e n : Nat} {cs : List AVal} (h : zeroCellsA P e n = some cs) :
    ∃ i z us, P.info? e = some i ∧ i.zero = some z ∧ z.cells = ⟨us⟩ ∧ us.length = i.size ∧ 0 < i.size ∧ VRels ρ cs (repsV n us) ∧ cs.length = n * i.size := by
  simp only [zeroCellsA, Option.bind_eq_some_iff] at h
  obtain ⟨s, hs, h⟩ := h
  split at h
  · cases h
  · rename_i hs0
    simp only [Option.bind_eq_some_iff] at h
    obtain ⟨z, hz, h⟩ := h
    split at h
    · rename_i hl
      cases h
      obtain ⟨i, Z, hi, hZ, hr⟩ := zero_info (ρ := ρ) hz
      simp only [tsize, hi, Option.map_some, Option.some.injEq] at hs
      subst hs
      have hl := Nat.eq_of_beq_eq_true hl
      have hc := hr.cells
      have h0 : 0 < i.size := by
        rcases Nat.eq_zero_or_pos i.size with e | e
        · rw [e] at hs0; simp at hs0
        · exact e
      exact ⟨i, Z, Z.cells.toList, hi, hZ, rfl, by rw [← hc.length]; exact hl, h0, reps_rel hc n, by rw [reps_length, hl]⟩
    · cases h

theorem makeSlice_ok {a : Act} {o : Oper} {t : Nat} {l c : Operand} (ho : o.op = .makeSlice t l c) (H : Holds P N0 ρ h w) (hnb : nb < h.next) (hf : ρ nb = none) {lv cv : AVal} (hl : VRel ρ lv (a.eval l)) (hc : VRel ρ cv (a.eval c)) {n : ANext}
    (hr : makeSliceA P h nb t lv cv = some (n, h')) : Good P N0 (· ≠ nb) ρ w h' n ((execOp a.eval o).run P w) := by
  unfold makeSliceA at hr
  split at hr
  · rename_i e hu
    simp only [Option.bind_eq_some_iff] at hr
    obtain ⟨ln, hln, cn, hcn, by_, hby, hr⟩ := hr
    split at hr
    · rename_i hb
      simp only [Bool.and_eq_true] at hb
      obtain ⟨⟨hb1, hb2⟩, hb3⟩ := hb
      have hb1 := Nat.le_of_ble_eq_true hb1
      have hb2 := Nat.le_of_ble_eq_true hb2
      have hb3 := Nat.le_of_ble_eq_true hb3
      simp only [Option.bind_eq_some_iff] at hr
      obtain ⟨cs, hcs, hr⟩ := hr
      cases hr
      obtain ⟨k1, hL⟩ := asNat_ok hl hln
      obtain ⟨k2, hC⟩ := asNat_ok hc hcn
      obtain ⟨i, z, us, hi, hz, hzc, hus, h0, hrel, _⟩ := zeroCells_ok (ρ := ρ) hcs
      simp only [tbytes, hi, Option.map_some, Option.some.injEq] at hby
      subst hby
      have hbytes : (i.bytes : Int) * (cn : Int) ≤ 281474976710656 := by
        have h1 : i.bytes * cn ≤ 1048576 := by rw [Nat.mul_comm]; exact hb2
        rw [← Int.natCast_mul]
        omega
      have hm := run_make (P := P) w t e i z hu hi hz k1 k2 (ln : Int) (cn : Int) (by omega) (by omega) hbytes (by omega)
      have hmc : madeCells z.cells ((cn : Int).toNat * i.size) = ⟨repsV cn us⟩ := by
        rw [hzc, ← hus, Int.toNat_natCast]; exact made_reps us (by omega) cn
      rw [hmc] at hm
      obtain ⟨ρ', H', M, hB, hB0⟩ := H.row hnb hf hrel e
      refine ⟨.value (.slice (some ⟨w.heap.size, 0, none⟩) ln cn), _, ρ', ?_, M, H', _, rfl, .sliceE0 hB hB0⟩
      simp only [execOp, ho, hL, hC, Sem.run_bind, hm, Result.andThen_ok, Sem.run_pure, Int.toNat_natCast]
    · cases hr
  · cases hr

theorem makeMap_ok {a : Act} {o : Oper} {t : Nat} (ho : o.op = .makeMap t none) (H : Holds P N0 ρ h w) (hnb : nb < h.next) (hf : ρ nb = none) :
    Good P N0 (· ≠ nb) ρ w (h.put nb (.map [] 0)) (.value (.map nb)) ((execOp a.eval o).run P w) := by
  obtain ⟨H', M, hB, _⟩ := H.new hnb hf (.map [] 0) (.map #[] 0) 0 ⟨#[], rfl, .nil⟩
  refine ⟨.value (.map (some w.heap.size)), _, _, ?_, M, H', _, rfl, .map hB⟩
  simp only [execOp, ho]
  rfl

theorem load_ok {a : Act} {o : Oper} {t : Nat} {x : Operand} (ho : o.op = .load t x) (H : Holds P N0 ρ h w) {xv v : AVal} (hx : VRel ρ xv (a.eval x)) (hr : loadA P h t xv = some v) :
    Good P N0 (· ≠ nb) ρ w h (.value v) ((execOp a.eval o).run P w) := by
  obtain ⟨u, hu, hv⟩ := loadA_ok H hr hx
  exact Good.val H (by simp only [execOp, ho, Sem.run_bind, hu, Result.andThen_ok, Sem.run_pure]) hv

/-- cells are written -/
theorem wrs_ok (H : Holds P N0 ρ h w) {b o B c : Nat} {vs : List AVal} {us : List Value} (hr : wrs h b o vs = some h') (hB : ρ b = some (B, c)) (hv : VRels ρ vs us) {K : Nat → Prop} :
    ∃ w', (storeCells ⟨B, ρ.β b + o, none⟩ us).run P w = .ok () w' ∧ Holds P N0 ρ h' w' ∧ Mov N0 K ρ w ρ w' := by
  unfold wrs at hr
  split at hr
  · rename_i cs e x hg
    split at hr
    · rename_i hb
      simp only [Bool.and_eq_true] at hb
      have hle := Nat.le_of_ble_eq_true hb.1
      cases hr
      obtain ⟨C, E, fr, hC, hcs, hl, hfr, hx, hrm⟩ := H.cells hg hB
      obtain ⟨h0, hE, hfr⟩ := hfr rfl
      subst hfr hE
      rw [h0, List.drop_zero] at hcs
      rw [h0, Nat.zero_add] at hl
      rw [h0, Nat.zero_add]
      have hvl := hv.length
      have h1 : ∀ v ∈ us, v.oneCell' = true := by
        intro u hu
        obtain ⟨i, hi, rfl⟩ := List.mem_iff_getElem.1 hu
        have hi' : i < vs.length := by omega
        obtain ⟨u', hu', hrel⟩ := hv.get (List.getElem?_eq_getElem hi')
        rw [List.getElem?_eq_getElem hi] at hu'
        cases hu'
        have := List.all_eq_true.1 hb.2 _ (List.getElem_mem hi')
        rw [hrel.oneCell]
        exact this
      have hst := run_storeCells_at (P := P) B o E us 0 C w hC (by omega) h1
      refine ⟨_, hst, ?_⟩
      have hset := setRow_heap w B C (C.toList.take (o + 0) ++ us ++ C.toList.drop (o + 0 + us.length)).toArray E (0, 0) hC
      refine H.put hg rfl hB ⟨_, E, (0, 0), rfl, ?_, ?_, fun _ => ⟨h0, rfl, rfl⟩, ?_, ?_⟩ hset (fun k hk => setRow_other w B k _ hk) (by simp [World.setRow]) rfl rfl rfl
      · have e1 : ((C.toList.take (o + 0) ++ us ++ C.toList.drop (o + 0 + us.length)).toArray.toList.take (cs.take o ++ vs ++ cs.drop (o + vs.length)).length) =
            (C.toList.take cs.length).take o ++ us ++ (C.toList.take cs.length).drop (o + vs.length) := by
          have hlen : (cs.take o ++ vs ++ cs.drop (o + vs.length)).length = cs.length := by simp; omega
          rw [hlen]
          apply List.ext_getElem?
          intro j
          simp only [Nat.add_zero, List.getElem?_take, List.getElem?_append, List.length_append, List.length_take, Array.length_toList, List.getElem?_drop]
          have hCs : C.size = C.toList.length := by simp
          by_cases hj : j < cs.length
          · simp only [hj, if_true]
            by_cases h1 : j < o
            · have a1 : j < min o C.size := by omega
              have a2 : j < min o C.size + us.length := by omega
              have a3 : j < min o (min cs.length C.size) := by omega
              have a4 : j < min o (min cs.length C.size) + us.length := by omega
              simp [a1, a2, a3, a4, h1]
            · have b1 : min o C.size = o := by omega
              have b2 : min o (min cs.length C.size) = o := by omega
              simp only [b1, b2, h1, if_false]
              by_cases h2 : j < o + us.length
              · simp [h2]
              · simp only [h2, if_false]
                have : o + us.length + (j - (o + us.length)) < cs.length := by omega
                rw [hvl]
                simp [this]
          · simp only [hj, if_false]
            have b2 : min o (min cs.length C.size) = o := by omega
            have h1 : ¬ j < o := by omega
            have h2 : ¬ j < o + us.length := by omega
            simp only [b2, h1, h2, if_false]
            have : ¬ (o + vs.length + (j - (o + us.length)) < cs.length) := by omega
            simp [this]
        rw [h0, List.drop_zero, e1]
        exact ((hcs.take o).append hv).append (hcs.drop (o + vs.length))
      · simp; omega
      · intro ht _
        have := hx ht rfl
        simp; omega
      · intro hxf
        obtain ⟨i, hi, hsz⟩ := hrm hxf
        refine ⟨i, hi, ?_⟩
        rw [← hsz]
        simp; omega
    · cases hr
  · cases hr

theorem store_ok {a : Act} {o : Oper} {t : Nat} {x y : Operand} (ho : o.op = .store t x y) (H : Holds P N0 ρ h w) {xv yv : AVal} (hx : VRel ρ xv (a.eval x)) (hy : VRel ρ yv (a.eval y)) {n : ANext} (hr : storeA P h t xv yv = some (n, h')) :
    Good P N0 (· ≠ nb) ρ w h' n ((execOp a.eval o).run P w) := by
  unfold storeA at hr
  split at hr
  · rename_i b off
    generalize hX : a.eval x = X at hx
    cases hx with
    | @ptr _ _ B c hB =>
    simp only [Option.bind_eq_some_iff] at hr
    obtain ⟨s, hs, hr⟩ := hr
    split at hr
    · rename_i hsz
      have hsz := Nat.eq_of_beq_eq_true hsz
      simp only [Option.map_eq_some_iff] at hr
      obtain ⟨h1, hw, he⟩ := hr
      cases he
      have hc := hy.cells
      obtain ⟨w', hst, H', M⟩ := wrs_ok (K := (· ≠ nb)) H hw hB hc
      refine ⟨.skip, w', ρ, ?_, M, H', rfl⟩
      have hl : (a.eval y).cells.size = s := by
        have := hc.length
        simpa [hsz] using this.symm
      simp [execOp, ho, hX, Instr.storeAt, Instr.sureAddr, Go.storeVar, size_run hs, hl, hst]
    · cases hr
  · cases hr

end Go.Proofs.YtdgpdmbfhehpfaaGreatDoor.Ev
