/-
  The evaluator's pure operations are sound (3): build; all of them.
-/
import Derived.Test.YtdgpdmbfhehpfaaGreatDoorEvF
set_option linter.all false
namespace Go.Proofs.YtdgpdmbfhehpfaaGreatDoor.Ev
open Go.RowKit

variable {gs : Prm} {P : Program} {ρ : Env}

theorem foldl_set (off : Nat) : ∀ (vs : List Value) (j : Nat) (us : List Value), off + j + vs.length ≤ us.length →
    (vs.zipIdx j).foldl (fun (cs : Array Value) (x : Value × Nat) => cs.setIfInBounds (off + x.2) x.1) ⟨us⟩ = ⟨us.take (off + j) ++ vs ++ us.drop (off + j + vs.length)⟩
  | [], j, us, _ => by simp
  | v :: vs, j, us, h => by
    simp only [List.length_cons] at h
    simp only [List.zipIdx_cons, List.foldl_cons]
    have e : (⟨us⟩ : Array Value).setIfInBounds (off + j) v = ⟨us.set (off + j) v⟩ := by simp
    rw [e, foldl_set off vs (j + 1) (us.set (off + j) v) (by simp; omega)]
    have := list_seg_step us (off + j) v vs (by omega)
    simp only [← Nat.add_assoc] at this ⊢
    rw [this]
    simp [Nat.add_assoc, Nat.add_comm]

theorem fill_ok {place : Nat → Option (Nat × Nat)} : ∀ {ps : List (Nat × AVal)} {PS : List (Nat × Value)} {cells cs : List AVal} {us : List Value}, VRels ρ cells us →
    (ps.map (·.1) = PS.map (·.1)) → VRels ρ (ps.map (·.2)) (PS.map (·.2)) → fill place cells ps = some cs → ∃ us', Instr.fill place ⟨us⟩ PS = some ⟨us'⟩ ∧ VRels ρ cs us'
  | [], PS, cells, cs, us, hc, hi, hv, h => by
    cases PS with
    | nil => simp [fill] at h; subst h; exact ⟨us, rfl, hc⟩
    | cons p PS => simp at hi
  | (i, v) :: ps, PS, cells, cs, us, hc, hi, hv, h => by
    cases PS with
    | nil => simp at hi
    | cons p PS =>
      obtain ⟨i', V⟩ := p
      simp only [List.map_cons, List.cons.injEq] at hi hv
      obtain ⟨rfl, hi⟩ := hi
      cases hv with
      | cons hv0 hv =>
      simp only [fill, Option.bind_eq_some_iff] at h
      obtain ⟨⟨off, size⟩, hp, h⟩ := h
      split at h
      · rename_i hb
        simp only [Bool.and_eq_true] at hb
        have hs : v.cells.length = size := Nat.eq_of_beq_eq_true hb.1
        have hle := Nat.le_of_ble_eq_true hb.2
        have hcv := hv0.cells
        have hl1 : V.cells.size = size := by
          have := hcv.length
          simpa [hs] using this.symm
        have hl2 : us.length = cells.length := hc.length.symm
        have hl3 : V.cells.toList.length = size := by simpa using hl1
        have hrel : VRels ρ (cells.take off ++ v.cells ++ cells.drop (off + size)) (us.take off ++ V.cells.toList ++ us.drop (off + size)) :=
          ((hc.take off).append hcv).append (hc.drop (off + size))
        obtain ⟨us', h1, h2⟩ := fill_ok hrel hi hv h
        refine ⟨us', ?_, h2⟩
        simp only [Instr.fill, hp]
        have hno : ¬ (V.cells.size ≠ size ∨ off + V.cells.size > (⟨us⟩ : Array Value).size) := by
          simp [hl1, hl2]; omega
        have hz : V.cells.zipIdx.foldl (fun cs x => cs.setIfInBounds (off + x.2) x.1) ⟨us⟩ = (⟨us.take off ++ V.cells.toList ++ us.drop (off + size)⟩ : Array Value) := by
          have := foldl_set off V.cells.toList 0 us (by omega)
          rw [← Array.foldl_toList]
          simpa [Array.toList_zipIdx, hl1] using this
        have hno' : (decide (V.cells.size ≠ size) || decide (off + V.cells.size > (⟨us⟩ : Array Value).size)) = false := by simpa using hno
        simp only [hno', Bool.false_eq_true, if_false]
        rw [hz]
        exact h1
      · cases h

theorem parts_ok {ts : List AVal} {a : Act} (hG : GOk gs ρ) (hts : VRels ρ ts a.tmps.toList) : ∀ {xs : List (Nat × Operand)} {ps : List (Nat × AVal)}, evParts gs ts xs = some ps →
    ps.map (·.1) = (xs.map fun x => (x.1, a.eval x.2)).map (·.1) ∧ VRels ρ (ps.map (·.2)) ((xs.map fun x => (x.1, a.eval x.2)).map (·.2))
  | [], ps, h => by simp [evParts] at h; subst h; exact ⟨rfl, .nil⟩
  | (i, x) :: xs, ps, h => by
    simp only [evParts, Option.bind_eq_some_iff] at h
    obtain ⟨v, hv, ps', hps, he⟩ := h
    cases he
    obtain ⟨h1, h2⟩ := parts_ok hG hts hps
    exact ⟨by simp [h1], .cons (ev_ok hG hts hv) h2⟩

theorem zero_info {t : Nat} {z : AVal} (h : tzero P t = some z) : ∃ i Z, P.info? t = some i ∧ i.zero = some Z ∧ VRel ρ z Z := by
  simp only [tzero, Option.bind_eq_some_iff] at h
  obtain ⟨Z, ⟨i, hi, hz⟩, hv⟩ := h
  exact ⟨i, Z, hi, hz, ofVal_ok hv⟩

theorem places_ok : ∀ {fs : List Field} {pl : List (Nat × Nat)}, fieldPlaces P fs = some pl → fs.mapM (fun f => (P.info? f.type).map fun i => (f.offset, i.size)) = some pl
  | [], pl, h => by simp [fieldPlaces] at h; subst h; rfl
  | f :: fs, pl, h => by
    simp only [fieldPlaces, Option.bind_eq_some_iff] at h
    obtain ⟨n, hn, r, hr, he⟩ := h
    cases he
    simp only [tsize, Option.map_eq_some_iff] at hn
    obtain ⟨i, hi, rfl⟩ := hn
    simp [List.mapM_cons, hi, places_ok hr]

theorem build_ok {ts : List AVal} {a : Act} (hG : GOk gs ρ) (hts : VRels ρ ts a.tmps.toList) {t : Nat} {parts : Array (Nat × Operand)} {v : AVal} (h : buildA P gs ts t parts = some v) :
    ∃ V, VRel ρ v V ∧ ∀ w, (Instr.build t (parts.map fun (i, x) => (i, a.eval x))).run P w = .ok V w := by
  simp only [buildA, Option.bind_eq_some_iff] at h
  obtain ⟨z, hz, ps, hps, h⟩ := h
  obtain ⟨it, Z, hit, hZ, hzr⟩ := zero_info (ρ := ρ) hz
  obtain ⟨p1, p2⟩ := parts_ok hG hts hps
  have hpl : (parts.map fun (i, x) => (i, a.eval x)).toList = parts.toList.map fun x => (x.1, a.eval x.2) := by simp
  have hc := hzr.cells
  split at h
  · rename_i fs hu
    simp only [Option.bind_eq_some_iff, Option.map_eq_some_iff] at h
    obtain ⟨pl, hpl2, cs, hcs, rfl⟩ := h
    obtain ⟨us', h1, h2⟩ := fill_ok hc p1 p2 hcs
    refine ⟨_, .agg h2, fun w => ?_⟩
    refine run_build w t _ _ ?_
    have hpp := places_ok hpl2
    simp only [Program.built, hit, hu, hZ, hpp, hpl]
    rw [← h1]
    congr 1
    funext i
    simp
  · rename_i n e hu
    simp only [Option.bind_eq_some_iff, Option.map_eq_some_iff] at h
    obtain ⟨s, hs, cs, hcs, rfl⟩ := h
    simp only [tsize, Option.map_eq_some_iff] at hs
    obtain ⟨ie, hie, rfl⟩ := hs
    obtain ⟨us', h1, h2⟩ := fill_ok hc p1 p2 hcs
    refine ⟨_, .agg h2, fun w => ?_⟩
    refine run_build w t _ _ ?_
    simp only [Program.built, hit, hu, hZ, hie, hpl]
    exact h1
  · cases h

theorem opt_ok {ts : List AVal} {a : Act} (hG : GOk gs ρ) (hts : VRels ρ ts a.tmps.toList) {x : Option Operand} {v : Option AVal} (h : optEv gs ts x = some v) :
    (∀ b, v = some b → ∃ A, x.map a.eval = some A ∧ VRel ρ b A) ∧ (v = none → x.map a.eval = none) := by
  cases x with
  | none => simp [optEv] at h; subst h; exact ⟨fun b e => (by cases e), fun _ => rfl⟩
  | some x =>
    simp only [optEv, Option.map_eq_some_iff] at h
    obtain ⟨b, hb, rfl⟩ := h
    exact ⟨fun c e => (by cases e; exact ⟨_, rfl, ev_ok hG hts hb⟩), fun e => (by cases e)⟩

theorem arrMap {a : Act} {xs : Array Operand} : xs.map a.eval = ⟨xs.toList.map a.eval⟩ := by
  apply Array.ext'; simp

theorem pure_ok {ts : List AVal} {a : Act} (hG : GOk gs ρ) (hts : VRels ρ ts a.tmps.toList) {o : Oper} {v : AVal} (h : pureA P gs ts o.op = some v) :
    ∃ V, VRel ρ v V ∧ ∀ w, (execOp a.eval o).run P w = .ok (.value V) w := by
  have ev := fun {x : Operand} {v : AVal} (h : aev gs ts x = some v) => ev_ok hG hts h
  unfold pureA at h
  split at h
  · rename_i x ho; exact ⟨_, ev h, fun w => by simp [execOp, ho]⟩
  · rename_i x ho; exact ⟨_, ev h, fun w => by simp [execOp, ho]⟩
  · rename_i c x y ho
    simp only [Option.bind_eq_some_iff] at h
    obtain ⟨cv, hc, h⟩ := h
    have hcr := ev hc
    unfold pickA at h
    split at h
    · generalize hC : a.eval c = C at hcr
      cases hcr
      exact ⟨_, ev h, fun w => by simp [execOp, ho, hC, asBool]⟩
    · generalize hC : a.eval c = C at hcr
      cases hcr
      exact ⟨_, ev h, fun w => by simp [execOp, ho, hC, asBool]⟩
    · cases h
  · rename_i t parts ho
    obtain ⟨V, hV, hr⟩ := build_ok hG hts h
    exact ⟨V, hV, fun w => by simp only [execOp, ho, Sem.run_bind, hr, Result.andThen_ok, Sem.run_pure]⟩
  · rename_i x ho
    simp only [Option.bind_eq_some_iff] at h
    obtain ⟨xv, hx, h⟩ := h
    exact nilCheck_ok (ev hx) h a o x ho rfl
  · rename_i op t x y yt ho
    simp only [Option.bind_eq_some_iff] at h
    obtain ⟨xv, hx, yv, hy, h⟩ := h
    obtain ⟨V, hV, hr⟩ := bin_ok (ev hx) (ev hy) h
    refine ⟨V, hV, fun w => ?_⟩
    have := hr w
    simp only [Sem.run_bind] at this
    simp only [execOp, ho, Sem.run_bind, this, Result.andThen_ok, Sem.run_pure]
  · rename_i op t x ho
    simp only [Option.bind_eq_some_iff] at h
    obtain ⟨xv, hx, h⟩ := h
    obtain ⟨V, hV, hr⟩ := un_ok (P := P) (ev hx) h
    exact ⟨V, hV, fun w => by simp only [execOp, ho, Sem.run_bind, hr, Result.andThen_ok, Sem.run_pure]⟩
  · rename_i t x ho
    simp only [Option.bind_eq_some_iff] at h
    obtain ⟨xv, hx, h⟩ := h
    obtain ⟨V, hV, hr⟩ := iface_ok (ev hx) h
    exact ⟨V, hV, fun w => by simp only [execOp, ho, Sem.run_bind, hr, Result.andThen_ok, Sem.run_pure]⟩
  · rename_i fn first captured ho
    simp only [Option.bind_eq_some_iff, Option.map_eq_some_iff] at h
    obtain ⟨fs, hf, cs, hc, rfl⟩ := h
    refine ⟨.func fn ⟨first.toList.map a.eval⟩ ⟨captured.toList.map a.eval⟩, .func fn (evs_ok hG hts hf) (evs_ok hG hts hc), fun w => ?_⟩
    simp only [execOp, ho, Sem.run_bind, Instr.makeFunc, arrMap, Sem.run_pure, Result.andThen_ok]
  · rename_i t x lo hi ho
    simp only [Option.bind_eq_some_iff] at h
    obtain ⟨xv, hx, lv, hl, hv, hh, h⟩ := h
    obtain ⟨l1, l2⟩ := opt_ok hG hts hl
    obtain ⟨h1, h2⟩ := opt_ok hG hts hh
    obtain ⟨V, hV, hr⟩ := slice_ok (ev hx) l1 l2 h1 h2 h
    refine ⟨V, hV, fun w => ?_⟩
    have := hr w
    simp only [execOp, ho, Sem.run_bind, Option.map_none, this, Result.andThen_ok, Sem.run_pure]
  · rename_i s x f ho
    simp only [Option.bind_eq_some_iff] at h
    obtain ⟨xv, hx, h⟩ := h
    obtain ⟨V, hV, hr⟩ := fieldAddr_ok (ev hx) h
    exact ⟨V, hV, fun w => by simp only [execOp, ho, Sem.run_bind, hr, Result.andThen_ok, Sem.run_pure]⟩
  · rename_i s x f ho
    simp only [Option.bind_eq_some_iff] at h
    obtain ⟨xv, hx, h⟩ := h
    obtain ⟨V, hV, hr⟩ := field_ok (ev hx) h
    exact ⟨V, hV, fun w => by simp only [execOp, ho, Sem.run_bind, hr, Result.andThen_ok, Sem.run_pure]⟩
  · rename_i t x i ho
    simp only [Option.bind_eq_some_iff] at h
    obtain ⟨xv, hx, iv, hi, h⟩ := h
    obtain ⟨V, hV, hr⟩ := indexAddr_ok (ev hx) (ev hi) h
    exact ⟨V, hV, fun w => by simp only [execOp, ho, Sem.run_bind, hr, Result.andThen_ok, Sem.run_pure]⟩
  · rename_i t x i ho
    simp only [Option.bind_eq_some_iff] at h
    obtain ⟨xv, hx, iv, hi, h⟩ := h
    obtain ⟨V, hV, hr⟩ := index_ok (ev hx) (ev hi) h
    exact ⟨V, hV, fun w => by simp only [execOp, ho, Sem.run_bind, hr, Result.andThen_ok, Sem.run_pure]⟩
  · rename_i t i ho
    simp only [Option.bind_eq_some_iff] at h
    obtain ⟨xv, hx, h⟩ := h
    obtain ⟨V, hV, hr⟩ := extract_ok (P := P) (ev hx) h
    exact ⟨V, hV, fun w => by simp only [execOp, ho, Sem.run_bind, hr, Result.andThen_ok, Sem.run_pure]⟩
  · rename_i s d x ho
    simp only [Option.bind_eq_some_iff] at h
    obtain ⟨xv, hx, h⟩ := h
    obtain ⟨V, hV, hr⟩ := conv_ok (ev hx) h
    exact ⟨V, hV, fun w => by simp only [execOp, ho, Sem.run_bind, hr, Result.andThen_ok, Sem.run_pure]⟩
  · rename_i b args argTypes ho
    simp only [Option.bind_eq_some_iff] at h
    obtain ⟨as, has, h⟩ := h
    have hr := evs_ok hG hts has
    unfold builtinP at h
    split at h
    · split at h
      · simp only [Option.bind_eq_some_iff] at h
        obtain ⟨t, ht, h⟩ := h
        generalize hA : args.toList.map a.eval = AS at hr
        cases hr with
        | cons h1 h2 =>
        cases h2
        obtain ⟨V, hV, hr⟩ := len_ok ht h1 h o.type
        refine ⟨V, hV, fun w => ?_⟩
        simp only [execOp, ho, resolve, arrMap, hA, Sem.run_bind, Sem.run_pure, Result.andThen_ok, invoke, builtin, hr]
      · cases h
    · split at h
      · generalize hA : args.toList.map a.eval = AS at hr
        cases hr with
        | cons h1 h2 =>
        cases h2 with
        | cons h2 h3 =>
        cases h3
        obtain ⟨V, hV, hr⟩ := max_ok (P := P) (ts := argTypes) h1 h2 h o.type
        refine ⟨V, hV, fun w => ?_⟩
        simp only [execOp, ho, resolve, arrMap, hA, Sem.run_bind, Sem.run_pure, Result.andThen_ok, invoke, builtin, hr]
      · cases h
    · cases h
  · cases h

end Go.Proofs.YtdgpdmbfhehpfaaGreatDoor.Ev
