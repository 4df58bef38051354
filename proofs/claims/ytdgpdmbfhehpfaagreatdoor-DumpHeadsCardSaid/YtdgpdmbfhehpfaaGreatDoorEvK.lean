/-
  The evaluator's operations are sound: copy, conversions, casts of pointers.
-/
import Derived.Test.YtdgpdmbfhehpfaaGreatDoorEvJ
import Derived.Lib.Builder
import Derived.Lib.UnsafeStr
import Derived.Laws.BytesString
set_option linter.all false
namespace Go.Proofs.YtdgpdmbfhehpfaaGreatDoor.Ev
open Go.RowKit

variable {gs : Prm} {P : Program} {N0 : Nat} {ρ : Env} {h h' : Heap} {w : World} {nb : Nat}

theorem copy_ok {ts : Array TypeId} {ty : TypeId} {t : Nat} (ht : ts[0]? = some t) (H : Holds P N0 ρ h w) {d s : AVal} {D S : Value} (hD : VRel ρ d D) (hS : VRel ρ s S) {n : ANext} (hr : copyA P h t d s = some (n, h')) :
    ∃ V w', (Builtin.copy_ ts ty #[D, S]).run P w = .ok V w' ∧ Mov N0 (· ≠ nb) ρ w ρ w' ∧ Holds P N0 ρ h' w' ∧ ∃ v, n = .value v ∧ VRel ρ v V := by
  unfold copyA at hr
  split at hr
  · rename_i e hu
    simp only [Option.bind_eq_some_iff] at hr
    obtain ⟨size, hsize, dl, hdl, sl, hsl, cs, hcs, hr⟩ := hr
    obtain ⟨us, hus, hrel⟩ := first_ok H hS hcs
    have hl := len_of (P := P) hS hsl (first_kind hcs) w
    split at hr
    · rename_i b o len cap
      simp only [lenA, Option.some.injEq] at hdl
      subst hdl
      have key : ∀ B c cap', ρ b = some (B, c) → D = .slice (some ⟨B, ρ.β b + o, none⟩) len cap' →
          ∃ V w', (Builtin.copy_ ts ty #[D, S]).run P w = .ok V w' ∧ Mov N0 (· ≠ nb) ρ w ρ w' ∧ Holds P N0 ρ h' w' ∧ ∃ v, n = .value v ∧ VRel ρ v V := by
        rintro B c cap' hB rfl
        split at hr
        · rename_i hz
          have hz := Nat.eq_of_beq_eq_true hz
          cases hr
          have hu0 : us = [] := by
            have h1 := hrel.length
            have : cs = [] := by
              unfold firstCells at hcs
              rw [hz] at hcs
              split at hcs
              · unfold rds at hcs
                split at hcs
                · split at hcs
                  · cases hcs; simp
                  · cases hcs
                · cases hcs
              · split at hcs
                · cases hcs; rfl
                · cases hcs
              · split at hcs
                · cases hcs; simp
                · cases hcs
              · cases hcs
            subst this
            simpa using h1.symm
          subst hu0
          rw [hz] at hus
          refine ⟨.int .i64 0, w, ?_, Mov.refl _ _ _ _, H, _, rfl, .int _ _⟩
          simp [Builtin.copy_, ht, run_underlying hu, hl, size_run hsize, hus, storeCells, hz, goInt]
        · simp only [Option.map_eq_some_iff] at hr
          obtain ⟨h1, hw, he⟩ := hr
          cases he
          obtain ⟨w', hst, H', M⟩ := wrs_ok (K := (· ≠ nb)) H hw hB hrel
          refine ⟨.int .i64 (.ofNat (Nat.min sl len)), w', ?_, M, H', _, rfl, .int _ _⟩
          simp [Builtin.copy_, ht, run_underlying hu, hl, size_run hsize, hus, hst, goInt]
      cases hD with
      | sliceE hB => exact key _ _ _ hB rfl
      | sliceR hB _ => exact key _ _ _ hB rfl
    · cases hr
  · cases hr

theorem push_modify {α : Type} (a : Array α) (x : α) (f : α → α) : (a.push x).modify a.size f = a.push (f x) := by
  apply Array.ext
  · simp
  · intro i h1 h2
    simp only [Array.getElem_modify, Array.getElem_push]
    by_cases hi : i < a.size
    · have : ¬ a.size = i := by omega
      simp [hi, this]
    · have : a.size = i := by simp at h2; omega
      simp [this]

theorem freeze_new (w : World) (C : Array Value) (e : TypeId) (o : Nat) : (w.alloc (.cells C e)).freeze ⟨w.heap.size, o, none⟩ 1 = w.alloc (.cells C e (o, o + 1)) := by
  simp only [World.freeze, World.alloc, Nat.one_ne_zero, if_false]
  rw [push_modify]
  rfl

theorem u8s_rel (l : List UInt8) : VRels ρ (u8s l) (l.map fun b => Value.int .u8 b.toNat) := by
  induction l with
  | nil => exact .nil
  | cons b l ih => exact .cons (.int _ _) ih

theorem bytes_ok : ∀ {vs : List AVal} {us : List Value} {l : List UInt8}, VRels ρ vs us → bytesOf vs = some l → us = l.map (fun b => Value.int .u8 b.toNat)
  | [], us, l, hv, h => by cases hv; simp [bytesOf] at h; subst h; rfl
  | a :: vs, us, l, hv, h => by
    cases hv with
    | cons h1 h2 =>
    unfold bytesOf at h
    split at h
    · rename_i heq; cases heq
    · rename_i n vs' heq
      cases heq
      split at h
      · rename_i hb
        simp only [Nat.blt_eq] at hb
        simp only [Option.map_eq_some_iff] at h
        obtain ⟨l', hl', rfl⟩ := h
        cases h1
        have ih := bytes_ok h2 hl'
        subst ih
        have : (UInt8.ofNat n).toNat = n := by simp; omega
        simp [this]
      · cases h
    · cases h

theorem foldl_push : ∀ (l : List UInt8) (s : ByteArray), (l.map fun b => (b.toNat : Int)).foldl (fun r (n : Int) => r.push (UInt8.ofNat n.toNat)) s = ⟨⟨s.data.toList ++ l⟩⟩
  | [], s => by
    obtain ⟨⟨s⟩⟩ := s
    simp
  | b :: l, s => by
    simp only [List.map_cons, List.foldl_cons]
    rw [foldl_push l]
    have : UInt8.ofNat ((b.toNat : Int)).toNat = b := by simp
    rw [this]
    obtain ⟨⟨s⟩⟩ := s
    simp [ByteArray.push]

theorem convA_ok {a : Act} {o : Oper} {s d : Nat} {x : Operand} (ho : o.op = .convert s d x) (H : Holds P N0 ρ h w) (hnb : nb < h.next) (hf : ρ nb = none) {v : AVal} (hx : VRel ρ v (a.eval x)) {n : ANext} (hr : convA P h nb s d v = some (n, h')) :
    Good P N0 (· ≠ nb) ρ w h' n ((execOp a.eval o).run P w) := by
  generalize hX : a.eval x = X at hx
  have go : ∀ {V : Value} {w' : World} {ρ' : Env} {q : AVal}, (convert s d X).run P w = .ok V w' → Mov N0 (· ≠ nb) ρ w ρ' w' → Holds P N0 ρ' h' w' → n = .value q → VRel ρ' q V → Good P N0 (· ≠ nb) ρ w h' n ((execOp a.eval o).run P w) :=
    fun {V w' ρ' q} hrun M H' hn hV => ⟨.value V, _, _, by simp only [execOp, ho, hX, Sem.run_bind, hrun, Result.andThen_ok, Sem.run_pure], M, H', by subst hn; exact ⟨_, rfl, hV⟩⟩
  unfold convA at hr
  split at hr
  · rename_i e str hs hd
    split at hr
    · rename_i he
      split at hr
      · rename_i hsz
        cases hr
        cases hx
        simp only [tsize, Option.map_eq_some_iff] at hsz
        obtain ⟨i, hi, hi1⟩ := hsz
        have hnc : str.size ≤ (Question.appendCap str.size 0 e).cut (w.tape w.drawn (.appendCap str.size 0 e)) := by simp only [Question.cut]; omega
        generalize hq : (Question.appendCap str.size 0 e).cut (w.tape w.drawn (.appendCap str.size 0 e)) = q at hnc
        have hlen : (str.data.toList.map fun b => Value.int .u8 b.toNat).length = str.size := by rw [List.length_map]; rfl
        obtain ⟨ρ', H', M, hB, hB0⟩ := H.drew.rowG hnb hf (u8s_rel str.data.toList) e (q, q + 1) false (fun e => by cases e) hi (room := q) (zs := List.replicate (q - str.size) (.int .u8 0)) (by
          rw [hlen, List.length_replicate, hi1]; omega)
        refine go (V := .slice (some ⟨w.heap.size, 0, none⟩) str.size q) ?_ ⟨M.ext, ((Below.refl _ _).drew).trans M.below, M.keep⟩ H' rfl ?_
        · have hC : (str.data.map fun b => Value.int .u8 b.toNat) ++ Array.replicate (q - str.size) (.int .u8 0) = ⟨(str.data.toList.map fun b => Value.int .u8 b.toNat) ++ List.replicate (q - str.size) (.int .u8 0)⟩ := by
            apply Array.ext'; simp
          have hCs : ((⟨(str.data.toList.map fun b => Value.int .u8 b.toNat) ++ List.replicate (q - str.size) (.int .u8 0)⟩ : Array Value)).size = q := by
            rw [List.size_toArray, List.length_append, hlen, List.length_replicate]; omega
          rw [← freeze_new w.drew]
          simp only [convert, Sem.run_bind, run_underlying hs, run_underlying hd, Result.andThen_ok, run_underlying he, Conv.stringToBytes, run_choose, Question.forced, Bool.false_eq_true, if_false, hq, hC, newRow, run_newObj, Sem.run_pure, markStringish, run_shape]
          have hshape : (w.drew.alloc (.cells ⟨(str.data.toList.map fun b => Value.int .u8 b.toNat) ++ List.replicate (q - str.size) (.int .u8 0)⟩ e)).shape? w.heap.size = some (e, q) := by
            have := heap_alloc_new w.drew (.cells ⟨(str.data.toList.map fun b => Value.int .u8 b.toNat) ++ List.replicate (q - str.size) (.int .u8 0)⟩ e)
            simp only [World.shape?]
            rw [show w.heap.size = w.drew.heap.size from rfl, this]
            simp only [hCs]
          erw [hshape]
          rfl
        · have := VRel.sliceR0 (ρ := ρ') (o := 0) (n := str.size) (k := 0) hB hB0 (by omega)
          simpa using this
      · cases hr
    · cases hr
  · rename_i t b off hs hd
    cases hx with
    | @ptr _ _ B c hB =>
    simp only [Option.bind_eq_some_iff] at hr
    obtain ⟨m, hm, u, hu, hr⟩ := hr
    split at hr
    · cases hr
    · rename_i hz
      cases hr
      simp only [tsize, Option.map_eq_some_iff] at hm
      obtain ⟨i, hi, rfl⟩ := hm
      have hz' : i.size ≠ 0 := fun e => by rw [e] at hz; simp at hz
      unfold rd at hu
      split at hu
      · rename_i cs e x wr hg
        obtain ⟨C, E, fr, hC, _, hl, _⟩ := H.cells hg hB
        have hoff : off < cs.length := (List.getElem?_eq_some_iff.1 hu).1
        have hr := Lib.run_to_unsafe w (⟨B, ρ.β b + off, none⟩ : Addr) hs hd hi hz' (e := E) (cells := C.size) (by simp [World.shape?, hC]) (by simp; omega)
        exact go hr (Mov.refl _ _ _ _) H rfl (.ptr hB)
      · cases hu
  · rename_i t b off hs hd
    cases hx with
    | @ptr _ _ B c hB =>
    simp only [Option.bind_eq_some_iff] at hr
    obtain ⟨m, hm, hr⟩ := hr
    simp only [tsize, Option.map_eq_some_iff] at hm
    obtain ⟨i, hi, rfl⟩ := hm
    split at hr
    · rename_i cs e hg
      split at hr
      · rename_i hlies
        cases hr
        obtain ⟨C, E, fr, hC, _, hl, hfr, hx, _⟩ := H.cells hg hB
        obtain ⟨hβ, hE, _⟩ := hfr rfl
        subst hE
        have hcl := hx rfl rfl
        have hr := Lib.run_from_unsafe w (⟨B, ρ.β b + off, none⟩ : Addr) hs hd hi (e := E) (cells := C.size) (by simp [World.shape?, hC]) (by simp only [hβ, Nat.zero_add]; rw [← hcl]; exact hlies)
        exact go hr (Mov.refl _ _ _ _) H rfl (.ptr hB)
      · cases hr
    · cases hr
  · rename_i e b off m cap hs hd
    split at hr
    · rename_i he
      simp only [Option.bind_eq_some_iff, Option.map_eq_some_iff] at hr
      obtain ⟨vs, hvs, l, hl, he2⟩ := hr
      cases he2
      have key : ∀ B c cap', ρ b = some (B, c) → (convert s d (.slice (some ⟨B, ρ.β b + off, none⟩) m cap')).run P w = .ok (.string ⟨⟨l⟩⟩) w := fun B c cap' hB => by
        obtain ⟨us, hul, hur, huc⟩ := rds_ok H hvs hB
        have hb := bytes_ok hur hl
        rw [run_convert_bytes_string w s d e _ _ _ hs he hd]
        have hld := run_loadCells_list (P := P) w ⟨B, ρ.β b + off, none⟩ us huc
        rw [hul, hb] at hld
        have := run_bytesToString (P := P) w ⟨B, ρ.β b + off, none⟩ m cap' (l.map fun b => (b.toNat : Int)) (by
          rw [hld]
          congr 1
          apply Array.ext'
          simp)
        rw [this, foldl_push]
        rfl
      cases hx with
      | sliceE hB => exact go (key _ _ _ hB) (Mov.refl _ _ _ _) H rfl (.str _)
      | sliceR hB _ => exact go (key _ _ _ hB) (Mov.refl _ _ _ _) H rfl (.str _)
    · cases hr
  · cases hr

theorem sliceData_ok {ts : Array TypeId} {ty : TypeId} (H : Holds P N0 ρ h w) {x : AVal} {X : Value} (hX : VRel ρ x X) {n : ANext} (hr : sliceDataA h x = some (n, h')) :
    ∃ V, (Builtin.unsafeSliceData_ ts ty #[X]).run P w = .ok V w ∧ h' = h ∧ ∃ v, n = .value v ∧ VRel ρ v V := by
  unfold sliceDataA at hr
  split at hr
  · cases hr; cases hX; exact ⟨_, Lib.run_unsafeSliceData_nil w ts ty 0 0, rfl, _, rfl, .nilp⟩
  · cases hr
    cases hX with
    | sliceR hB hle => exact ⟨_, Lib.run_unsafeSliceData_row w ts ty _ _ _ (by omega), rfl, _, rfl, .ptr hB⟩
  · cases hr

theorem unsafeString_ok {ts : Array TypeId} {ty : TypeId} (H : Holds P N0 ρ h w) {x y : AVal} {X Y : Value} (hX : VRel ρ x X) (hY : VRel ρ y Y) {n : ANext} (hr : unsafeStringA P h ts.toList x y = some (n, h')) :
    ∃ V w', (Builtin.unsafeString_ ts ty #[X, Y]).run P w = .ok V w' ∧ Mov N0 (· ≠ nb) ρ w ρ w' ∧ Holds P N0 ρ h' w' ∧ ∃ v, n = .value v ∧ VRel ρ v V := by
  obtain ⟨ts⟩ := ts
  unfold unsafeStringA at hr
  split at hr
  · rename_i pt it heq
    simp only at heq
    subst heq
    cases hr; cases hX; cases hY
    exact ⟨_, w, Lib.run_unsafeString_none w pt it ty none, Mov.refl _ _ _ _, H, _, rfl, .str _⟩
  · rename_i pt it b m heq
    simp only at heq
    subst heq
    cases hX with
    | @ptr _ _ B c hB =>
    cases hY
    split at hr
    · rename_i u cs e x hp hg
      split at hr
      · rename_i hue hsz hm
        have hue := Nat.eq_of_beq_eq_true hue
        subst hue
        simp only [Nat.blt_eq] at hm
        simp only [Option.bind_eq_some_iff, Option.map_eq_some_iff] at hr
        obtain ⟨vs, hvs, l, hl, he⟩ := hr
        cases he
        obtain ⟨C, E, fr, hC, hcs, hcl, hfr, hx, hrm⟩ := H.cells hg hB
        obtain ⟨hβ, hE, hfr⟩ := hfr rfl
        subst hfr
        obtain ⟨us, hul, hur, huc⟩ := rds_ok H hvs hB
        rw [hβ, Nat.zero_add] at hcl
        simp only [hβ, Nat.zero_add] at huc ⊢
        rw [hβ] at hcs
        have hb := bytes_ok hur hl
        have hll : l.length = m + 1 := by rw [← hul, hb, List.length_map]
        simp only [tsize, Option.map_eq_some_iff] at hsz
        obtain ⟨i, hi, hi1⟩ := hsz
        have hc1 : P.cellsOf u = 1 := by simp [Program.cellsOf, hi, hi1]
        have hle : m + 1 ≤ cs.length := by
          unfold rds at hvs
          rw [hg] at hvs
          simp only at hvs
          split at hvs
          · rename_i hb; have := Nat.le_of_ble_eq_true hb; omega
          · cases hvs
        have hrun := Lib.run_unsafeString_row (P := P) w pt it ty u hp hc1 B C.size (by simp [World.shape?, hC, hE]) l (by intro e; rw [e] at hll; simp at hll) (by omega) (by omega)
          (fun j x hj => huc j _ (by rw [hb, List.getElem?_map, hj]; rfl))
        rw [hll] at hrun
        have hz : ¬ (m + 1 = 0) := by omega
        have hw' : (w.freeze ⟨B, 0, none⟩ (m + 1)).heap = w.heap.modify B fun
            | .cells c elem (lo, hi) => .cells c elem (if lo == hi then (0, 0 + (m + 1)) else (min lo 0, max hi (0 + (m + 1))))
            | o => o := by
          simp only [World.freeze, hz, if_false]
          congr 1
        obtain ⟨H', M⟩ := H.put (K := (· ≠ nb)) hg rfl hB (o' := .cells cs u x false) (O := .cells C E (0, 0 + (m + 1))) (w' := w.freeze ⟨B, 0, none⟩ (m + 1))
          ⟨C, E, _, rfl, by rw [hβ]; exact hcs, by rw [hβ, Nat.zero_add]; exact hcl, fun e => (by cases e), fun _ e => (by cases e), hrm⟩ (by rw [hw']; simp [Array.getElem?_modify, hC]) (fun k hk => by rw [hw']; simp [Array.getElem?_modify, Ne.symm hk]) (by rw [hw']; simp)
          (by simp only [World.freeze, hz, if_false]) (by simp only [World.freeze, hz, if_false]) (by simp only [World.freeze, hz, if_false])
        exact ⟨_, _, hrun, M, H', _, rfl, .str _⟩
      · cases hr
    · cases hr
  · cases hr

end Go.Proofs.YtdgpdmbfhehpfaaGreatDoor.Ev
