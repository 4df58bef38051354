/-
  Num and Has of the document's store: the first place at which the row stands.
-/
import Derived.Test.YtgodidoibcomcaaRAsk
namespace Go.Proofs.Ytgodidoibcomcaa
open Go.RowKit

theorem numI_first {rows : List Row} {r : Row} {k : Nat} (h : rows[k]? = some r) (hn : r ∉ rows.take k) : numI rows r = (k : Int) := by
  unfold numI
  have : rows.findIdx? (fun x => decide (x = r)) = some k := by
    rw [List.findIdx?_eq_some_iff_getElem]
    obtain ⟨hk, he⟩ := List.getElem?_eq_some_iff.1 h
    refine ⟨hk, by rw [he]; simp, fun j hj => ?_⟩
    simp only [Bool.not_eq_true, decide_eq_false_iff_not]
    intro e
    apply hn
    rw [List.mem_iff_getElem?]
    refine ⟨j, ?_⟩
    rw [List.getElem?_take, if_pos hj, List.getElem?_eq_getElem (by omega), e]
  rw [this]
theorem numI_none {rows : List Row} {r : Row} (hn : r ∉ rows) : numI rows r = -1 := by
  rcases numI_cases rows r with ⟨i, hi, _⟩ | ⟨_, h⟩
  · exact absurd (List.mem_of_getElem? hi) hn
  · exact h

section
variable {s rb : Nat} {ρ : Rf} {τ : Own} {w : World} {aA : Option Addr} {cA : Nat} {vL vB : Value}

set_option maxHeartbeats 4000000 in
theorem rnum_any (hs : RefAt s rb ρ τ w aA cA vL vB) (q : Int) (ab : Option Addr) (cb : Nat) (ys : List Int) (hb : Ints w ab ys) :
    Calls Try.prog 54 #[.pointer (some ⟨rb, 0, none⟩), .agg #[.int .i64 q, .slice ab ys.length cb]] w fun e w' => e = .returned (.int .i64 (numI ρ.rows (q, ys))) ∧ Below w.heap.size w w' := by
  obtain ⟨a, c, rfl, hZ⟩ := hs.listZ
  obtain ⟨c0, c1, c2, c3, c4⟩ := hs.cells
  have hB := hs.many
  have hbw : Below w.heap.size w (w.alloc (.cells #[.int .i64 q, .slice ab ys.length cb] 28)) := (Below.refl _ _).alloc (Nat.le_refl _) _
  have HF := Lib.hid (fun (r : Row) (h : r ∈ ρ.rows) => (hs.fits r h).2.2.2.1)
  have HZ := Lib.hid (hZ.below hbw (Nat.le_refl _))
  have HY := Lib.hid (hb.below hbw)
  have d1 := on_cell hbw c1
  obtain ⟨bx, hbx⟩ : ∃ b, b = w.heap.size := ⟨_, rfl⟩
  have x0 : (w.alloc (.cells #[.int .i64 q, .slice ab ys.length cb] 28)).cell? ⟨bx, 0, none⟩ = some (.int .i64 q) := by rw [hbx]; simp
  have x1 : (w.alloc (.cells #[.int .i64 q, .slice ab ys.length cb] 28)).cell? ⟨bx, 1, none⟩ = some (.slice ab ys.length cb) := by rw [hbx]; simp
  obtain ⟨W0, hW0⟩ : ∃ W, W = w.alloc (.cells #[.int .i64 q, .slice ab ys.length cb] 28) := ⟨_, rfl⟩
  rw [← hW0] at hbw HZ HY d1 x0 x1
  have HW0 := Lib.hid hW0
  have HBx := Lib.hid hbx
  clear hs c0 c1 c2 c3 c4 hZ hb hW0 hbx
  go_enter Try.func54, Try.ntmps54
  go_upto_region 1 with fail
  rw [← HW0.out, ← HBx.out]
  go_wp2_with fail
  go_loopw [5] (fun i wr => ∃ k : Nat, k ≤ ρ.rows.length ∧ i = .int .i64 k ∧ Hid ((q, ys) ∉ ρ.rows.take k) ∧ Below W0.heap.size W0 wr) (fun i _ => ρ.rows.length - (intOf i).toNat)
  case atStart => exact ⟨0, Nat.zero_le _, rfl, Lib.hid (by simp), Below.refl _ _⟩
  case round =>
    obtain ⟨k, hk, rfl, HT, hbel⟩ := hrel
    have e1 := on_cell hbel d1
    have y0 := on_cell hbel x0
    have y1 := on_cell hbel x1
    by_cases hlt : k < ρ.rows.length
    · rcases HZ.out.1 with h | ⟨b, o, rfl, _, hc⟩
      · rw [h] at hlt; simp at hlt
      · obtain ⟨p, ai, ci, xs, k0, k1, HI, HX⟩ := rows_at hc hlt
        have e2 := on_cell hbel k0
        have e3 := on_cell hbel k1
        clear hc k0 k1
        have hx8 := HF.out _ (List.mem_of_getElem? HX.out)
        simp only at hx8
        have cE := Lib.hid (fun (W : World) (hW : Below wr.heap.size wr W) => requal_any p q ai ab ci cb xs ys W (HI.out.ints.below (hbel.trans (hW.mono hbel.size))) (HY.out.below (hbel.trans (hW.mono hbel.size))) (by omega))
        by_cases heq : (p, xs) = (q, ys)
        · have hd : decide ((p, xs) = (q, ys)) = true := by simpa using heq
          have HEq := Lib.hid heq
          rw [hd] at cE
          clear heq hd
          go_wp2
          go_region_held3 (fun w' => Below wr.heap.size wr w' ∧ w'.cell? ⟨rb, 1, none⟩ = some (.slice (some ⟨b, o, none⟩) ρ.rows.length c) ∧ w'.cell? ⟨b, o + k * 2, none⟩ = some (.int .i64 p) ∧ w'.cell? ⟨b, o + k * 2 + 1, none⟩ = some (.slice ai xs.length ci) ∧ w'.cell? ⟨bx, 0, none⟩ = some (.int .i64 q) ∧ w'.cell? ⟨bx, 1, none⟩ = some (.slice ab ys.length cb)) (first | assumption | exact ⟨(Below.refl _ _).drew, e1, e2, e3, y0, y1⟩ | go_keep) (first
            | (go_at_call 53
               have hH := (‹Below wr.heap.size wr _ ∧ _ ∧ _›)
               with_reducible refine (cE.out _ hH.1).mono ?_
               rintro e w' ⟨rfl, hb⟩
               have hS : Below wr.heap.size wr w' ∧ w'.cell? ⟨rb, 1, none⟩ = some (.slice (some ⟨b, o, none⟩) ρ.rows.length c) ∧ w'.cell? ⟨b, o + k * 2, none⟩ = some (.int .i64 p) ∧ w'.cell? ⟨b, o + k * 2 + 1, none⟩ = some (.slice ai xs.length ci) ∧ w'.cell? ⟨bx, 0, none⟩ = some (.int .i64 q) ∧ w'.cell? ⟨bx, 1, none⟩ = some (.slice ab ys.length cb) := ⟨hH.1.trans (hb.mono hH.1.size), on_cell hb hH.2.1, on_cell hb hH.2.2.1, on_cell hb hH.2.2.2.1, on_cell hb hH.2.2.2.2.1, on_cell hb hH.2.2.2.2.2⟩))
          have hS := (‹Below wr.heap.size wr _ ∧ _ ∧ _›).1
          go_wp2
          go_ret
          exact ⟨by rw [← HEq.out, numI_first HX.out (by rw [HEq.out]; exact HT.out)]; rfl, hbw.trans ((hbel.trans (hS.mono hbel.size)).mono hbw.size)⟩
        · have hd : decide ((p, xs) = (q, ys)) = false := by simpa using heq
          have HEq := Lib.hid heq
          rw [hd] at cE
          clear heq hd
          go_wp2
          go_region_held3 (fun w' => Below wr.heap.size wr w' ∧ w'.cell? ⟨rb, 1, none⟩ = some (.slice (some ⟨b, o, none⟩) ρ.rows.length c) ∧ w'.cell? ⟨b, o + k * 2, none⟩ = some (.int .i64 p) ∧ w'.cell? ⟨b, o + k * 2 + 1, none⟩ = some (.slice ai xs.length ci) ∧ w'.cell? ⟨bx, 0, none⟩ = some (.int .i64 q) ∧ w'.cell? ⟨bx, 1, none⟩ = some (.slice ab ys.length cb)) (first | assumption | exact ⟨(Below.refl _ _).drew, e1, e2, e3, y0, y1⟩ | go_keep) (first
            | (go_at_call 53
               have hH := (‹Below wr.heap.size wr _ ∧ _ ∧ _›)
               with_reducible refine (cE.out _ hH.1).mono ?_
               rintro e w' ⟨rfl, hb⟩
               have hS : Below wr.heap.size wr w' ∧ w'.cell? ⟨rb, 1, none⟩ = some (.slice (some ⟨b, o, none⟩) ρ.rows.length c) ∧ w'.cell? ⟨b, o + k * 2, none⟩ = some (.int .i64 p) ∧ w'.cell? ⟨b, o + k * 2 + 1, none⟩ = some (.slice ai xs.length ci) ∧ w'.cell? ⟨bx, 0, none⟩ = some (.int .i64 q) ∧ w'.cell? ⟨bx, 1, none⟩ = some (.slice ab ys.length cb) := ⟨hH.1.trans (hb.mono hH.1.size), on_cell hb hH.2.1, on_cell hb hH.2.2.1, on_cell hb hH.2.2.2.1, on_cell hb hH.2.2.2.2.1, on_cell hb hH.2.2.2.2.2⟩))
          have hS := (‹Below wr.heap.size wr _ ∧ _ ∧ _›).1
          go_wp2
          go_roundw
          case rel => exact ⟨k + 1, by omega, by go_num, Lib.hid (by rw [take_snoc' HX.out]; simp only [List.mem_append, List.mem_singleton, not_or]; exact ⟨HT.out, fun h => HEq.out h.symm⟩), hbel.trans (hS.mono hbel.size)⟩
          case measure => simp [intOf]; omega
    · have h0 := HT.out
      rw [List.take_of_length_le (by omega)] at h0
      have HN := Lib.hid h0
      clear h0
      go_wp2
      go_ret
      exact ⟨by rw [numI_none HN.out]; rfl, hbw.trans (hbel.mono hbw.size)⟩

set_option maxHeartbeats 2000000 in
theorem rhas_any (hs : RefAt s rb ρ τ w aA cA vL vB) (q : Int) (ab : Option Addr) (cb : Nat) (ys : List Int) (hb : Ints w ab ys) :
    Calls Try.prog 52 #[.pointer (some ⟨rb, 0, none⟩), .agg #[.int .i64 q, .slice ab ys.length cb]] w fun e w' => e = .returned (.bool (decide (0 ≤ numI ρ.rows (q, ys)))) ∧ Below w.heap.size w w' := by
  have hbw : Below w.heap.size w (w.alloc (.cells #[.int .i64 q, .slice ab ys.length cb] 28)) := (Below.refl _ _).alloc (Nat.le_refl _) _
  have cN := Lib.hid (rnum_any (hs.below hbw) q ab cb ys (hb.below hbw))
  obtain ⟨n, hn⟩ : ∃ n, numI ρ.rows (q, ys) = n := ⟨_, rfl⟩
  rw [hn] at cN ⊢
  clear hs hb hn
  go_enter Try.func52, Try.ntmps52
  go_wp2_with fail
  with_reducible refine cN.out.mono ?_
  rintro e w1 ⟨rfl, hb1⟩
  go_wp2
  go_ret
  exact ⟨rfl, hbw.trans (hb1.mono hbw.size)⟩
end
end Go.Proofs.Ytgodidoibcomcaa
