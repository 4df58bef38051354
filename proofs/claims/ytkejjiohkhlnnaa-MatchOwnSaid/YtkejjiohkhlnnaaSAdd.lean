/-
  What Add does with rows that may be in the store: those that are new are put in, in order.
-/
import Derived.Test.YtkejjiohkhlnnaaSPush
namespace Go.Proofs.Ytkejjiohkhlnnaa
open Go.RowKit
open Go.Maps (Keyed)

def St.addAll (σ : St) (l : List Row) : St := l.foldl (fun σ r => if r ∈ σ.rows then σ else σ.push r) σ
theorem addAll_snoc (σ : St) (l : List Row) (r : Row) : σ.addAll (l ++ [r]) = if r ∈ (σ.addAll l).rows then σ.addAll l else (σ.addAll l).push r := by
  unfold St.addAll; rw [List.foldl_append]; rfl
theorem addAll_rows (σ : St) (l : List Row) : (σ.addAll l).rows = joinedL σ.rows l := by
  induction l generalizing σ with
  | nil => rfl
  | cons r l ih =>
    have h := ih (if r ∈ σ.rows then σ else σ.push r)
    have e : (if r ∈ σ.rows then σ else σ.push r).rows = if r ∈ σ.rows then σ.rows else σ.rows ++ [r] := by split <;> rfl
    rw [e] at h
    exact h
theorem addAll_ar (σ : St) (l : List Row) : (σ.addAll l).ar = σ.ar := by
  induction l generalizing σ with
  | nil => rfl
  | cons r l ih =>
    have h := ih (if r ∈ σ.rows then σ else σ.push r)
    have e : (if r ∈ σ.rows then σ else σ.push r).ar = σ.ar := by split <;> rfl
    rw [e] at h
    exact h
theorem addAll_births (σ : St) (l : List Row) : (σ.addAll l).births ≤ σ.births + l.length := by
  induction l generalizing σ with
  | nil => exact Nat.le_refl _
  | cons r l ih =>
    have h := ih (if r ∈ σ.rows then σ else σ.push r)
    have e : (if r ∈ σ.rows then σ else σ.push r).births ≤ σ.births + 1 := by split <;> simp [St.push]
    have : (σ.addAll (r :: l)).births ≤ _ := h
    simp only [List.length_cons]
    omega

/-- what is not of s stays, whatever turns in s -/
theorem apart_turn {s : Nat} {R : Role → Prop} {τ τ' : Own} {w w' : World} (ht : Turn s R τ τ' w w') {a : Option Addr} {c : Nat} {xs : List Int} (hi : IntsZ (fun j => ∀ r, τ j ≠ some (s, r)) w a c xs) : IntsZ (fun j => ∀ r, τ' j ≠ some (s, r)) w' a c xs :=
  hi.keep (fun j hj hz => ht.keep j hj (fun r e => absurd e (hz r))) (fun j hj hz r e => hz r ((ht.own j hj).symm.trans e))
theorem apartRows_turn {s : Nat} {R : Role → Prop} {τ τ' : Own} {w w' : World} (ht : Turn s R τ τ' w w') {a : Option Addr} {c : Nat} {l : List Row} (hi : RowsZ (fun j => ∀ r, τ j ≠ some (s, r)) w a c l) : RowsZ (fun j => ∀ r, τ' j ≠ some (s, r)) w' a c l :=
  hi.keep (fun j hj hz => ht.keep j hj (fun r e => absurd e (hz r))) (fun j hj hz r e => hz r ((ht.own j hj).symm.trans e))

set_option maxHeartbeats 4000000 in
set_option maxRecDepth 8000 in
theorem add_apart {s sb : Nat} {σ : St} {τ : Own} {w : World} (hs : IsStore s sb σ τ w) (a : Option Addr) (c : Nat) (l : List Row) (hl : RowsZ (fun j => ∀ r, τ j ≠ some (s, r)) w a c l) (hf : ∀ r ∈ l, FitsRow σ.ar r) (hB : σ.births + l.length ≤ 100000000000) :
    Calls Try.prog 21 #[.pointer (some ⟨sb, 0, none⟩), .slice a l.length c] w fun e w' => e = .returned (.tuple #[.int .i64 ((σ.addAll l).rows.length - σ.rows.length : Int), .int .i64 0]) ∧ ∃ τ', IsStore s sb (σ.addAll l) τ' w' ∧ Turn s (fun _ => True) τ τ' w w' := by
  have HS := Lib.hid hs
  have HL := Lib.hid hl
  have HF := Lib.hid hf
  have hfr : Fresh τ w := by obtain ⟨h, hs⟩ := hs; exact hs.fresh
  have HFr := Lib.hid hfr
  clear hs hl hf hfr
  go_enter Try.func21, Try.ntmps21
  go_wp2
  go_loopw [17] (fun i wr => ∃ k : Nat, k ≤ l.length ∧ i = .int .i64 k ∧ Below w.heap.size w wr) (fun i _ => l.length - (intOf i).toNat)
  case atStart => exact ⟨0, Nat.zero_le _, rfl, Below.refl _ _⟩
  case round =>
    obtain ⟨k, hk, rfl, hbel⟩ := hrel
    by_cases hlt : k < l.length
    · rcases HL.out.1 with hn | ⟨b, o, rfl, _, hc⟩
      · rw [hn] at hlt; simp at hlt
      · obtain ⟨p, ai, ci, xs, c0, c1, HI, HX⟩ := rows_at hc hlt
        have e0 := (hbel.cell (World.block_lt_of_cell? _ _ c0)).trans c0
        have e1 := (hbel.cell (World.block_lt_of_cell? _ _ c1)).trans c1
        clear hc c0 c1
        have hb1 : Below wr.heap.size wr (wr.alloc (.cells #[.int .i64 p, .slice ai xs.length ci] 50)) := (Below.refl _ _).alloc (Nat.le_refl _) _
        have hb2 := hbel.trans (hb1.mono hbel.size)
        obtain ⟨h, hs⟩ := HS.out
        have cF := Lib.hid (fitsRow_any (hs.below hb2) p ai ci xs (HI.out.below hb2 (Nat.le_refl _)) (HF.out _ (List.mem_of_getElem? HX.out)))
        have hsz := asz wr (.cells #[.int .i64 p, .slice ai xs.length ci] 50)
        clear hs
        go_wp2_with (go_at_call 53; refine cF.out.mono ?_; rintro e w2 ⟨rfl, hb3⟩)
        go_roundw
        case rel => exact ⟨k + 1, by omega, by go_num, hb2.trans (hb3.mono hb2.size)⟩
        case measure => simp [intOf]; omega
    · obtain ⟨w1, hw1⟩ : ∃ w1, w1 = wr := ⟨_, rfl⟩
      subst hw1
      have T0 : Turn s (fun _ => True) τ τ w w1 := Turn.of_below hbel HFr.out
      have HS1 := Lib.hid (HS.out.below hbel)
      have HL1 := Lib.hid (HL.out.below hbel (Nat.le_refl _))
      go_wp2
      go_loopw [8, 28] (fun v i wr => ∃ (k : Nat) (τr : Own), k ≤ l.length ∧ i = .int .i64 k ∧ v = .int .i64 ((σ.addAll (l.take k)).rows.length - σ.rows.length : Int) ∧ Hid (IsStore s sb (σ.addAll (l.take k)) τr wr) ∧ Turn s (fun _ => True) τ τr w1 wr) (fun _ i _ => l.length - (intOf i).toNat)
      case atStart => exact ⟨0, τ, Nat.zero_le _, rfl, by simp [St.addAll], HS1, Turn.refl (T0.fresh)⟩
      case round =>
        obtain ⟨k, τr, hk, rfl, rfl, HSr, Tr⟩ := hrel
        by_cases hlt : k < l.length
        · rcases HL1.out.1 with hn | ⟨b, o, rfl, hbz, hc⟩
          · rw [hn] at hlt; simp at hlt
          · obtain ⟨p, ai, ci, xs, c0, c1, HI, HX⟩ := rows_at hc hlt
            have e0 := Tr.cell c0 (fun r e => absurd e (hbz r))
            have e1 := Tr.cell c1 (fun r e => absurd e (hbz r))
            have HIr := Lib.hid (apart_turn Tr HI.out)
            clear hc c0 c1
            have hfr := HF.out _ (List.mem_of_getElem? HX.out)
            have hsnoc : σ.addAll (l.take (k + 1)) = if (p, xs) ∈ (σ.addAll (l.take k)).rows then σ.addAll (l.take k) else (σ.addAll (l.take k)).push (p, xs) := by
              rw [take_snoc' HX.out]; exact addAll_snoc _ _ _
            have hbirth := addAll_births σ (l.take k)
            have hlk : (l.take k).length = k := by simp; omega
            have har := addAll_ar σ (l.take k)
            have hlen : (σ.addAll (l.take k)).rows.length ≤ (σ.addAll (l.take k)).births := by obtain ⟨_, h⟩ := HSr.out; exact h.sound.many
            have hlen0 : σ.rows.length ≤ (σ.addAll (l.take k)).rows.length := by
              rw [addAll_rows]
              clear hsnoc hbirth hlk har hlen HSr Tr HX hfr HIr HI e0 e1
              generalize l.take k = m
              generalize σ.rows = q
              induction m generalizing q with
              | nil => exact Nat.le_refl _
              | cons r m ih =>
                have := ih (if r ∈ q then q else q ++ [r])
                have e : q.length ≤ (if r ∈ q then q else q ++ [r]).length := by split <;> simp
                exact Nat.le_trans e this
            obtain ⟨σk, hσ⟩ : ∃ σk, σ.addAll (l.take k) = σk := ⟨_, rfl⟩
            rw [hσ] at hsnoc hbirth har hlen hlen0 HSr ⊢
            have HN := Lib.hid hsnoc
            clear hsnoc hσ
            rw [← har] at hfr
            have hxr : xs.length ≤ 8 := hfr.2.2.2.1
            have hb1 : Below wr.heap.size wr (wr.alloc (.cells #[.int .i64 p, .slice ai xs.length ci] 50)) := (Below.refl _ _).alloc (Nat.le_refl _) _
            have y0 : (wr.alloc (.cells #[.int .i64 p, .slice ai xs.length ci] 50)).cell? ⟨wr.heap.size, 0, none⟩ = some (.int .i64 p) := by simp
            have y1 : (wr.alloc (.cells #[.int .i64 p, .slice ai xs.length ci] 50)).cell? ⟨wr.heap.size, 1, none⟩ = some (.slice ai xs.length ci) := by simp
            obtain ⟨h, hs⟩ := HSr.out
            have hsb := hs.below hb1
            have d3 := hsb.head.cells.2.2.2.1
            have hIb := HIr.out.below hb1 (Nat.le_refl _)
            have Tb : Turn s (fun _ => True) τr τr wr (wr.alloc (.cells #[.int .i64 p, .slice ai xs.length ci] 50)) := Turn.of_below hb1 hs.fresh
            clear hs
            by_cases hin : (p, xs) ∈ σk.rows
            · obtain ⟨i, hi⟩ := List.mem_iff_getElem?.1 hin
              have HK := fun (W : World) (hW : Below (wr.alloc (.cells #[.int .i64 p, .slice ai xs.length ci] 50)).heap.size (wr.alloc (.cells #[.int .i64 p, .slice ai xs.length ci] 50)) W) => Lib.hid (keyOf_any p ai ci xs W (hIb.below hW (Nat.le_refl _)) hxr)
              have HLk := fun (W : World) (hW : Below (wr.alloc (.cells #[.int .i64 p, .slice ai xs.length ci] 50)).heap.size (wr.alloc (.cells #[.int .i64 p, .slice ai xs.length ci] 50)) W) => Lib.hid (look_num_yes hsb hi W hW)
              have HSB := Lib.hid hsb
              clear hsb hIb hi
              go_upto_region 13 with fail
              generalize hb8 : wr.heap.size = b8 at *
              generalize wr.alloc (.cells #[.int .i64 p, .slice ai xs.length ci] 50) = W0 at *
              go_region_held3 (fun w' => Below W0.heap.size W0 w' ∧ w'.cell? ⟨sb, 3, none⟩ = some (.map (some h.bN)) ∧ w'.cell? ⟨b8, 0, none⟩ = some (.int .i64 p) ∧ w'.cell? ⟨b8, 1, none⟩ = some (.slice ai xs.length ci)) (first | assumption | exact ⟨(Below.refl _ _).drew, d3, y0, y1⟩ | go_keep) (first
                | (go_at_call 54
                   have hH := (‹Below W0.heap.size W0 _ ∧ _ ∧ _›)
                   with_reducible refine (HK _ hH.1).out.mono ?_
                   rintro e w2 ⟨rfl, hb2⟩
                   have hS : Below W0.heap.size W0 w2 ∧ w2.cell? ⟨sb, 3, none⟩ = some (.map (some h.bN)) ∧ w2.cell? ⟨b8, 0, none⟩ = some (.int .i64 p) ∧ w2.cell? ⟨b8, 1, none⟩ = some (.slice ai xs.length ci) := ⟨hH.1.trans (hb2.mono hH.1.size), on_cell hb2 hH.2.1, on_cell hb2 hH.2.2.1, on_cell hb2 hH.2.2.2⟩
                   have hlk := (HLk w2 hS.1).out))
              go_wp2
              go_roundw
              case rel => exact ⟨k + 1, τr, by omega, by go_num, by rw [HN.out, if_pos hin], Lib.hid (by rw [HN.out, if_pos hin]; exact ⟨_, HSB.out.below hS.1⟩), Tr.trans (Tb.trans (Turn.of_below hS.1 Tb.fresh))⟩
              case measure => simp [intOf]; omega
            · have HK := fun (W : World) (hW : Below (wr.alloc (.cells #[.int .i64 p, .slice ai xs.length ci] 50)).heap.size (wr.alloc (.cells #[.int .i64 p, .slice ai xs.length ci] 50)) W) => Lib.hid (keyOf_any p ai ci xs W (hIb.below hW (Nat.le_refl _)) hxr)
              have HLk := fun (W : World) (hW : Below (wr.alloc (.cells #[.int .i64 p, .slice ai xs.length ci] 50)).heap.size (wr.alloc (.cells #[.int .i64 p, .slice ai xs.length ci] 50)) W) => Lib.hid (look_num_no hsb hfr hin W hW)
              have HPu := fun (W : World) (hW : Below (wr.alloc (.cells #[.int .i64 p, .slice ai xs.length ci] 50)).heap.size (wr.alloc (.cells #[.int .i64 p, .slice ai xs.length ci] 50)) W) => Lib.hid (push_any (hsb.below hW) p ai ci xs (hIb.below hW (Nat.le_refl _)) hfr hin (by omega))
              clear hsb hIb
              go_upto_region 13 with fail
              generalize hb8 : wr.heap.size = b8 at *
              generalize wr.alloc (.cells #[.int .i64 p, .slice ai xs.length ci] 50) = W0 at *
              go_region_held3 (fun w' => Below W0.heap.size W0 w' ∧ w'.cell? ⟨sb, 3, none⟩ = some (.map (some h.bN)) ∧ w'.cell? ⟨b8, 0, none⟩ = some (.int .i64 p) ∧ w'.cell? ⟨b8, 1, none⟩ = some (.slice ai xs.length ci)) (first | assumption | exact ⟨(Below.refl _ _).drew, d3, y0, y1⟩ | go_keep) (first
                | (go_at_call 54
                   have hH := (‹Below W0.heap.size W0 _ ∧ _ ∧ _›)
                   with_reducible refine (HK _ hH.1).out.mono ?_
                   rintro e w2 ⟨rfl, hb2⟩
                   have hS : Below W0.heap.size W0 w2 ∧ w2.cell? ⟨sb, 3, none⟩ = some (.map (some h.bN)) ∧ w2.cell? ⟨b8, 0, none⟩ = some (.int .i64 p) ∧ w2.cell? ⟨b8, 1, none⟩ = some (.slice ai xs.length ci) := ⟨hH.1.trans (hb2.mono hH.1.size), on_cell hb2 hH.2.1, on_cell hb2 hH.2.2.1, on_cell hb2 hH.2.2.2⟩
                   have hlk := (HLk w2 hS.1).out))
              have f0 := hS.2.2.1
              have f1 := hS.2.2.2
              go_wp2_with (go_at_call 55; refine (HPu _ hS.1).out.mono ?_; rintro e w3 ⟨rfl, τ', hs3, T3⟩)
              have hrows : (σk.push (p, xs)).rows.length = σk.rows.length + 1 := by simp [St.push]
              go_roundw
              case rel => exact ⟨k + 1, τ', by omega, by go_num, by rw [HN.out, if_neg hin, hrows]; congr 1; omega, Lib.hid (by rw [HN.out, if_neg hin]; exact hs3), Tr.trans (Tb.trans ((Turn.of_below hS.1 Tb.fresh).trans T3))⟩
              case measure => simp [intOf]; omega
        · have hke : k = l.length := by omega
          subst hke
          have hso := HSr.out
          rw [List.take_length] at hso ⊢
          go_wp2
          go_ret2
          exact ⟨rfl, τr, hso, T0.trans Tr⟩

theorem add_any {s sb : Nat} {σ : St} {τ : Own} {w : World} (hs : IsStore s sb σ τ w) (a : Option Addr) (c : Nat) (l : List Row) (hl : RowsZ (fun j => τ j = none) w a c l) (hf : ∀ r ∈ l, FitsRow σ.ar r) (hB : σ.births + l.length ≤ 100000000000) :
    Calls Try.prog 21 #[.pointer (some ⟨sb, 0, none⟩), .slice a l.length c] w fun e w' => e = .returned (.tuple #[.int .i64 ((σ.addAll l).rows.length - σ.rows.length : Int), .int .i64 0]) ∧ ∃ τ', IsStore s sb (σ.addAll l) τ' w' ∧ Turn s (fun _ => True) τ τ' w w' :=
  add_apart hs a c l (hl.zone (fun j hj r e => by rw [hj] at e; cases e)) hf hB
end Go.Proofs.Ytkejjiohkhlnnaa
