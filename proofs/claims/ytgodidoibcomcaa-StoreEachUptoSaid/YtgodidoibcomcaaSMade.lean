/-
  What made and told of the law's package do.
-/
import Derived.Test.YtgodidoibcomcaaSAdd
import Derived.Test.YtgodidoibcomcaaSNew
namespace Go.Proofs.Ytgodidoibcomcaa
open Go.RowKit
open Go.Maps (Keyed)

set_option maxHeartbeats 1000000 in
theorem ints_own (aa : Option Addr) (ca : Nat) (xs : List Int) (w : World) (ha : Ints w aa xs) (hl : xs.length * 8 ≤ 140737488351232) :
    Calls Try.prog 38 #[.slice aa xs.length ca] w fun e w' => ∃ v, e = .returned v ∧ w'.ownsRow w.heap.size 3 1 v xs.length (xs.map (Value.int .i64)) ∧ Below w.heap.size w w' := by
  have HA := Lib.hid ha
  clear ha
  go_enter Try.func38, Try.ntmps38
  go_wp2
  go_loopw [3, 4] (fun v i wr => ∃ k : Nat, k ≤ xs.length ∧ i = .int .i64 k ∧ wr.ownsRow w.heap.size 3 1 v k ((xs.take k).map (Value.int .i64)) ∧ Below w.heap.size w wr) (fun _ i _ => xs.length - (intOf i).toNat)
  case atStart => exact ⟨0, Nat.zero_le _, rfl, World.ownsRow_nil _ _ _ _, Below.refl _ _⟩
  case round =>
    obtain ⟨k, hk, rfl, hown, hbel⟩ := hrel
    by_cases hlt : k < xs.length
    · rcases HA.out with h | ⟨b, o, rfl, hc⟩
      · rw [h] at hlt; simp at hlt
      · obtain ⟨x, c0, HX⟩ := ints_at hc hlt
        have e0 := (hbel.cell (World.block_lt_of_cell? _ _ c0)).trans c0
        clear hc c0
        go_wp2_with (first | (at_builtin; refine wpList_append_any elemInt _ rfl _ _ rfl w.heap.size _ k _ rfl (hown.alloc _) (some ⟨wr.heap.size, 0, none⟩) 1 1 [.int .i64 x] rfl (source_new _ _ _) rfl (by simp [Value.oneCell']) (by unfold maxLen; omega) (by omega) (by have := hbel.size; simp; omega) ?_; intro v' w2 hown2 hgrow _))
        have hb4 : Below w.heap.size w w2 := (hbel.alloc hbel.size _).grown hgrow (by have := hbel.size; simp; omega) (fun j hj => by have := (hown.alloc (Obj.cells #[.int .i64 x] 3)).lt j hj; omega)
        go_wp2
        go_roundw
        case rel => exact ⟨k + 1, by omega, by go_num, by rw [take_snoc' HX.out]; simpa using hown2, hb4⟩
        case measure => simp [intOf]; omega
    · have hke : k = xs.length := by omega
      subst hke
      rw [List.take_length] at hown
      go_wp2
      go_ret
      exact ⟨_, rfl, hown, hbel⟩

/-- the store that made makes -/
def madeSt (ar : List Int) : St := (⟨ar ++ [0], [], [], 0, []⟩ : St).push ((ar.length : Int), [])

theorem fits_row0 {ar : List Int} : FitsRow (ar ++ [0]) ((ar.length : Int), []) := by
  refine ⟨by simp, by simp; omega, ?_, by simp, fun x hx => by cases hx⟩
  simp

set_option maxHeartbeats 4000000 in
set_option maxRecDepth 8000 in
theorem made_any {s : Nat} {τ : Own} (aa : Option Addr) (ca : Nat) (ar : List Int) (w : World) (hfr : Fresh τ w) (ha : Ints w aa ar) (hf : fitsL ar = true) :
    Calls Try.prog 13 #[.slice aa ar.length ca] w fun e w' => ∃ sb τ', e = .returned (.pointer (some ⟨sb, 0, none⟩)) ∧ IsStore s sb (madeSt ar) τ' w' ∧ Turn s (fun _ => True) τ τ' w w' := by
  have hl := fits_len hf
  have har : ∀ x ∈ ar ++ [0], 0 ≤ x ∧ x ≤ 8 := fun x hx => by
    rcases List.mem_append.1 hx with hx | hx
    · obtain ⟨i, hi⟩ := List.mem_iff_getElem?.1 hx
      exact fits_at hf hi
    · simp at hx; omega
  have HR := Lib.hid har
  have HF := Lib.hid hfr
  have HI := Lib.hid (ints_own aa ca ar w ha (by omega))
  have cN := fun (a : Option Addr) (c : Nat) (W : World) (h1 : Fresh τ W) (h2 : IntsZ (fun _ => True) W a c (ar ++ [0])) => Lib.hid (new_any (s := s) a c (ar ++ [0]) W h1 h2 har (by simp; omega))
  clear ha har hfr hf
  go_enter Try.func13, Try.ntmps13
  go_wp2_with (first
    | (go_at_call 38; refine HI.out.mono ?_; rintro e w1 ⟨v, rfl, hown, hb1⟩)
    | (at_builtin; refine wpList_append_any elemInt _ rfl _ _ rfl w.heap.size _ ar.length (ar.map (Value.int .i64)) rfl (by exact hown.alloc _) (some ⟨w1.heap.size, 0, none⟩) 1 1 [.int .i64 0] rfl (source_new _ _ _) rfl (by simp [Value.oneCell']) (by unfold maxLen; omega) (by omega) (by have := hb1.size; simp; omega) ?_; intro v2 w2 hown2 hgrow2 hblk2
       have hb2 : Below w.heap.size w w2 := (hb1.alloc hb1.size _).trans (grown_below hgrow2 (fun j hj => (hown.lt j hj).1) (by have := hb1.size; simp; omega))
       obtain ⟨a2, c2, rfl, hI2⟩ := intsZ_of_row (xs := ar ++ [0]) (by simpa using hown2)
       have T2 : Turn s (fun _ => False) τ τ w w2 := Turn.of_below hb2 HF.out
       have cN2 := cN a2 c2 w2 T2.fresh (hI2.zone fun _ _ => trivial)
       clear hown2 hgrow2 hblk2 cN hown
       simp only [List.length_append, List.length_cons, List.length_nil, Nat.zero_add] at cN2)
    | (go_at_call 37; refine cN2.out.mono ?_; rintro e w3 ⟨sb, τ3, rfl, hs3, T3, hb3⟩
       have hfl : FitsRow (ar ++ [0]) ((ar.length : Int), []) := fits_row0
       have T3' : Turn s (fun _ => False) τ τ3 w w3 := T2.trans T3
       have hbb : Below w3.heap.size w3 (w3.alloc (.cells #[.int .i64 (ar.length : Int), .slice none 0 0] 28)) := (Below.refl _ _).alloc (Nat.le_refl _) _
       have Tb : Turn s (fun _ => False) τ3 τ3 w3 (w3.alloc (.cells #[.int .i64 (ar.length : Int), .slice none 0 0] 28)) := Turn.of_below hbb T3.fresh
       have hA := Lib.hid (add_any (hs3.below hbb) (some ⟨w3.heap.size, 0, none⟩) 1 [((ar.length : Int), [])] ⟨.inr ⟨w3.heap.size, 0, rfl, T3.fresh _ (Nat.le_refl _), fun i hi => by
         have : i = 0 := by simp at hi; omega
         subst this
         exact ⟨by simp, none, 0, by simp, .inl rfl, fun _ => ⟨rfl, rfl⟩⟩⟩, fun h => by cases h⟩ (fun r hr => by
         rw [List.mem_singleton] at hr
         subst hr
         exact hfl) (by simp)))
    | (go_at_call 16; refine hA.out.mono ?_; rintro e w4 ⟨rfl, τ4, hs4, T4⟩
       have hσ : (⟨ar ++ [0], [], [], 0, []⟩ : St).addAll [((ar.length : Int), [])] = madeSt ar := rfl
       rw [hσ] at hs4
       obtain ⟨h4, hst4⟩ := id hs4
       have hr4 : (madeSt ar).rows = [((ar.length : Int), [])] := rfl
       have hLen := Lib.hid (len_any hst4)
       have hNum := Lib.hid (num_yes hst4 0 (ar.length : Int) none 0 [] (Z := fun _ => True) ⟨.inl rfl, fun _ => ⟨rfl, rfl⟩⟩ rfl)
       have HS4 := Lib.hid hs4
       have HT4 := Lib.hid T4
       clear hs4 hst4 T4)
    | (go_at_call 21; refine hLen.out.mono ?_; rintro e w5 ⟨rfl, rfl⟩)
    | (go_at_call 39; refine hNum.out.mono ?_; rintro e w6 ⟨rfl, hb6⟩))
  go_ret
  exact ⟨sb, τ4, rfl, HS4.out.below hb6, (T3'.mono (R' := fun _ => True) (fun _ _ => trivial)).trans ((Tb.mono (R' := fun _ => True) (fun _ _ => trivial)).trans (HT4.out.trans (Turn.of_below hb6 HT4.out.fresh)))⟩

set_option maxHeartbeats 4000000 in
set_option maxRecDepth 8000 in
theorem told_any {s sb : Nat} {σ : St} {τ : Own} {w : World} (hs : IsStore s sb σ τ w) (hB : σ.rows.length ≤ 1000000000000) :
    Calls Try.prog 45 #[.pointer (some ⟨sb, 0, none⟩)] w fun e w' => ∃ v, e = .returned (.tuple #[v, .bool true]) ∧ OwnRows (fun j => w.heap.size ≤ j) w.heap.size w' v σ.rows ∧ Below w.heap.size w w' := by
  obtain ⟨h, hst⟩ := id hs
  have HS := Lib.hid hst
  have HL := Lib.hid (len_any hst)
  clear hs hst
  go_enter Try.func45, Try.ntmps45
  go_wp2_with (go_at_call 21; refine HL.out.mono ?_; rintro e w5 ⟨rfl, rfl⟩)
  go_loopw [4, 6] (fun v i wr => ∃ k : Nat, k ≤ σ.rows.length ∧ i = .int .i64 k ∧ Hid (OwnRows (fun j => w5.heap.size ≤ j) w5.heap.size wr v (σ.rows.take k)) ∧ Below w5.heap.size w5 wr) (fun _ i _ => σ.rows.length - (intOf i).toNat)
  case atStart => exact ⟨0, Nat.zero_le _, rfl, Lib.hid (OwnRows.nil _ _ _), Below.refl _ _⟩
  case round =>
    obtain ⟨k, hk, rfl, HO, hbel⟩ := hrel
    by_cases hlt : k < σ.rows.length
    · obtain ⟨⟨p, xs⟩, hx⟩ : ∃ r, σ.rows[k]? = some r := ⟨_, List.getElem?_eq_getElem hlt⟩
      have HX := Lib.hid hx
      have HRow := Lib.hid (row_any (HS.out.below hbel) k (p, xs) hx)
      have hlk : (σ.rows.take k).length = k := by simp; omega
      obtain ⟨cs, hown, hcs⟩ := HO.out
      rw [hlk] at hown
      have HCS := Lib.hid hcs
      have sz := hbel.size
      clear hx hcs
      go_wp2_with (first
        | (go_at_call 34; refine HRow.out.mono ?_; rintro e w1 ⟨a1, c1, rfl, hI1, hb1⟩; have hown1 := owns_below hown hb1 (Nat.le_refl _); have sz1 := hb1.size; have szA := asz w1 (.cells #[.int .i64 p, .slice a1 xs.length c1] 28))
        | (at_builtin; refine wpList_append_any elemRow _ rfl _ _ rfl w5.heap.size _ k cs rfl (by exact (hown1.alloc _).alloc _) (some ⟨w1.heap.size + 1, 0, none⟩) 1 1 [.int .i64 p, .slice a1 xs.length c1] rfl (by have h := source_new (w1.alloc (.cells #[.int .i64 p, .slice a1 xs.length c1] 28)) [.int .i64 p, .slice a1 xs.length c1] 28; rw [szA] at h; exact h) rfl (by simp [Value.oneCell']) (by unfold maxLen; omega) (by omega) (by simp; omega) ?_; intro v' w2 hown2 hgrow2 hblk2))
      have hbA : Below wr.heap.size wr ((w1.alloc (.cells #[.int .i64 p, .slice a1 xs.length c1] 28)).alloc (.cells #[.int .i64 p, .slice a1 xs.length c1] 28)) := (hb1.alloc sz1 _).alloc (by omega) _
      have hO : OwnRows (fun j => w5.heap.size ≤ j) w5.heap.size w2 v' (σ.rows.take (k + 1)) := by
        rw [take_snoc' HX.out]
        refine OwnRows.push (cs := cs) (v := u4) (HCS.out.below hbA (Nat.le_refl _)) ?_ (by rw [hlk]; exact hown2) hgrow2 hblk2
        refine hI1.keep (fun j hj _ => (Below.heap_alloc _ _ j (by omega)).trans (Below.heap_alloc w1 _ j hj)) (fun j hj hz => ?_)
        have hz : wr.heap.size ≤ j := hz
        exact ⟨by omega, fun e => by have := (hown.lt j e).2; omega⟩
      have hB : Below w5.heap.size w5 w2 := (hbel.trans (hbA.mono sz)).trans (grown_below hgrow2 (fun j hj => (hown1.lt j hj).1) (by simp; omega))
      go_roundw
      case rel => exact ⟨k + 1, by omega, by go_num, Lib.hid hO, hB⟩
      case measure => simp [intOf]; omega
    · have hke : k = σ.rows.length := by omega
      subst hke
      have ho := HO.out
      rw [List.take_length] at ho
      go_wp2
      go_ret2
      exact ⟨_, rfl, ho, hbel⟩
end Go.Proofs.Ytgodidoibcomcaa
