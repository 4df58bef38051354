/-
  What push does: a row that is not there is put in.
-/
import Derived.Test.YtkejjiohkhlnnaaSSteps
import Derived.Deep.Cut
import Derived.Deep.DeepCutAuto
namespace Go.Proofs.Ytkejjiohkhlnnaa
open Go.RowKit
open Go.Maps (Keyed)

def St.push (σ : St) (r : Row) : St := { σ with rows := σ.rows ++ [r], bs := σ.bs ++ [((σ.births + 1 : Nat) : Int)], births := σ.births + 1 }

theorem infoEntry : (Try.prog.info? 123).map (fun i => (i.zero, i.size, i.bytes)) = some (some (.agg #[.int .i64 0, .slice none 0 0, .int .i64 0]), 3, 40) := by kernel_rfl
theorem elemEntry : Elem Try.prog 102 123 (.agg #[.int .i64 0, .slice none 0 0, .int .i64 0]) 3 40 := ⟨Try.underlying102, infoEntry, rfl, by decide⟩
theorem infoFunc : (Try.prog.info? 1).map (fun i => (i.zero, i.size, i.bytes)) = some (some .nilFunc, 1, 8) := by kernel_rfl
theorem elemFunc : Elem Try.prog 103 1 .nilFunc 1 8 := ⟨Try.underlying103, infoFunc, rfl, by decide⟩

theorem owns_slice {w : World} {B n size : Nat} {e : TypeId} {v : Value} {xs : List Value} (h : w.ownsRow B e size v (n + 1) xs) : ∃ g cap, v = .slice (some ⟨g, 0, none⟩) (n + 1) cap := by
  rcases owns_form h with ⟨_, h0, _⟩ | ⟨g, cap, e, _⟩
  · omega
  · exact ⟨g, cap, e⟩
theorem undrew {w w2 : World} {r : Option Nat} (h : w.drew.grownBy w2 r) : w.grownBy w2 r := ⟨h.os, h.tape, h.output, h.size, h.block⟩

/-- the cells that push has made for itself: the boxes b1 (the store), b3 (the row), b4 (its number), b2 (its key) -/
structure Loc (sb b1 b2 b3 b4 n : Nat) (p : Int) (a : Option Addr) (c m : Nat) (k0 k1 k2 k3 k4 k5 k6 k7 k8 : Int) (w : World) : Prop where
  l1 : w.cell? ⟨b1, 0, none⟩ = some (.pointer (some ⟨sb, 0, none⟩))
  l30 : w.cell? ⟨b3, 0, none⟩ = some (.int .i64 p)
  l31 : w.cell? ⟨b3, 1, none⟩ = some (.slice a m c)
  l4 : w.cell? ⟨b4, 0, none⟩ = some (.int .i64 n)
  l20 : w.cell? ⟨b2, 0, none⟩ = some (.int .i64 k0)
  l21 : w.cell? ⟨b2, 1, none⟩ = some (.int .i64 k1)
  l22 : w.cell? ⟨b2, 2, none⟩ = some (.int .i64 k2)
  l23 : w.cell? ⟨b2, 3, none⟩ = some (.int .i64 k3)
  l24 : w.cell? ⟨b2, 4, none⟩ = some (.int .i64 k4)
  l25 : w.cell? ⟨b2, 5, none⟩ = some (.int .i64 k5)
  l26 : w.cell? ⟨b2, 6, none⟩ = some (.int .i64 k6)
  l27 : w.cell? ⟨b2, 7, none⟩ = some (.int .i64 k7)
  l28 : w.cell? ⟨b2, 8, none⟩ = some (.int .i64 k8)
theorem Loc.turn {sb b1 b2 b3 b4 n : Nat} {p : Int} {a : Option Addr} {c m : Nat} {k0 k1 k2 k3 k4 k5 k6 k7 k8 : Int} {w w' : World} {s : Nat} {R : Role → Prop} {τ τ' : Own} (h : Loc sb b1 b2 b3 b4 n p a c m k0 k1 k2 k3 k4 k5 k6 k7 k8 w) (ht : Turn s R τ τ' w w') (hR : ¬ R .still)
    (t1 : Still s τ b1) (t2 : Still s τ b2) (t3 : Still s τ b3) (t4 : Still s τ b4) : Loc sb b1 b2 b3 b4 n p a c m k0 k1 k2 k3 k4 k5 k6 k7 k8 w' := by
  have st : ∀ {b : Nat} {o : Nat} {v : Value}, Still s τ b → w.cell? ⟨b, o, none⟩ = some v → w'.cell? ⟨b, o, none⟩ = some v := fun {b o v} hb hc => ht.cell hc (fun r e => by rw [show τ b = some (s, .still) from hb] at e; cases e; exact hR)
  exact ⟨st t1 h.l1, st t3 h.l30, st t3 h.l31, st t4 h.l4, st t2 h.l20, st t2 h.l21, st t2 h.l22, st t2 h.l23, st t2 h.l24, st t2 h.l25, st t2 h.l26, st t2 h.l27, st t2 h.l28⟩

theorem still_on {s : Nat} {R : Role → Prop} {τ τ' : Own} {w w' : World} (ht : Turn s R τ τ' w w') {b o : Nat} {v : Value} (h : Still s τ b) (hc : w.cell? ⟨b, o, none⟩ = some v) : Still s τ' b := (ht.own b (World.block_lt_of_cell? _ _ hc)).trans h
theorem setBlock_same {w : World} {b : Nat} {o : Obj} (h : b < w.heap.size) : (ChangeMaps.setBlock w b o).heap[b]? = some o := by simp [ChangeMaps.setBlock, h]
theorem setBlock_ne {w : World} {b j : Nat} {o : Obj} (h : j ≠ b) : (ChangeMaps.setBlock w b o).heap[j]? = w.heap[j]? := by simp [ChangeMaps.setBlock, Array.getElem?_setIfInBounds_ne (Ne.symm h)]
theorem ListsPart.mono {s : Nat} {τ : Own} {w : World} {K : TypeId} {b m n : Nat} {role : Role} {tag : Value → Role} {L : Value → List Int} (h : ListsPart s τ w K b m role tag L) (hm : m ≤ n) : ListsPart s τ w K b n role tag L := by
  obtain ⟨hb, f, h1, h2⟩ := h
  exact ⟨hb, f, h1.mono hm, h2⟩
theorem not_moves : ¬ Moves .still := fun h => h rfl
/-- blocks of other roles are other blocks -/
theorem other_block {s : Nat} {τ : Own} {b b' : Nat} {r r' : Role} (h : τ b = some (s, r)) (h' : τ b' = some (s, r')) (hne : r ≠ r') : ¬ b = b' := fun e => by
  rw [e, h'] at h
  simp at h
  exact hne h.symm

theorem push_end {s sb : Nat} {σ : St} {h : Hd} {τ : Own} {W : World} {p : Int} {xs : List Int} (hSo : Sound σ) (hf : FitsRow σ.ar (p, xs)) (hno : (p, xs) ∉ σ.rows) (hx8 : xs.length ≤ 8)
    (P : PartsAt s sb σ.ar (σ.rows ++ [(p, xs)]) (σ.bs ++ [(σ.births : Int) + 1]) (σ.rows ++ [(p, xs)]) (σ.rows ++ [(p, xs)]) (updL (ofK σ.rows) (.int .i64 p) (σ.rows.length : Int)) (whMid σ.rows (p, xs) xs.length) (σ.births + 1) (σ.births + 1) (σ.births + 1) (σ.births * 8 + xs.length) σ.lows h τ W) :
    StoreAt s sb (σ.push (p, xs)) h τ W := by
  have hm := hSo.many
  have e1 : ofK (σ.rows ++ [(p, xs)]) = updL (ofK σ.rows) (.int .i64 p) (σ.rows.length : Int) := ofK_snoc σ.rows (p, xs)
  have e2 : whK (σ.rows ++ [(p, xs)]) = whMid σ.rows (p, xs) xs.length := whK_snoc σ.rows (p, xs)
  have hsound : Sound (σ.push (p, xs)) := by
    refine ⟨fun r hr => ?_, ?_, ?_, ?_, hSo.arity, hSo.preds, ?_, fun x hx => ?_⟩
    · have hr : r ∈ σ.rows ++ [(p, xs)] := hr
      rcases List.mem_append.1 hr with hr | hr
      · exact hSo.fits r hr
      · rw [List.mem_singleton] at hr
        subst hr
        exact hf
    · show (σ.rows ++ [(p, xs)]).Nodup
      rw [List.nodup_append]
      refine ⟨hSo.once, by simp, fun x hx y hy => ?_⟩
      rw [List.mem_singleton] at hy
      subst hy
      rintro rfl
      exact hno hx
    · show (σ.bs ++ [_]).length = (σ.rows ++ [_]).length
      simp [hSo.born]
    · show (σ.rows ++ [_]).length ≤ σ.births + 1
      simp
      exact hm
    · show (σ.bs ++ [_]).Pairwise (· < ·)
      rw [List.pairwise_append]
      refine ⟨hSo.rise, by simp, fun x hx y hy => ?_⟩
      rw [List.mem_singleton] at hy
      have := (hSo.birth x hx).2
      omega
    · have hx : x ∈ σ.bs ++ [((σ.births + 1 : Nat) : Int)] := hx
      show 0 < x ∧ x ≤ ((σ.births + 1 : Nat) : Int)
      rcases List.mem_append.1 hx with hx | hx
      · have := hSo.birth x hx
        omega
      · rw [List.mem_singleton] at hx
        omega
  have hof := P.of
  rw [← e1] at hof
  have hwh := P.wh
  rw [← e2] at hwh
  exact ⟨hsound, P.fresh, P.mine, P.head, P.ar, P.rows, P.undo, P.num, hof, hwh.mono (show _ ≤ (σ.births + 1) * 8 by omega), P.lows⟩

set_option linter.unusedSimpArgs false in
set_option maxHeartbeats 8000000 in
set_option maxRecDepth 8000 in
theorem push_any {Z : Nat → Prop} {s sb : Nat} {σ : St} {h : Hd} {τ : Own} {w : World} (hs : StoreAt s sb σ h τ w) (p : Int) (a : Option Addr) (c : Nat) (xs : List Int) (hx : IntsZ Z w a c xs) (hf : FitsRow σ.ar (p, xs)) (hno : (p, xs) ∉ σ.rows) (hB : σ.births ≤ 100000000000) :
    Calls Try.prog 55 #[.pointer (some ⟨sb, 0, none⟩), .agg #[.int .i64 p, .slice a xs.length c]] w fun e w' => e = .returned (.tuple #[]) ∧ ∃ τ', IsStore s sb (σ.push (p, xs)) τ' w' ∧ Turn s (fun _ => True) τ τ' w w' := by
  have hx8 : xs.length ≤ 8 := hf.2.2.2.1
  obtain ⟨aR, cR, hvR, _⟩ := hs.vR
  obtain ⟨c0, c1, c2, c3, c4, c5, c6, c7⟩ := hs.head.cells
  rw [hvR] at c1
  have hmany := hs.sound.many
  obtain ⟨k0, k1, k2, k3, k4, k5, k6, k7, k8, hk⟩ := list9 (keyI_length (r := (p, xs)) hx8)
  have hkv : keyV (p, xs) = .agg #[.int .i64 k0, .int .i64 k1, .int .i64 k2, .int .i64 k3, .int .i64 k4, .int .i64 k5, .int .i64 k6, .int .i64 k7, .int .i64 k8] := by unfold keyV; rw [hk]; rfl
  have cC := fun (W : World) (hW : Below w.heap.size w W) => Lib.hid (copied_any p a c xs W (hx.below hW (Nat.le_refl _)) (by omega))
  have cK := fun (Z' : Nat → Prop) (a' : Option Addr) (c' : Nat) (W : World) (hI : IntsZ Z' W a' c' xs) => Lib.hid (keyOf_any p a' c' xs W hI hx8)
  have hbw : Below w.heap.size w ((w.alloc (.cells #[.pointer (some ⟨sb, 0, none⟩)] 36)).alloc (.cells #[.int .i64 p, .slice a xs.length c] 50)) := ((Below.refl _ _).alloc (Nat.le_refl _) _).alloc (by rw [asz]; omega) _
  have HS := Lib.hid hs
  have HF := Lib.hid hf
  have HNO := Lib.hid hno
  have HKV := Lib.hid hkv
  have HKI := Lib.hid hk
  clear hs hf hno hx hkv hk c0 c2 c3 c4 c5 c7
  go_enter Try.func55, Try.ntmps55
  have hsz := asz w (.cells #[.pointer (some ⟨sb, 0, none⟩)] 36)
  have hsz2 := asz (w.alloc (.cells #[.pointer (some ⟨sb, 0, none⟩)] 36)) (.cells #[.int .i64 p, .slice a xs.length c] 50)
  have hsb : sb < w.heap.size := World.block_lt_of_cell? _ _ c1
  go_upto_region 2 with (first
    | (go_at_call 65; refine (cC _ hbw).out.mono ?_; rintro e w1 ⟨a1, cc1, rfl, hI1, hb1⟩
       have hB1 := hbw.trans (hb1.mono hbw.size)
       have q1 := (hb1.cell (p := ⟨w.heap.size, 0, none⟩) (by show w.heap.size < _; omega)).trans (show _ = some (Value.pointer (some ⟨sb, 0, none⟩)) by simp)
       have q30 := (hb1.cell (p := ⟨w.heap.size + 1, 0, none⟩) (by show w.heap.size + 1 < _; omega)).trans (show _ = some (Value.int .i64 p) by simp)
       have q31 := (hb1.cell (p := ⟨w.heap.size + 1, 1, none⟩) (by show w.heap.size + 1 < _; omega)).trans (show _ = some (Value.slice a xs.length c) by simp)
       have f30 : w1.frozen? ⟨w.heap.size + 1, 0, none⟩ = false := (hb1.frozen (p := ⟨w.heap.size + 1, 0, none⟩) (by show w.heap.size + 1 < _; omega)).trans (by go_simp)
       have f31 : w1.frozen? ⟨w.heap.size + 1, 1, none⟩ = false := (hb1.frozen (p := ⟨w.heap.size + 1, 1, none⟩) (by show w.heap.size + 1 < _; omega)).trans (by go_simp)
       have hs1 : w.heap.size + 2 ≤ w1.heap.size := by have := hb1.size; omega
       have hI1' : IntsZ (fun j => w.heap.size + 2 ≤ j) w1 a1 cc1 xs := hI1.zone (fun j hj => by have hj : _ ≤ j := hj; omega)
       clear hI1 hb1))
  have hB3 : Below w.heap.size w ((w1.setCell ⟨w.heap.size + 1, 0, none⟩ (.int .i64 p)).setCell ⟨w.heap.size + 1, 1, none⟩ (.slice a1 xs.length cc1)) := (hB1.setCell (by show w.heap.size ≤ w.heap.size + 1; omega) _).setCell (by show w.heap.size ≤ w.heap.size + 1; omega) _
  have r1 : ((w1.setCell ⟨w.heap.size + 1, 0, none⟩ (.int .i64 p)).setCell ⟨w.heap.size + 1, 1, none⟩ (.slice a1 xs.length cc1)).cell? ⟨w.heap.size, 0, none⟩ = some (.pointer (some ⟨sb, 0, none⟩)) := by simp [go_sem, q1]
  have r30 : ((w1.setCell ⟨w.heap.size + 1, 0, none⟩ (.int .i64 p)).setCell ⟨w.heap.size + 1, 1, none⟩ (.slice a1 xs.length cc1)).cell? ⟨w.heap.size + 1, 0, none⟩ = some (.int .i64 p) := by simp [go_sem, q30]
  have r31 : ((w1.setCell ⟨w.heap.size + 1, 0, none⟩ (.int .i64 p)).setCell ⟨w.heap.size + 1, 1, none⟩ (.slice a1 xs.length cc1)).cell? ⟨w.heap.size + 1, 1, none⟩ = some (.slice a1 xs.length cc1) := by simp [go_sem, q31]
  have hI3 : IntsZ (fun j => w.heap.size ≤ j) ((w1.setCell ⟨w.heap.size + 1, 0, none⟩ (.int .i64 p)).setCell ⟨w.heap.size + 1, 1, none⟩ (.slice a1 xs.length cc1)) a1 cc1 xs := hI1'.keep (fun j _ hz => by
    have hz : w.heap.size + 2 ≤ j := hz
    rw [Below.heap_setCell _ _ _ _ (by show j ≠ w.heap.size + 1; omega), Below.heap_setCell _ _ _ _ (by show j ≠ w.heap.size + 1; omega)]) (fun j _ hz => by
    have hz : w.heap.size + 2 ≤ j := hz
    omega)
  have hs3 : w.heap.size + 2 ≤ ((w1.setCell ⟨w.heap.size + 1, 0, none⟩ (.int .i64 p)).setCell ⟨w.heap.size + 1, 1, none⟩ (.slice a1 xs.length cc1)).heap.size := by simpa using hs1
  generalize (w1.setCell ⟨w.heap.size + 1, 0, none⟩ (.int .i64 p)).setCell ⟨w.heap.size + 1, 1, none⟩ (.slice a1 xs.length cc1) = w3 at *
  clear q1 q30 q31 f30 f31 hs1 hI1' hB1 w1
  have d1 := on_cell hB3 c1
  have hb4 : Below w3.heap.size w3 (w3.alloc (.cells #[.int .i64 (σ.rows.length : Int)] 3)) := (Below.refl _ _).alloc (Nat.le_refl _) _
  have cK1 := cK _ a1 cc1 _ (hI3.below hb4 (Nat.le_refl _))
  have n1 := on_cell hb4 r1
  have n30 := on_cell hb4 r30
  have n31 := on_cell hb4 r31
  have hsz4 := asz w3 (.cells #[.int .i64 (σ.rows.length : Int)] 3)
  go_upto_region 4 with (first
    | (go_at_call 54; refine cK1.out.mono ?_; rintro e w5 ⟨rfl, hb5⟩
       have m1 := on_cell hb5 n1
       have m30 := on_cell hb5 n30
       have m31 := on_cell hb5 n31
       have m4 := (hb5.cell (p := ⟨w3.heap.size, 0, none⟩) (by show w3.heap.size < _; omega)).trans (show _ = some (Value.int .i64 (σ.rows.length : Int)) by simp)
       have hB5 := hB3.trans ((hb4.trans (hb5.mono (by omega))).mono hB3.size)
       have hI5 := (hI3.below hb4 (Nat.le_refl _)).below hb5 (Nat.le_refl _)
       have hs5 : w3.heap.size + 1 ≤ w5.heap.size := by have := hb5.size; omega
       rw [HKV.out]))
  have hsz6 := asz w5 (.cells #[.int .i64 k0, .int .i64 k1, .int .i64 k2, .int .i64 k3, .int .i64 k4, .int .i64 k5, .int .i64 k6, .int .i64 k7, .int .i64 k8] 111)
  have hb6 : Below w5.heap.size w5 (w5.alloc (.cells #[.int .i64 k0, .int .i64 k1, .int .i64 k2, .int .i64 k3, .int .i64 k4, .int .i64 k5, .int .i64 k6, .int .i64 k7, .int .i64 k8] 111)) := (Below.refl _ _).alloc (Nat.le_refl _) _
  have hB6 := hB5.trans (hb6.mono hB5.size)
  have hI6 := hI5.below hb6 (Nat.le_refl _)
  obtain ⟨z0, z1, z2, z3, z4, z5, z6, z7, z8⟩ := cells9 (MapKept.heap_alloc w5 (.cells #[.int .i64 k0, .int .i64 k1, .int .i64 k2, .int .i64 k3, .int .i64 k4, .int .i64 k5, .int .i64 k6, .int .i64 k7, .int .i64 k8] 111)).1
  have hLoc : Loc sb w.heap.size w5.heap.size (w.heap.size + 1) w3.heap.size σ.rows.length p a1 cc1 xs.length k0 k1 k2 k3 k4 k5 k6 k7 k8 (w5.alloc (.cells #[.int .i64 k0, .int .i64 k1, .int .i64 k2, .int .i64 k3, .int .i64 k4, .int .i64 k5, .int .i64 k6, .int .i64 k7, .int .i64 k8] 111)) :=
    ⟨on_cell hb6 m1, on_cell hb6 m30, on_cell hb6 m31, on_cell hb6 m4, z0, z1, z2, z3, z4, z5, z6, z7, z8⟩
  clear z0 z1 z2 z3 z4 z5 z6 z7 z8 m1 m30 m31 m4 n1 n30 n31 d1 r1 r30 r31 hsz hsz2 hb4 cK1 cK cC hbw c1 c6 hB3 hI3 hB5 hI5 hb5 hb6
  generalize w5.alloc (.cells #[.int .i64 k0, .int .i64 k1, .int .i64 k2, .int .i64 k3, .int .i64 k4, .int .i64 k5, .int .i64 k6, .int .i64 k7, .int .i64 k8] 111) = W6 at *
  have T1 : Turn s (fun _ => False) τ (adopted s .still w.heap.size W6.heap.size τ) w W6 := (Turn.of_below hB6 HS.out.fresh).adopt .still (Nat.le_refl _)
  have hs6 := HS.out.kept T1 (.inr fun _ h => h)
  have t1 : Still s (adopted s .still w.heap.size W6.heap.size τ) w.heap.size := adopted_in (Nat.le_refl _) (by omega)
  have t3 : Still s (adopted s .still w.heap.size W6.heap.size τ) (w.heap.size + 1) := adopted_in (by omega) (by omega)
  have t4 : Still s (adopted s .still w.heap.size W6.heap.size τ) w3.heap.size := adopted_in (by omega) (by omega)
  have t2 : Still s (adopted s .still w.heap.size W6.heap.size τ) w5.heap.size := adopted_in (by omega) (by omega)
  have hI : IntsZ (Still s (adopted s .still w.heap.size W6.heap.size τ)) W6 a1 cc1 xs := by
    refine hI6.keep (fun _ _ _ => rfl) (fun j hj hz => adopted_in hz hj)
  generalize adopted s .still w.heap.size W6.heap.size τ = τ1 at *
  obtain ⟨b1, hb1⟩ : ∃ b1, b1 = w.heap.size := ⟨_, rfl⟩
  obtain ⟨b3, hb3⟩ : ∃ b3, b3 = b1 + 1 := ⟨_, rfl⟩
  obtain ⟨b4, hb4⟩ : ∃ b4, b4 = w3.heap.size := ⟨_, rfl⟩
  obtain ⟨b2, hb2⟩ : ∃ b2, b2 = w5.heap.size := ⟨_, rfl⟩
  rw [← hb1] at hLoc t1 t3 ⊢
  rw [← hb3] at hLoc t3 ⊢
  rw [← hb4] at hLoc t4 ⊢
  rw [← hb2] at hLoc t2 ⊢
  clear hb1 hb2 hb3 hb4 hI6 hB6 hsz4 hsz6 hs3 hs5 w3 w5
  -- births
  obtain ⟨c0, c1, c2, c3, c4, c5, c6, c7⟩ := hs6.head.cells
  have fz := hs6.head.frozen 6
  obtain ⟨⟨l1, l30, l31, l4, l20, l21, l22, l23, l24, l25, l26, l27, l28⟩, hLoc⟩ : _ ∧ _ := ⟨hLoc, hLoc⟩
  clear c0 c1 c2 c3 c4 c5 c7 l30 l31 l4 l20 l21 l22 l23 l24 l25 l26 l27 l28
  go_upto_region 5 with fail
  rw [show ((σ.births : Int) + 1) = ((σ.births + 1 : Nat) : Int) from rfl]
  obtain ⟨P7, T7⟩ := hs6.parts.setBirths (σ.births + 1)
  have hL7 := hLoc.turn T7 (fun h => h rfl) t1 t2 t3 t4
  have hI7 := still_turn T7 (fun h => h rfl) hI
  have nb1 : ¬ b1 = sb := fun e => by have := hs6.mine; rw [← e, t1] at this; cases this
  have nb3 : ¬ b3 = sb := fun e => by have := hs6.mine; rw [← e, t3] at this; cases this
  have hSo := hs6.sound
  clear c6 fz hLoc l1 hs6 hI hvR
  generalize W6.setCell ⟨sb, 6, none⟩ (.int .i64 ((σ.births + 1 : Nat) : Int)) = W7 at *
  -- the row
  obtain ⟨cs, hoR, hgR, hcR⟩ := P7.rows
  have HC := Lib.hid hcR
  have HG := Lib.hid hgR
  clear hcR hgR
  go_cut [] (fun wx => ∃ wA w2 v', Below W7.heap.size W7 wA ∧ w2.ownsRow 0 123 3 v' (σ.rows.length + 1) (cs ++ [.int .i64 p, .slice a1 xs.length cc1, .int .i64 ((σ.births : Int) + 1)]) ∧ wA.grownBy w2 h.vR.ownBlock ∧ (v'.ownBlock = h.vR.ownBlock ∨ v'.ownBlock = some wA.heap.size) ∧ wx = w2.setCell ⟨sb, 1, none⟩ v')
  case first =>
    obtain ⟨c0, c1, c2, c3, c4, c5, c6, c7⟩ := P7.head.cells
    have fz := P7.head.frozen 1
    have hl1 := hL7.l1
    have hl30 := hL7.l30
    have hl31 := hL7.l31
    have ns1 : ¬ sb = b1 := fun e => nb1 e.symm
    have ns3 : ¬ sb = b3 := fun e => nb3 e.symm
    have hrn : ∀ {b o : Nat} {v : Value} {r : Role}, W7.cell? ⟨b, o, none⟩ = some v → τ1 b = some (s, r) → r ≠ .rows → h.vR.ownBlock ≠ some b := fun {b o v r} _ ht hr e => by rw [HG.out b e] at ht; cases ht; exact hr rfl
    have hr1 := hrn hl1 t1 (by intro h; cases h)
    have hr3 := hrn hl30 t3 (by intro h; cases h)
    have hrs := hrn c1 P7.mine (by intro h; cases h)
    have HR := Lib.hid (And.intro hr1 (And.intro hr3 hrs))
    have c1A := on_cell ((Below.refl _ _).alloc (Nat.le_refl _) (.cells #[.int .i64 p, .slice a1 xs.length cc1, .int .i64 ((σ.births : Int) + 1)] 123)) c1
    have c1B : (W7.alloc (.cells #[.int .i64 p, .slice a1 xs.length cc1, .int .i64 ((σ.births : Int) + 1)] 123)).drew.cell? ⟨sb, 1, none⟩ = some h.vR := c1A
    clear c0 c2 c3 c4 c5 c7 hrn hr1 hr3 hrs HC HG
    refine wp_region_noPanic ?_
    refine wp_region_held_drew (S := (fun w' => w'.cell? ⟨b1, 0, none⟩ = some (.pointer (some ⟨sb, 0, none⟩)) ∧ w'.cell? ⟨b3, 0, none⟩ = some (.int .i64 p) ∧ w'.cell? ⟨b3, 1, none⟩ = some (.slice a1 xs.length cc1) ∧ w'.cell? ⟨sb, 6, none⟩ = some (.int .i64 ((σ.births : Int) + 1)))) (by kernel_rfl) ?_ (fun hHeld => ?_)
    · first | assumption | exact ⟨hl1, hl30, hl31, c6⟩ | go_keep
    refine wpAnyH_take (i := 0) (oi := _) (v := (.pointer (some ⟨sb, 0, none⟩))) rfl (by kernel_rfl) (by kernel_rfl) (by kernel_rfl) (fun _ _ _ h => h) (Or.inl ⟨by rfl, ?_⟩) (by assumption) ?_
    · intro w hSw
      (try dsimp only at hSw)
      go_simp
    (try simp only [Act.put, List.setIfInBounds_toArray, List.set_cons_zero, List.set_cons_succ])
    refine wpAnyH_take (i := 1) (oi := _) (v := (.pointer (some ⟨sb, 0, none⟩))) rfl (by kernel_rfl) (by kernel_rfl) (by kernel_rfl) (fun _ _ _ h => h) (Or.inl ⟨by rfl, ?_⟩) (by assumption) ?_
    · intro w hSw
      (try dsimp only at hSw)
      go_simp
    (try simp only [Act.put, List.setIfInBounds_toArray, List.set_cons_zero, List.set_cons_succ])
    refine wpAnyH_take (i := 2) (oi := _) (v := (.pointer (some ⟨sb, 0, none⟩))) rfl (by kernel_rfl) (by kernel_rfl) (by kernel_rfl) (fun _ _ _ h => h) (Or.inl ⟨by rfl, ?_⟩) (by assumption) ?_
    · intro w hSw
      (try dsimp only at hSw)
      go_simp
    (try simp only [Act.put, List.setIfInBounds_toArray, List.set_cons_zero, List.set_cons_succ])
    refine wpAnyH_take (i := 3) (oi := _) (v := (.pointer (some ⟨sb, 1, none⟩))) rfl (by kernel_rfl) (by kernel_rfl) (by kernel_rfl) (fun _ _ _ h => h) (Or.inl ⟨by rfl, ?_⟩) (by assumption) ?_
    · intro w hSw
      (try dsimp only at hSw)
      go_simp
    (try simp only [Act.put, List.setIfInBounds_toArray, List.set_cons_zero, List.set_cons_succ])
    refine wpAnyH_take (i := 5) (oi := _) (v := (.agg #[.int .i64 p, .slice a1 xs.length cc1])) rfl (by kernel_rfl) (by kernel_rfl) (by kernel_rfl) (fun _ _ _ h => h) (Or.inl ⟨by rfl, ?_⟩) (by assumption) ?_
    · intro w hSw
      (try dsimp only at hSw)
      go_simp
    (try simp only [Act.put, List.setIfInBounds_toArray, List.set_cons_zero, List.set_cons_succ])
    refine wpAnyH_take (i := 6) (oi := _) (v := (.pointer (some ⟨sb, 0, none⟩))) rfl (by kernel_rfl) (by kernel_rfl) (by kernel_rfl) (fun _ _ _ h => h) (Or.inl ⟨by rfl, ?_⟩) (by assumption) ?_
    · intro w hSw
      (try dsimp only at hSw)
      go_simp
    (try simp only [Act.put, List.setIfInBounds_toArray, List.set_cons_zero, List.set_cons_succ])
    refine wpAnyH_take (i := 7) (oi := _) (v := (.pointer (some ⟨sb, 0, none⟩))) rfl (by kernel_rfl) (by kernel_rfl) (by kernel_rfl) (fun _ _ _ h => h) (Or.inl ⟨by rfl, ?_⟩) (by assumption) ?_
    · intro w hSw
      (try dsimp only at hSw)
      go_simp
    (try simp only [Act.put, List.setIfInBounds_toArray, List.set_cons_zero, List.set_cons_succ])
    refine wpAnyH_take (i := 8) (oi := _) (v := (.pointer (some ⟨sb, 6, none⟩))) rfl (by kernel_rfl) (by kernel_rfl) (by kernel_rfl) (fun _ _ _ h => h) (Or.inl ⟨by rfl, ?_⟩) (by assumption) ?_
    · intro w hSw
      (try dsimp only at hSw)
      go_simp
    (try simp only [Act.put, List.setIfInBounds_toArray, List.set_cons_zero, List.set_cons_succ])
    refine wpAnyH_take (i := 9) (oi := _) (v := (.int .i64 ((σ.births : Int) + 1))) rfl (by kernel_rfl) (by kernel_rfl) (by kernel_rfl) (fun _ _ _ h => h) (Or.inl ⟨by rfl, ?_⟩) (by assumption) ?_
    · intro w hSw
      (try dsimp only at hSw)
      go_simp
    (try simp only [Act.put, List.setIfInBounds_toArray, List.set_cons_zero, List.set_cons_succ])
    refine wpAnyH_take (i := 10) (oi := _) (v := (.agg #[.int .i64 p, .slice a1 xs.length cc1, .int .i64 ((σ.births : Int) + 1)])) rfl (by kernel_rfl) (by kernel_rfl) (by kernel_rfl) (fun _ _ _ h => h) (Or.inl ⟨by rfl, ?_⟩) (by assumption) ?_
    · intro w hSw
      (try dsimp only at hSw)
      go_simp
    (try simp only [Act.put, List.setIfInBounds_toArray, List.set_cons_zero, List.set_cons_succ])
    refine wpAnyH_ready (rs := [4, 11]) (by kernel_rfl) (by simp) ?_
    refine AllReadyH.cons (o := _) rfl (fun K hK => ?_) ?_
    · go_simp
      refine hK.out _ _ ?_ (fun hHeld => ?_)
      · first | assumption | exact hHeld | go_keep
      clear hK K
      (try simp only [Act.put, List.setIfInBounds_toArray, List.set_cons_zero, List.set_cons_succ])
      refine wpAnyH_ready (rs := [11]) (by kernel_rfl) (by simp) ?_
      refine AllReadyH.cons (o := _) rfl (fun K hK => ?_) ?_
      · go_simp
        refine hK.out _ _ ?_ (fun hHeld => ?_)
        · first | assumption | exact hHeld | go_keep
        clear hK K
        (try simp only [Act.put, List.setIfInBounds_toArray, List.set_cons_zero, List.set_cons_succ])
        refine wpAnyH_ready (rs := [12]) (by kernel_rfl) (by simp) ?_
        refine AllReadyH.cons (o := _) rfl (fun K hK => ?_) ?_
        · refine step_append_any elemEntry _ rfl _ _ rfl 0 _ σ.rows.length cs rfl (by exact hoR.alloc (.cells #[.int .i64 p, .slice a1 xs.length cc1, .int .i64 ((σ.births : Int) + 1)] 123)) (some ⟨W7.heap.size, 0, none⟩) 1 1 [.int .i64 p, .slice a1 xs.length cc1, .int .i64 ((σ.births : Int) + 1)] rfl (by exact source_new W7 [.int .i64 p, .slice a1 xs.length cc1, .int .i64 ((σ.births : Int) + 1)] 123) rfl (by simp [Value.oneCell']) (by unfold maxLen; omega) (by omega) (Nat.zero_le _) ?_
          intro v' w2 hown2 hgrow hblk
          obtain ⟨g', cap', rfl⟩ := owns_slice hown2
          have hgrow2 : (W7.alloc (.cells #[.int .i64 p, .slice a1 xs.length cc1, .int .i64 ((σ.births : Int) + 1)] 123)).grownBy w2 h.vR.ownBlock := by first | exact hgrow | exact undrew hgrow
          have hblk2 : (Value.slice (some ⟨g', 0, none⟩) (σ.rows.length + 1) cap').ownBlock = h.vR.ownBlock ∨ (Value.slice (some ⟨g', 0, none⟩) (σ.rows.length + 1) cap').ownBlock = some (W7.alloc (.cells #[.int .i64 p, .slice a1 xs.length cc1, .int .i64 ((σ.births : Int) + 1)] 123)).heap.size := hblk
          clear hgrow hblk
          have hbA : Below W7.heap.size W7 (W7.alloc (.cells #[.int .i64 p, .slice a1 xs.length cc1, .int .i64 ((σ.births : Int) + 1)] 123)) := (Below.refl _ _).alloc (Nat.le_refl _) _
          have hS : w2.cell? ⟨b1, 0, none⟩ = some (.pointer (some ⟨sb, 0, none⟩)) ∧ w2.cell? ⟨b3, 0, none⟩ = some (.int .i64 p) ∧ w2.cell? ⟨b3, 1, none⟩ = some (.slice a1 xs.length cc1) ∧ w2.cell? ⟨sb, 6, none⟩ = some (.int .i64 ((σ.births : Int) + 1)) := ⟨hgrow2.cell (on_cell hbA hl1) (fun e => HR.out.1 e.symm), hgrow2.cell (on_cell hbA hl30) (fun e => HR.out.2.1 e.symm), hgrow2.cell (on_cell hbA hl31) (fun e => HR.out.2.1 e.symm), hgrow2.cell (on_cell hbA c6) (fun e => HR.out.2.2 e.symm)⟩
          have kk1 := hgrow2.cell (on_cell hbA c1) (fun e => HR.out.2.2 e.symm)
          have kf : w2.frozen? ⟨sb, 1, none⟩ = false := (World.frozen?_of_block (w := W7) ((hgrow2.block sb (by rw [asz]; have := World.block_lt_of_cell? _ _ c1; simp only at this; omega) (fun e => HR.out.2.2 e.symm)).trans (Below.heap_alloc W7 _ sb (World.block_lt_of_cell? _ _ c1)))).trans fz
          refine hK.out _ _ ?_ (fun hHeld => ?_)
          · exact hS
          clear hK K
          (try simp only [Act.put, List.setIfInBounds_toArray, List.set_cons_zero, List.set_cons_succ])
          refine wpAnyH_take (i := 13) (oi := _) (v := (.pointer (some ⟨sb, 0, none⟩))) rfl (by kernel_rfl) (by kernel_rfl) (by kernel_rfl) (fun _ _ _ h => h) (Or.inl ⟨by rfl, ?_⟩) (by assumption) ?_
          · intro w hSw
            (try dsimp only at hSw)
            go_simp
          (try simp only [Act.put, List.setIfInBounds_toArray, List.set_cons_zero, List.set_cons_succ])
          refine wpAnyH_take (i := 14) (oi := _) (v := (.pointer (some ⟨sb, 1, none⟩))) rfl (by kernel_rfl) (by kernel_rfl) (by kernel_rfl) (fun _ _ _ h => h) (Or.inl ⟨by rfl, ?_⟩) (by assumption) ?_
          · intro w hSw
            (try dsimp only at hSw)
            go_simp
          (try simp only [Act.put, List.setIfInBounds_toArray, List.set_cons_zero, List.set_cons_succ])
          refine wpAnyH_ready (rs := [15]) (by kernel_rfl) (by simp) ?_
          refine AllReadyH.cons (o := _) rfl (fun K hK => ?_) ?_
          · go_simp
            refine hK.out _ _ ?_ (fun hHeld => ?_)
            · exact ⟨(World.cell?_setCell_other _ _ _ _ (by simp)).trans hS.1, (World.cell?_setCell_other _ _ _ _ (by simp)).trans hS.2.1, (World.cell?_setCell_far _ _ _ _ ns3).trans hS.2.2.1, (World.cell?_setCell_other _ _ _ _ (by simp)).trans hS.2.2.2⟩
            clear hK K
            (try simp only [Act.put, List.setIfInBounds_toArray, List.set_cons_zero, List.set_cons_succ])
            refine wpAnyH_done (by kernel_rfl) ?_ _
            refine NoPanic.normal ?_
            go_wp2_with fail
            go_meet
            exact ⟨_, w2, _, hbA, hown2, hgrow2, hblk2, rfl⟩
          exact AllReadyH.nil
        exact AllReadyH.nil
      exact AllReadyH.nil
    refine AllReadyH.cons (o := _) rfl (fun K hK => ?_) ?_
    · go_simp
      refine hK.out _ _ ?_ (fun hHeld => ?_)
      · first | assumption | exact hHeld | go_keep
      clear hK K
      (try simp only [Act.put, List.setIfInBounds_toArray, List.set_cons_zero, List.set_cons_succ])
      refine wpAnyH_ready (rs := [4]) (by kernel_rfl) (by simp) ?_
      refine AllReadyH.cons (o := _) rfl (fun K hK => ?_) ?_
      · go_simp
        refine hK.out _ _ ?_ (fun hHeld => ?_)
        · first | assumption | exact hHeld | go_keep
        clear hK K
        (try simp only [Act.put, List.setIfInBounds_toArray, List.set_cons_zero, List.set_cons_succ])
        refine wpAnyH_ready (rs := [12]) (by kernel_rfl) (by simp) ?_
        refine AllReadyH.cons (o := _) rfl (fun K hK => ?_) ?_
        · refine step_append_any elemEntry _ rfl _ _ rfl 0 _ σ.rows.length cs rfl (by exact hoR.alloc (.cells #[.int .i64 p, .slice a1 xs.length cc1, .int .i64 ((σ.births : Int) + 1)] 123)) (some ⟨W7.heap.size, 0, none⟩) 1 1 [.int .i64 p, .slice a1 xs.length cc1, .int .i64 ((σ.births : Int) + 1)] rfl (by exact source_new W7 [.int .i64 p, .slice a1 xs.length cc1, .int .i64 ((σ.births : Int) + 1)] 123) rfl (by simp [Value.oneCell']) (by unfold maxLen; omega) (by omega) (Nat.zero_le _) ?_
          intro v' w2 hown2 hgrow hblk
          obtain ⟨g', cap', rfl⟩ := owns_slice hown2
          have hgrow2 : (W7.alloc (.cells #[.int .i64 p, .slice a1 xs.length cc1, .int .i64 ((σ.births : Int) + 1)] 123)).grownBy w2 h.vR.ownBlock := by first | exact hgrow | exact undrew hgrow
          have hblk2 : (Value.slice (some ⟨g', 0, none⟩) (σ.rows.length + 1) cap').ownBlock = h.vR.ownBlock ∨ (Value.slice (some ⟨g', 0, none⟩) (σ.rows.length + 1) cap').ownBlock = some (W7.alloc (.cells #[.int .i64 p, .slice a1 xs.length cc1, .int .i64 ((σ.births : Int) + 1)] 123)).heap.size := hblk
          clear hgrow hblk
          have hbA : Below W7.heap.size W7 (W7.alloc (.cells #[.int .i64 p, .slice a1 xs.length cc1, .int .i64 ((σ.births : Int) + 1)] 123)) := (Below.refl _ _).alloc (Nat.le_refl _) _
          have hS : w2.cell? ⟨b1, 0, none⟩ = some (.pointer (some ⟨sb, 0, none⟩)) ∧ w2.cell? ⟨b3, 0, none⟩ = some (.int .i64 p) ∧ w2.cell? ⟨b3, 1, none⟩ = some (.slice a1 xs.length cc1) ∧ w2.cell? ⟨sb, 6, none⟩ = some (.int .i64 ((σ.births : Int) + 1)) := ⟨hgrow2.cell (on_cell hbA hl1) (fun e => HR.out.1 e.symm), hgrow2.cell (on_cell hbA hl30) (fun e => HR.out.2.1 e.symm), hgrow2.cell (on_cell hbA hl31) (fun e => HR.out.2.1 e.symm), hgrow2.cell (on_cell hbA c6) (fun e => HR.out.2.2 e.symm)⟩
          have kk1 := hgrow2.cell (on_cell hbA c1) (fun e => HR.out.2.2 e.symm)
          have kf : w2.frozen? ⟨sb, 1, none⟩ = false := (World.frozen?_of_block (w := W7) ((hgrow2.block sb (by rw [asz]; have := World.block_lt_of_cell? _ _ c1; simp only at this; omega) (fun e => HR.out.2.2 e.symm)).trans (Below.heap_alloc W7 _ sb (World.block_lt_of_cell? _ _ c1)))).trans fz
          refine hK.out _ _ ?_ (fun hHeld => ?_)
          · exact hS
          clear hK K
          (try simp only [Act.put, List.setIfInBounds_toArray, List.set_cons_zero, List.set_cons_succ])
          refine wpAnyH_take (i := 13) (oi := _) (v := (.pointer (some ⟨sb, 0, none⟩))) rfl (by kernel_rfl) (by kernel_rfl) (by kernel_rfl) (fun _ _ _ h => h) (Or.inl ⟨by rfl, ?_⟩) (by assumption) ?_
          · intro w hSw
            (try dsimp only at hSw)
            go_simp
          (try simp only [Act.put, List.setIfInBounds_toArray, List.set_cons_zero, List.set_cons_succ])
          refine wpAnyH_take (i := 14) (oi := _) (v := (.pointer (some ⟨sb, 1, none⟩))) rfl (by kernel_rfl) (by kernel_rfl) (by kernel_rfl) (fun _ _ _ h => h) (Or.inl ⟨by rfl, ?_⟩) (by assumption) ?_
          · intro w hSw
            (try dsimp only at hSw)
            go_simp
          (try simp only [Act.put, List.setIfInBounds_toArray, List.set_cons_zero, List.set_cons_succ])
          refine wpAnyH_ready (rs := [15]) (by kernel_rfl) (by simp) ?_
          refine AllReadyH.cons (o := _) rfl (fun K hK => ?_) ?_
          · go_simp
            refine hK.out _ _ ?_ (fun hHeld => ?_)
            · exact ⟨(World.cell?_setCell_other _ _ _ _ (by simp)).trans hS.1, (World.cell?_setCell_other _ _ _ _ (by simp)).trans hS.2.1, (World.cell?_setCell_far _ _ _ _ ns3).trans hS.2.2.1, (World.cell?_setCell_other _ _ _ _ (by simp)).trans hS.2.2.2⟩
            clear hK K
            (try simp only [Act.put, List.setIfInBounds_toArray, List.set_cons_zero, List.set_cons_succ])
            refine wpAnyH_done (by kernel_rfl) ?_ _
            refine NoPanic.normal ?_
            go_wp2_with fail
            go_meet
            exact ⟨_, w2, _, hbA, hown2, hgrow2, hblk2, rfl⟩
          exact AllReadyH.nil
        exact AllReadyH.nil
      exact AllReadyH.nil
    exact AllReadyH.nil
  case rest =>
  obtain ⟨wA, w2, v', hbA, hown2, hgrow, hblk, rfl⟩ := hcut
  obtain ⟨τ2, P8, T8⟩ := P7.putRow hSo.born (r := (p, xs)) hI7 hoR HG.out HC.out hbA hown2 hgrow hblk
  have hL8 := hL7.turn T8 not_moves t1 t2 t3 t4
  have hI8 := still_turn T8 not_moves hI7
  have t1 := still_on T8 t1 hL7.l1
  have t2 := still_on T8 t2 hL7.l20
  have t3 := still_on T8 t3 hL7.l30
  have t4 := still_on T8 t4 hL7.l4
  clear hbA hown2 hgrow hblk hoR HC HG hI7 hL7
  generalize hh8 : ({ h with vR := v' } : Hd) = h8 at *
  generalize w2.setCell ⟨sb, 1, none⟩ v' = W8 at *
  clear wA w2
  -- its number
  obtain ⟨es, clock, hrun, P9, T9, Tn⟩ := P8.putNum hSo.fits HF.out hSo.preds HNO.out (wA := W8.drew) ((Below.refl _ _).drew)
  rw [HKV.out] at hrun
  have hL9 := hL8.turn T9 not_moves t1 t2 t3 t4
  have hI9 := still_turn T9 not_moves hI8
  have nN1 : ¬ b1 = h8.bN := other_block t1 P8.num.1 (by intro h; cases h)
  have nN2 : ¬ b2 = h8.bN := other_block t2 P8.num.1 (by intro h; cases h)
  have nN4 : ¬ b4 = h8.bN := other_block t4 P8.num.1 (by intro h; cases h)
  have nNs : ¬ sb = h8.bN := other_block P8.mine P8.num.1 (by intro h; cases h)
  obtain ⟨c0, c1, c2, c3, c4, c5, c6, c7⟩ := P8.head.cells
  obtain ⟨hl1, -, -, hl4, q0, q1, q2, q3, q4, q5, q6, q7, q8⟩ := id hL8
  have hrange : W8.rangeAt b2 0 [.int .i64 k0, .int .i64 k1, .int .i64 k2, .int .i64 k3, .int .i64 k4, .int .i64 k5, .int .i64 k6, .int .i64 k7, .int .i64 k8] := by
    intro j v hj
    have hz : 0 + j = j := Nat.zero_add j
    rw [hz]
    match j, hj with
    | 0, hj => simp at hj; subst hj; exact q0
    | 1, hj => simp at hj; subst hj; exact q1
    | 2, hj => simp at hj; subst hj; exact q2
    | 3, hj => simp at hj; subst hj; exact q3
    | 4, hj => simp at hj; subst hj; exact q4
    | 5, hj => simp at hj; subst hj; exact q5
    | 6, hj => simp at hj; subst hj; exact q6
    | 7, hj => simp at hj; subst hj; exact q7
    | 8, hj => simp at hj; subst hj; exact q8
  have hu79 := Try.underlying111
  have hi79 : (Try.prog.info? 111).map (·.size) = some 9 := by kernel_rfl
  clear c0 c1 c2 c4 c5 c6 c7 q0 q1 q2 q3 q4 q5 q6 q7 q8
  go_upto_region 6 with fail
  go_region_held3 (fun w' => w'.cell? ⟨b1, 0, none⟩ = some (.pointer (some ⟨sb, 0, none⟩)) ∧ w'.cell? ⟨sb, 3, none⟩ = some (.map (some h8.bN)) ∧ w'.cell? ⟨b4, 0, none⟩ = some (.int .i64 (σ.rows.length : Int)) ∧ w'.rangeAt b2 0 [.int .i64 k0, .int .i64 k1, .int .i64 k2, .int .i64 k3, .int .i64 k4, .int .i64 k5, .int .i64 k6, .int .i64 k7, .int .i64 k8]) (first | assumption | exact ⟨hl1, c3, hl4, hrange⟩ | exact ⟨(cell_setBlock nN1).trans hl1, (cell_setBlock nNs).trans c3, (cell_setBlock nN4).trans hl4, fun j v hj => (cell_setBlock nN2).trans (hrange j v hj)⟩ | go_keep) (fail)
  clear hrun nN1 nN2 nN4 nNs c3 hl1 hl4 hrange hu79 hi79
  have hpR : Rng p := by
    have h1 := HF.out.1
    have h2 := HF.out.2.1
    have h3 := hSo.preds
    simp only at h1 h2
    exact ⟨by omega, by omega⟩
  generalize ChangeMaps.setBlock W8.drew h8.bN (.map es clock) = W9 at *
  -- the predicate's list
  obtain ⟨v0, hoO, hgO, hlook, hputO⟩ := P9.putOf hpR (σ.rows.length : Int)
  have hlenO : (ofK σ.rows (.int .i64 p)).length ≤ σ.rows.length := idxL_length (fun r => Value.int .i64 p = .int .i64 r.1) σ.rows
  have HP := Lib.hid hputO
  have HGO := Lib.hid hgO
  have hlk1 := hlook W9.drew (Below.refl _ _).drew
  have hlk2 := hlook (W9.alloc (.cells #[.int .i64 (σ.rows.length : Int)] 3)).drew ((Below.refl _ _).alloc (Nat.le_refl _) _).drew
  clear hputO hgO hlook
  go_upto_region 7 with fail
  go_cut [] (fun wx => ∃ τ', PartsAt s sb σ.ar (σ.rows ++ [(p, xs)]) (σ.bs ++ [(σ.births : Int) + 1]) (σ.rows) (σ.rows ++ [(p, xs)]) (updL (ofK σ.rows) (.int .i64 p) (σ.rows.length : Int)) (whK σ.rows) (σ.births + 1) (σ.births + 1) (σ.births + 1) (σ.births * 8) σ.lows h8 τ' wx ∧ Turn s Moves τ2 τ' W9 wx)
  case first =>
    obtain ⟨c0, c1, c2, c3, c4, c5, c6, c7⟩ := P9.head.cells
    obtain ⟨hl1, hl30, hl31, hl4, -, -, -, -, -, -, -, -, -⟩ := id hL9
    have nO1 : ¬ b1 = h8.bO := other_block t1 P9.of.1 (by intro h; cases h)
    have nO3 : ¬ b3 = h8.bO := other_block t3 P9.of.1 (by intro h; cases h)
    have nO4 : ¬ b4 = h8.bO := other_block t4 P9.of.1 (by intro h; cases h)
    have nOs : ¬ sb = h8.bO := other_block P9.mine P9.of.1 (by intro h; cases h)
    have hr1 : v0.ownBlock ≠ some b1 := fun e => other_block t1 (HGO.out _ e) (by intro h; cases h) rfl
    have hr3 : v0.ownBlock ≠ some b3 := fun e => other_block t3 (HGO.out _ e) (by intro h; cases h) rfl
    have hr4 : v0.ownBlock ≠ some b4 := fun e => other_block t4 (HGO.out _ e) (by intro h; cases h) rfl
    have hrs : v0.ownBlock ≠ some sb := fun e => other_block P9.mine (HGO.out _ e) (by intro h; cases h) rfl
    have HR := Lib.hid (And.intro hr1 (And.intro hr3 (And.intro hr4 hrs)))
    clear c0 c1 c2 c3 c5 c6 c7 hl31 hr1 hr3 hr4 hrs
    go_region_held3 (fun w' => w'.cell? ⟨b1, 0, none⟩ = some (.pointer (some ⟨sb, 0, none⟩)) ∧ w'.cell? ⟨sb, 4, none⟩ = some (.map (some h8.bO)) ∧ w'.cell? ⟨b3, 0, none⟩ = some (.int .i64 p) ∧ w'.cell? ⟨b4, 0, none⟩ = some (.int .i64 (σ.rows.length : Int))) (first | assumption | exact ⟨hl1, c4, hl30, hl4⟩ | exact ⟨(cell_setBlock nO1).trans hS.1, (cell_setBlock nOs).trans hS.2.1, (cell_setBlock nO3).trans hS.2.2.1, (cell_setBlock nO4).trans hS.2.2.2⟩ | go_keep) (first
      | (refine step_append_any elemInt _ rfl _ _ rfl 0 v0 (ofK σ.rows (.int .i64 p)).length ((ofK σ.rows (.int .i64 p)).map (Value.int .i64)) rfl (by exact hoO.alloc (.cells #[.int .i64 (σ.rows.length : Int)] 3)) (some ⟨W9.heap.size, 0, none⟩) 1 1 [.int .i64 (σ.rows.length : Int)] rfl (by exact source_new W9 [.int .i64 (σ.rows.length : Int)] 3) rfl (by simp [Value.oneCell']) (by unfold maxLen; omega) (by omega) (Nat.zero_le _) ?_
         intro v' w2 hown2 hgrow hblk
         obtain ⟨g', cap', rfl⟩ := owns_slice hown2
         have hgrow2 : (W9.alloc (.cells #[.int .i64 (σ.rows.length : Int)] 3)).grownBy w2 v0.ownBlock := by first | exact hgrow | exact undrew hgrow
         have hblk2 : (Value.slice (some ⟨g', 0, none⟩) ((ofK σ.rows (.int .i64 p)).length + 1) cap').ownBlock = v0.ownBlock ∨ (Value.slice (some ⟨g', 0, none⟩) ((ofK σ.rows (.int .i64 p)).length + 1) cap').ownBlock = some (W9.alloc (.cells #[.int .i64 (σ.rows.length : Int)] 3)).heap.size := hblk
         clear hgrow hblk
         have hbA : Below W9.heap.size W9 (W9.alloc (.cells #[.int .i64 (σ.rows.length : Int)] 3)) := (Below.refl _ _).alloc (Nat.le_refl _) _
         obtain ⟨τ', es', clock', hrun, P10, T10, -, -⟩ := HP.out _ w2 _ hbA hown2 hgrow2 hblk2
         have hS : w2.cell? ⟨b1, 0, none⟩ = some (.pointer (some ⟨sb, 0, none⟩)) ∧ w2.cell? ⟨sb, 4, none⟩ = some (.map (some h8.bO)) ∧ w2.cell? ⟨b3, 0, none⟩ = some (.int .i64 p) ∧ w2.cell? ⟨b4, 0, none⟩ = some (.int .i64 (σ.rows.length : Int)) := ⟨hgrow2.cell (on_cell hbA hl1) (fun e => HR.out.1 e.symm), hgrow2.cell (on_cell hbA c4) (fun e => HR.out.2.2.2 e.symm), hgrow2.cell (on_cell hbA hl30) (fun e => HR.out.2.1 e.symm), hgrow2.cell (on_cell hbA hl4) (fun e => HR.out.2.2.1 e.symm)⟩))
    all_goals
      go_wp2_with fail
      go_meet
      exact ⟨τ', P10, T10⟩
  case rest =>
  obtain ⟨τ3, P10, T10⟩ := hcut
  have hL10 := hL9.turn T10 not_moves t1 t2 t3 t4
  have hI10 := still_turn T10 not_moves hI9
  have t1 := still_on T10 t1 hL9.l1
  have t2 := still_on T10 t2 hL9.l20
  have t3 := still_on T10 t3 hL9.l30
  have t4 := still_on T10 t4 hL9.l4
  clear hlk1 hlk2 HP HGO hoO hL9 hI9
  have hz1 := hL10.l30
  have hz2 := hL10.l31
  go_wp2_with fail
  go_loopw [65] (fun i wr => ∃ (k : Nat) (τr : Own), k ≤ xs.length ∧ i = .int .i64 k ∧ PartsAt s sb σ.ar (σ.rows ++ [(p, xs)]) (σ.bs ++ [(σ.births : Int) + 1]) (σ.rows) (σ.rows ++ [(p, xs)]) (updL (ofK σ.rows) (.int .i64 p) (σ.rows.length : Int)) (whMid σ.rows (p, xs) k) (σ.births + 1) (σ.births + 1) (σ.births + 1) (σ.births * 8 + k) σ.lows h8 τr wr ∧ Turn s Moves τ3 τr wc wr) (fun i _ => xs.length - (intOf i).toNat)
  case atStart => exact ⟨0, τ3, Nat.zero_le _, rfl, P10, Turn.refl P10.fresh⟩
  case round =>
    obtain ⟨k, τr, hk, rfl, Pr, Tr⟩ := hrel
    have hLr := hL10.turn Tr not_moves t1 t2 t3 t4
    have hIr := still_turn Tr not_moves hI10
    have t1 := still_on Tr t1 hL10.l1
    have t2 := still_on Tr t2 hL10.l20
    have t3 := still_on Tr t3 hL10.l30
    have t4 := still_on Tr t4 hL10.l4
    clear hz1 hz2
    by_cases hlt : k < xs.length
    · rcases hIr.1 with hn | ⟨ba, oa, rfl, _, hca⟩
      · rw [hn] at hlt; simp at hlt
      · have hxk := hca k hlt
        obtain ⟨x, hx⟩ : ∃ x, xs[k]? = some x := ⟨xs[k], List.getElem?_eq_getElem hlt⟩
        rw [List.getElem?_eq_getElem hlt] at hx
        rw [Option.some.inj hx] at hxk
        have hx : xs[k]? = some x := by rw [List.getElem?_eq_getElem hlt]; exact hx
        have HX := Lib.hid hx
        have hxR : Rng x := by
          have := HF.out.2.2.2.2 x (List.mem_of_getElem? hx)
          exact ⟨by omega, by omega⟩
        have hl30 := hLr.l30
        clear hca hx
        go_upto_region 12 with fail
        have hbb : Below wr.heap.size wr (wr.alloc (.cells #[.int .i64 p, .int .i64 (k : Int), .int .i64 x] 138)) := (Below.refl _ _).alloc (Nat.le_refl _) _
        have Tb : Turn s (fun _ => False) τr τr wr (wr.alloc (.cells #[.int .i64 p, .int .i64 (k : Int), .int .i64 x] 138)) := Turn.of_below hbb Pr.fresh
        have Pb := Pr.turn Tb (fun h => h) (fun h => h) (fun h => h) (fun h => h) (fun h => h) (fun h => h) (fun _ h => h) (fun h => h) (fun _ h => h) (fun h => h)
        have hLb := hLr.turn Tb (fun h => h) t1 t2 t3 t4
        have z0 : (wr.alloc (.cells #[.int .i64 p, .int .i64 (k : Int), .int .i64 x] 138)).cell? ⟨wr.heap.size, 0, none⟩ = some (.int .i64 p) := by simp
        have z1 : (wr.alloc (.cells #[.int .i64 p, .int .i64 (k : Int), .int .i64 x] 138)).cell? ⟨wr.heap.size, 1, none⟩ = some (.int .i64 (k : Int)) := by simp
        have z2 : (wr.alloc (.cells #[.int .i64 p, .int .i64 (k : Int), .int .i64 x] 138)).cell? ⟨wr.heap.size, 2, none⟩ = some (.int .i64 x) := by simp
        have hfr : τr wr.heap.size = none := Pr.fresh _ (Nat.le_refl _)
        obtain ⟨Wb, hWb⟩ : ∃ Wb, Wb = wr.alloc (.cells #[.int .i64 p, .int .i64 (k : Int), .int .i64 x] 138) := ⟨_, rfl⟩
        obtain ⟨b8, hb8⟩ : ∃ b8, b8 = wr.heap.size := ⟨_, rfl⟩
        rw [← hWb, ← hb8] at z0 z1 z2
        rw [← hWb] at Pb hLb Tb ⊢
        rw [← hb8] at hfr ⊢
        clear hbb hWb hb8
        obtain ⟨v0, hoW, hgW, hbWlt, hent⟩ := Pb.putWh (by unfold maxLen; omega) hpR (show Rng (k : Int) from ⟨by omega, by omega⟩) hxR (σ.rows.length : Int)
        obtain ⟨st1, m1, ck1, hE1, hL1⟩ := hent Wb.drew (Below.refl _ _).drew
        obtain ⟨st2, m2, ck2, hE2, hL2⟩ := hent (Wb.alloc (.cells #[.int .i64 (σ.rows.length : Int)] 3)).drew (((Below.refl _ _).alloc (Nat.le_refl _) _).drew)
        obtain ⟨W1, hW1⟩ : ∃ W1, W1 = ChangeMaps.setBlock Wb.drew h8.bW (.map m1 ck1) := ⟨_, rfl⟩
        obtain ⟨W2, hW2⟩ : ∃ W2, W2 = ChangeMaps.setBlock (Wb.alloc (.cells #[.int .i64 (σ.rows.length : Int)] 3)).drew h8.bW (.map m2 ck2) := ⟨_, rfl⟩
        rw [← hW1] at hE1
        rw [← hW2] at hE2
        simp only [placeV] at hE1 hE2
        have hlenW : (whMid σ.rows (p, xs) k (placeV p k x)).length ≤ σ.rows.length + 1 := by
          rw [whMid_eq]
          have := idxL_length (fun r : Row => ∃ (j : Nat) (y : Int), r.2[j]? = some y ∧ placeV p k x = placeV r.1 j y) σ.rows
          unfold whK
          rw [List.length_append]
          split <;> simp <;> omega
        have lt1 := World.block_lt_of_cell? _ _ hLb.l1
        have lt4 := World.block_lt_of_cell? _ _ hLb.l4
        have lt8 := World.block_lt_of_cell? _ _ z0
        have c5 := Pb.head.cells.2.2.2.2.2.1
        have lts := World.block_lt_of_cell? _ _ c5
        simp only at lt1 lt4 lt8 lts
        have nW1 : ¬ b1 = h8.bW := other_block t1 Pb.wh.1 (by intro h; cases h)
        have nW4 : ¬ b4 = h8.bW := other_block t4 Pb.wh.1 (by intro h; cases h)
        have nWs : ¬ sb = h8.bW := other_block Pb.mine Pb.wh.1 (by intro h; cases h)
        have nW8 : ¬ b8 = h8.bW := fun e => by rw [e, Pb.wh.1] at hfr; cases hfr
        have tr : ∀ W : World, (∀ j, j < Wb.heap.size → j ≠ h8.bW → W.heap[j]? = Wb.heap[j]?) → W.cell? ⟨b1, 0, none⟩ = some (.pointer (some ⟨sb, 0, none⟩)) ∧ W.cell? ⟨sb, 5, none⟩ = some (.map (some h8.bW)) ∧ W.cell? ⟨b4, 0, none⟩ = some (.int .i64 (σ.rows.length : Int)) ∧ W.cell? ⟨b8, 0, none⟩ = some (.int .i64 p) ∧ W.cell? ⟨b8, 1, none⟩ = some (.int .i64 (k : Int)) ∧ W.cell? ⟨b8, 2, none⟩ = some (.int .i64 x) := fun W hW =>
          ⟨(World.cell?_of_block (w := Wb) (hW b1 lt1 nW1)).trans hLb.l1, (World.cell?_of_block (w := Wb) (hW sb lts nWs)).trans c5, (World.cell?_of_block (w := Wb) (hW b4 lt4 nW4)).trans hLb.l4, (World.cell?_of_block (w := Wb) (hW b8 lt8 nW8)).trans z0, (World.cell?_of_block (w := Wb) (hW b8 lt8 nW8)).trans z1, (World.cell?_of_block (w := Wb) (hW b8 lt8 nW8)).trans z2⟩
        have hk1 : ∀ j, j < Wb.heap.size → j ≠ h8.bW → W1.heap[j]? = Wb.heap[j]? := fun j hj hne => by rw [hW1]; exact setBlock_ne hne
        have hs1 : W1.heap.size = Wb.heap.size := by rw [hW1]; simp [ChangeMaps.setBlock]
        have hkA : ∀ j, j < Wb.heap.size → j ≠ h8.bW → (W1.alloc (.cells #[.int .i64 (σ.rows.length : Int)] 3)).heap[j]? = Wb.heap[j]? := fun j hj hne => (Below.heap_alloc W1 _ j (by omega)).trans (hk1 j hj hne)
        have hsA : Wb.heap.size ≤ (W1.alloc (.cells #[.int .i64 (σ.rows.length : Int)] 3)).heap.size := by rw [asz]; omega
        have hfA : (W1.alloc (.cells #[.int .i64 (σ.rows.length : Int)] 3)).os = Wb.os ∧ (W1.alloc (.cells #[.int .i64 (σ.rows.length : Int)] 3)).tape = Wb.tape ∧ (W1.alloc (.cells #[.int .i64 (σ.rows.length : Int)] 3)).output = Wb.output := by rw [hW1]; exact ⟨rfl, rfl, rfl⟩
        have hbkA : (W1.alloc (.cells #[.int .i64 (σ.rows.length : Int)] 3)).heap[h8.bW]? = some (.map m1 ck1) := by rw [Below.heap_alloc W1 _ _ (by omega), hW1]; simp [ChangeMaps.setBlock, hbWlt]
        have hk2 : ∀ j, j < Wb.heap.size + 1 → j ≠ h8.bW → W2.heap[j]? = (Wb.alloc (.cells #[.int .i64 (σ.rows.length : Int)] 3)).heap[j]? := fun j hj hne => by rw [hW2]; exact setBlock_ne hne
        have hkB : ∀ j, j < Wb.heap.size → j ≠ h8.bW → W2.heap[j]? = Wb.heap[j]? := fun j hj hne => (hk2 j (by omega) hne).trans (Below.heap_alloc Wb _ j hj)
        have hs2 : W2.heap.size = Wb.heap.size + 1 := by rw [hW2]; simp [ChangeMaps.setBlock]
        have hsB : Wb.heap.size ≤ W2.heap.size := by omega
        have hfB : W2.os = Wb.os ∧ W2.tape = Wb.tape ∧ W2.output = Wb.output := by rw [hW2]; exact ⟨rfl, rfl, rfl⟩
        have hbkB : W2.heap[h8.bW]? = some (.map m2 ck2) := by rw [hW2]; exact setBlock_same (show h8.bW < (Wb.alloc (.cells #[.int .i64 (σ.rows.length : Int)] 3)).heap.size by rw [asz]; omega)
        have hvW : ∀ g, v0.ownBlock = some g → g ≠ h8.bW := fun g e eb => by have := hgW g e; rw [eb, Pb.wh.1] at this; cases this
        have hoA : W1.ownsRow 0 3 1 v0 (whMid σ.rows (p, xs) k (placeV p k x)).length ((whMid σ.rows (p, xs) k (placeV p k x)).map (Value.int .i64)) := owns_block hoW (fun g e => hk1 g (hoW.lt g e).2 (hvW g e))
        have hoB : W2.ownsRow 0 3 1 v0 (whMid σ.rows (p, xs) k (placeV p k x)).length ((whMid σ.rows (p, xs) k (placeV p k x)).map (Value.int .i64)) := owns_block hoW (fun g e => hkB g (hoW.lt g e).2 (hvW g e))
        have hsrcB : Source W2 (some ⟨Wb.heap.size, 0, none⟩) 1 1 [.int .i64 (σ.rows.length : Int)] := by
          rcases source_new Wb [.int .i64 (σ.rows.length : Int)] 3 with ⟨h, _⟩ | ⟨ad, h, hc⟩
          · cases h
          · refine .inr ⟨ad, h, fun j u hu => ?_⟩
            cases h
            have e : ∀ W : World, W.cell? ((⟨Wb.heap.size, 0, none⟩ : Addr).add j) = W.cell? ⟨Wb.heap.size, j, none⟩ := fun W => by congr 1; unfold Addr.add; split <;> simp_all
            have := hc j u hu
            rw [e] at this ⊢
            exact (World.cell?_of_block (w := Wb.alloc (.cells #[.int .i64 (σ.rows.length : Int)] 3)) (hk2 Wb.heap.size (by omega) (by omega))).trans this
        have hr1 : v0.ownBlock ≠ some b1 := fun e => other_block t1 (hgW _ e) (by intro h; cases h) rfl
        have hr4 : v0.ownBlock ≠ some b4 := fun e => other_block t4 (hgW _ e) (by intro h; cases h) rfl
        have hrs : v0.ownBlock ≠ some sb := fun e => other_block Pb.mine (hgW _ e) (by intro h; cases h) rfl
        have hr8 : v0.ownBlock ≠ some b8 := fun e => by have := hgW _ e; rw [hfr] at this; cases this
        have hrW : v0.ownBlock ≠ some h8.bW := fun e => hvW _ e rfl
        have HR := Lib.hid (And.intro hr1 (And.intro hrs (And.intro hr4 (And.intro hr8 hrW))))
        have d0 := tr Wb.drew (fun _ _ _ => rfl)
        have d1 := tr W1 hk1
        have dA := tr _ hkA
        have dB0 := tr (Wb.alloc (.cells #[.int .i64 (σ.rows.length : Int)] 3)).drew (fun j hj _ => Below.heap_alloc Wb _ j hj)
        have dB := tr W2 hkB
        have HL := Lib.hid (And.intro hent (And.intro hk1 (And.intro hk2 hvW)))
        clear hW1 hW2 hent hvW hr1 hr4 hrs hr8 hrW hLb lt1 lt4 lt8 lts z0 z1 z2 c5 hl30
        go_region_held3 (fun w' => w'.cell? ⟨b1, 0, none⟩ = some (.pointer (some ⟨sb, 0, none⟩)) ∧ w'.cell? ⟨sb, 5, none⟩ = some (.map (some h8.bW)) ∧ w'.cell? ⟨b4, 0, none⟩ = some (.int .i64 (σ.rows.length : Int)) ∧ w'.cell? ⟨b8, 0, none⟩ = some (.int .i64 p) ∧ w'.cell? ⟨b8, 1, none⟩ = some (.int .i64 (k : Int)) ∧ w'.cell? ⟨b8, 2, none⟩ = some (.int .i64 x)) (first | assumption | exact d0 | exact d1 | exact dA | exact dB0 | exact dB | exact ⟨(cell_setBlock nW1).trans hS.1, (cell_setBlock nWs).trans hS.2.1, (cell_setBlock nW4).trans hS.2.2.1, (cell_setBlock nW8).trans hS.2.2.2.1, (cell_setBlock nW8).trans hS.2.2.2.2.1, (cell_setBlock nW8).trans hS.2.2.2.2.2⟩ | go_keep) (first
          | (refine step_append_any elemInt _ rfl _ _ rfl 0 v0 (whMid σ.rows (p, xs) k (placeV p k x)).length ((whMid σ.rows (p, xs) k (placeV p k x)).map (Value.int .i64)) rfl (by exact hoA.alloc (.cells #[.int .i64 (σ.rows.length : Int)] 3)) (some ⟨W1.heap.size, 0, none⟩) 1 1 [.int .i64 (σ.rows.length : Int)] rfl (by exact source_new W1 [.int .i64 (σ.rows.length : Int)] 3) rfl (by simp [Value.oneCell']) (by unfold maxLen; omega) (by omega) (Nat.zero_le _) ?_
             intro v' w2 hown2 hgrow hblk
             obtain ⟨g', cap', rfl⟩ := owns_slice hown2
             have hgrow2 : (W1.alloc (.cells #[.int .i64 (σ.rows.length : Int)] 3)).grownBy w2 v0.ownBlock := by first | exact hgrow | exact undrew hgrow
             have hblk2 : (Value.slice (some ⟨g', 0, none⟩) ((whMid σ.rows (p, xs) k (placeV p k x)).length + 1) cap').ownBlock = v0.ownBlock ∨ (Value.slice (some ⟨g', 0, none⟩) ((whMid σ.rows (p, xs) k (placeV p k x)).length + 1) cap').ownBlock = some (W1.alloc (.cells #[.int .i64 (σ.rows.length : Int)] 3)).heap.size := hblk
             clear hgrow hblk
             obtain ⟨τ', es', clock', hrun, P12, T12⟩ := hL1 (W1.alloc (.cells #[.int .i64 (σ.rows.length : Int)] 3)) w2 _ hkA hsA hfA.1 hfA.2.1 hfA.2.2 ((hgrow2.block _ (by rw [asz]; omega) (fun e => HR.out.2.2.2.2 e.symm)).trans hbkA) hown2 hgrow2 hblk2
             have hrun0 : (Instr.entryStore 106 (.map (some h8.bW)) (.int .i64 (st1 : Int)) _).run Try.prog w2 = _ := hrun
             have hdA := tr (W1.alloc (.cells #[.int .i64 (σ.rows.length : Int)] 3)) hkA
             have hS : w2.cell? ⟨b1, 0, none⟩ = some (.pointer (some ⟨sb, 0, none⟩)) ∧ w2.cell? ⟨sb, 5, none⟩ = some (.map (some h8.bW)) ∧ w2.cell? ⟨b4, 0, none⟩ = some (.int .i64 (σ.rows.length : Int)) ∧ w2.cell? ⟨b8, 0, none⟩ = some (.int .i64 p) ∧ w2.cell? ⟨b8, 1, none⟩ = some (.int .i64 (k : Int)) ∧ w2.cell? ⟨b8, 2, none⟩ = some (.int .i64 x) := ⟨hgrow2.cell hdA.1 (fun e => HR.out.1 e.symm), hgrow2.cell hdA.2.1 (fun e => HR.out.2.1 e.symm), hgrow2.cell hdA.2.2.1 (fun e => HR.out.2.2.1 e.symm), hgrow2.cell hdA.2.2.2.1 (fun e => HR.out.2.2.2.1 e.symm), hgrow2.cell hdA.2.2.2.2.1 (fun e => HR.out.2.2.2.1 e.symm), hgrow2.cell hdA.2.2.2.2.2 (fun e => HR.out.2.2.2.1 e.symm)⟩)
          | (refine step_append_any elemInt _ rfl _ _ rfl 0 v0 (whMid σ.rows (p, xs) k (placeV p k x)).length ((whMid σ.rows (p, xs) k (placeV p k x)).map (Value.int .i64)) rfl (by exact hoB) (some ⟨Wb.heap.size, 0, none⟩) 1 1 [.int .i64 (σ.rows.length : Int)] rfl (by exact hsrcB) rfl (by simp [Value.oneCell']) (by unfold maxLen; omega) (by omega) (Nat.zero_le _) ?_
             intro v' w2 hown2 hgrow hblk
             obtain ⟨g', cap', rfl⟩ := owns_slice hown2
             have hgrow2 : W2.grownBy w2 v0.ownBlock := by first | exact hgrow | exact undrew hgrow
             have hblk2 : (Value.slice (some ⟨g', 0, none⟩) ((whMid σ.rows (p, xs) k (placeV p k x)).length + 1) cap').ownBlock = v0.ownBlock ∨ (Value.slice (some ⟨g', 0, none⟩) ((whMid σ.rows (p, xs) k (placeV p k x)).length + 1) cap').ownBlock = some W2.heap.size := hblk
             clear hgrow hblk
             obtain ⟨τ', es', clock', hrun, P12, T12⟩ := hL2 W2 w2 _ hkB hsB hfB.1 hfB.2.1 hfB.2.2 ((hgrow2.block _ (by omega) (fun e => HR.out.2.2.2.2 e.symm)).trans hbkB) hown2 hgrow2 hblk2
             have hrun0 : (Instr.entryStore 106 (.map (some h8.bW)) (.int .i64 (st2 : Int)) _).run Try.prog w2 = _ := hrun
             have hdA := tr W2 hkB
             have hS : w2.cell? ⟨b1, 0, none⟩ = some (.pointer (some ⟨sb, 0, none⟩)) ∧ w2.cell? ⟨sb, 5, none⟩ = some (.map (some h8.bW)) ∧ w2.cell? ⟨b4, 0, none⟩ = some (.int .i64 (σ.rows.length : Int)) ∧ w2.cell? ⟨b8, 0, none⟩ = some (.int .i64 p) ∧ w2.cell? ⟨b8, 1, none⟩ = some (.int .i64 (k : Int)) ∧ w2.cell? ⟨b8, 2, none⟩ = some (.int .i64 x) := ⟨hgrow2.cell hdA.1 (fun e => HR.out.1 e.symm), hgrow2.cell hdA.2.1 (fun e => HR.out.2.1 e.symm), hgrow2.cell hdA.2.2.1 (fun e => HR.out.2.2.1 e.symm), hgrow2.cell hdA.2.2.2.1 (fun e => HR.out.2.2.2.1 e.symm), hgrow2.cell hdA.2.2.2.2.1 (fun e => HR.out.2.2.2.1 e.symm), hgrow2.cell hdA.2.2.2.2.2 (fun e => HR.out.2.2.2.1 e.symm)⟩))
        all_goals
          have hrel12 := And.intro P12 T12
          clear P12 T12 HL HR d0 d1 dA dB0 dB tr
          go_wp2_with fail
          go_roundw
          case rel => exact ⟨k + 1, τ', by omega, by go_num, by
              have e : whMid σ.rows (p, xs) (k + 1) = updL (whMid σ.rows (p, xs) k) (placeV p k x) (σ.rows.length : Int) := by
                simp only [whMid, HX.out]
              rw [e]; exact hrel12.1, Tr.trans ((Tb.mono (fun _ h => h.elim)).trans hrel12.2)⟩
          case measure => simp [intOf]; omega
    · have hke : k = xs.length := by omega
      subst hke
      obtain ⟨fs, hoU, hgU, hcU⟩ := Pr.undo
      have hnew : UndoAt s sb τr wr (Value.func (.func 76) #[] #[.pointer (some ⟨b1, 0, none⟩), .pointer (some ⟨b2, 0, none⟩), .pointer (some ⟨b3, 0, none⟩), .pointer (some ⟨b4, 0, none⟩)]) σ.rows.length (p, xs) := ⟨b1, b2, b3, b4, a1, cc1, rfl, ⟨t1, t2, t3, t4⟩, hLr.l1, fun j x hj => by
        rw [HKI.out] at hj
        match j, hj with
        | 0, hj => simp at hj; subst hj; exact hLr.l20
        | 1, hj => simp at hj; subst hj; exact hLr.l21
        | 2, hj => simp at hj; subst hj; exact hLr.l22
        | 3, hj => simp at hj; subst hj; exact hLr.l23
        | 4, hj => simp at hj; subst hj; exact hLr.l24
        | 5, hj => simp at hj; subst hj; exact hLr.l25
        | 6, hj => simp at hj; subst hj; exact hLr.l26
        | 7, hj => simp at hj; subst hj; exact hLr.l27
        | 8, hj => simp at hj; subst hj; exact hLr.l28, hLr.l30, hLr.l31, hIr, hLr.l4⟩
      have HU := Lib.hid (And.intro hgU (And.intro hcU hnew))
      clear hgU hcU hnew
      go_upto_region 14 with fail
      have hl1 := hLr.l1
      have c2 := Pr.head.cells.2.2.1
      have fz := Pr.head.frozen 2
      have ns1 : ¬ sb = b1 := other_block Pr.mine t1 (by intro h; cases h)
      have hr1 : h8.vU.ownBlock ≠ some b1 := fun e => other_block t1 (HU.out.1 _ e) (by intro h; cases h) rfl
      have hrs : h8.vU.ownBlock ≠ some sb := fun e => other_block Pr.mine (HU.out.1 _ e) (by intro h; cases h) rfl
      have HR := Lib.hid (And.intro hr1 hrs)
      have c2A := on_cell ((Below.refl _ _).alloc (Nat.le_refl _) (.cells #[(Value.func (.func 76) #[] #[.pointer (some ⟨b1, 0, none⟩), .pointer (some ⟨b2, 0, none⟩), .pointer (some ⟨b3, 0, none⟩), .pointer (some ⟨b4, 0, none⟩)])] 1)) c2
      have c2B : (wr.alloc (.cells #[(Value.func (.func 76) #[] #[.pointer (some ⟨b1, 0, none⟩), .pointer (some ⟨b2, 0, none⟩), .pointer (some ⟨b3, 0, none⟩), .pointer (some ⟨b4, 0, none⟩)])] 1)).drew.cell? ⟨sb, 2, none⟩ = some h8.vU := c2A
      clear hr1 hrs
      refine wp_region_noPanic ?_
      refine wp_region_held_drew (S := (fun w' => w'.cell? ⟨b1, 0, none⟩ = some (.pointer (some ⟨sb, 0, none⟩)))) (by kernel_rfl) ?_ (fun hHeld => ?_)
      · first | assumption | exact hl1 | go_keep
      refine wpAnyH_take (i := 0) (oi := _) (v := (.pointer (some ⟨sb, 0, none⟩))) rfl (by kernel_rfl) (by kernel_rfl) (by kernel_rfl) (fun _ _ _ h => h) (Or.inl ⟨by rfl, ?_⟩) (by assumption) ?_
      · intro w hSw
        (try dsimp only at hSw)
        go_simp
      (try simp only [Act.put, List.setIfInBounds_toArray, List.set_cons_zero, List.set_cons_succ])
      refine wpAnyH_take (i := 1) (oi := _) (v := (.pointer (some ⟨sb, 0, none⟩))) rfl (by kernel_rfl) (by kernel_rfl) (by kernel_rfl) (fun _ _ _ h => h) (Or.inl ⟨by rfl, ?_⟩) (by assumption) ?_
      · intro w hSw
        (try dsimp only at hSw)
        go_simp
      (try simp only [Act.put, List.setIfInBounds_toArray, List.set_cons_zero, List.set_cons_succ])
      refine wpAnyH_take (i := 2) (oi := _) (v := (.pointer (some ⟨sb, 0, none⟩))) rfl (by kernel_rfl) (by kernel_rfl) (by kernel_rfl) (fun _ _ _ h => h) (Or.inl ⟨by rfl, ?_⟩) (by assumption) ?_
      · intro w hSw
        (try dsimp only at hSw)
        go_simp
      (try simp only [Act.put, List.setIfInBounds_toArray, List.set_cons_zero, List.set_cons_succ])
      refine wpAnyH_take (i := 3) (oi := _) (v := (.pointer (some ⟨sb, 2, none⟩))) rfl (by kernel_rfl) (by kernel_rfl) (by kernel_rfl) (fun _ _ _ h => h) (Or.inl ⟨by rfl, ?_⟩) (by assumption) ?_
      · intro w hSw
        (try dsimp only at hSw)
        go_simp
      (try simp only [Act.put, List.setIfInBounds_toArray, List.set_cons_zero, List.set_cons_succ])
      refine wpAnyH_ready (rs := [4, 5]) (by kernel_rfl) (by simp) ?_
      refine AllReadyH.cons (o := _) rfl (fun K hK => ?_) ?_
      · go_simp
        refine hK.out _ _ ?_ (fun hHeld => ?_)
        · first | assumption | exact hHeld | go_keep
        clear hK K
        (try simp only [Act.put, List.setIfInBounds_toArray, List.set_cons_zero, List.set_cons_succ])
        refine wpAnyH_ready (rs := [5]) (by kernel_rfl) (by simp) ?_
        refine AllReadyH.cons (o := _) rfl (fun K hK => ?_) ?_
        · go_simp
          refine hK.out _ _ ?_ (fun hHeld => ?_)
          · first | assumption | exact hHeld | go_keep
          clear hK K
          (try simp only [Act.put, List.setIfInBounds_toArray, List.set_cons_zero, List.set_cons_succ])
          refine wpAnyH_ready (rs := [6]) (by kernel_rfl) (by simp) ?_
          refine AllReadyH.cons (o := _) rfl (fun K hK => ?_) ?_
          · go_simp
            refine hK.out _ _ ?_ (fun hHeld => ?_)
            · first | assumption | exact hHeld | go_keep
            clear hK K
            (try simp only [Act.put, List.setIfInBounds_toArray, List.set_cons_zero, List.set_cons_succ])
            refine wpAnyH_ready (rs := [7]) (by kernel_rfl) (by simp) ?_
            refine AllReadyH.cons (o := _) rfl (fun K hK => ?_) ?_
            · refine step_append_any elemFunc _ rfl _ _ rfl 0 _ σ.rows.length fs rfl (by exact hoU.alloc (.cells #[(Value.func (.func 76) #[] #[.pointer (some ⟨b1, 0, none⟩), .pointer (some ⟨b2, 0, none⟩), .pointer (some ⟨b3, 0, none⟩), .pointer (some ⟨b4, 0, none⟩)])] 1)) (some ⟨wr.heap.size, 0, none⟩) 1 1 [(Value.func (.func 76) #[] #[.pointer (some ⟨b1, 0, none⟩), .pointer (some ⟨b2, 0, none⟩), .pointer (some ⟨b3, 0, none⟩), .pointer (some ⟨b4, 0, none⟩)])] rfl (by exact source_new wr [(Value.func (.func 76) #[] #[.pointer (some ⟨b1, 0, none⟩), .pointer (some ⟨b2, 0, none⟩), .pointer (some ⟨b3, 0, none⟩), .pointer (some ⟨b4, 0, none⟩)])] 1) rfl (by simp [Value.oneCell']) (by unfold maxLen; omega) (by omega) (Nat.zero_le _) ?_
              intro v' w2 hown2 hgrow hblk
              obtain ⟨g', cap', rfl⟩ := owns_slice hown2
              have hgrow2 : (wr.alloc (.cells #[(Value.func (.func 76) #[] #[.pointer (some ⟨b1, 0, none⟩), .pointer (some ⟨b2, 0, none⟩), .pointer (some ⟨b3, 0, none⟩), .pointer (some ⟨b4, 0, none⟩)])] 1)).grownBy w2 h8.vU.ownBlock := by first | exact hgrow | exact undrew hgrow
              have hblk2 : (Value.slice (some ⟨g', 0, none⟩) (σ.rows.length + 1) cap').ownBlock = h8.vU.ownBlock ∨ (Value.slice (some ⟨g', 0, none⟩) (σ.rows.length + 1) cap').ownBlock = some (wr.alloc (.cells #[(Value.func (.func 76) #[] #[.pointer (some ⟨b1, 0, none⟩), .pointer (some ⟨b2, 0, none⟩), .pointer (some ⟨b3, 0, none⟩), .pointer (some ⟨b4, 0, none⟩)])] 1)).heap.size := hblk
              clear hgrow hblk
              have hbA : Below wr.heap.size wr (wr.alloc (.cells #[(Value.func (.func 76) #[] #[.pointer (some ⟨b1, 0, none⟩), .pointer (some ⟨b2, 0, none⟩), .pointer (some ⟨b3, 0, none⟩), .pointer (some ⟨b4, 0, none⟩)])] 1)) := (Below.refl _ _).alloc (Nat.le_refl _) _
              have hS : w2.cell? ⟨b1, 0, none⟩ = some (.pointer (some ⟨sb, 0, none⟩)) := hgrow2.cell (on_cell hbA hl1) (fun e => HR.out.1 e.symm)
              have kk2 := hgrow2.cell (on_cell hbA c2) (fun e => HR.out.2 e.symm)
              have kf : w2.frozen? ⟨sb, 2, none⟩ = false := (World.frozen?_of_block (w := wr) ((hgrow2.block sb (by rw [asz]; have := World.block_lt_of_cell? _ _ c2; simp only at this; omega) (fun e => HR.out.2 e.symm)).trans (Below.heap_alloc wr _ sb (World.block_lt_of_cell? _ _ c2)))).trans fz
              refine hK.out _ _ ?_ (fun hHeld => ?_)
              · exact hS
              clear hK K
              (try simp only [Act.put, List.setIfInBounds_toArray, List.set_cons_zero, List.set_cons_succ])
              refine wpAnyH_take (i := 8) (oi := _) (v := (.pointer (some ⟨sb, 0, none⟩))) rfl (by kernel_rfl) (by kernel_rfl) (by kernel_rfl) (fun _ _ _ h => h) (Or.inl ⟨by rfl, ?_⟩) (by assumption) ?_
              · intro w hSw
                (try dsimp only at hSw)
                go_simp
              (try simp only [Act.put, List.setIfInBounds_toArray, List.set_cons_zero, List.set_cons_succ])
              refine wpAnyH_take (i := 9) (oi := _) (v := (.pointer (some ⟨sb, 2, none⟩))) rfl (by kernel_rfl) (by kernel_rfl) (by kernel_rfl) (fun _ _ _ h => h) (Or.inl ⟨by rfl, ?_⟩) (by assumption) ?_
              · intro w hSw
                (try dsimp only at hSw)
                go_simp
              (try simp only [Act.put, List.setIfInBounds_toArray, List.set_cons_zero, List.set_cons_succ])
              refine wpAnyH_ready (rs := [10]) (by kernel_rfl) (by simp) ?_
              refine AllReadyH.cons (o := _) rfl (fun K hK => ?_) ?_
              · go_simp
                refine hK.out _ _ ?_ (fun hHeld => ?_)
                · exact (World.cell?_setCell_far _ _ _ _ ns1).trans hS
                clear hK K
                (try simp only [Act.put, List.setIfInBounds_toArray, List.set_cons_zero, List.set_cons_succ])
                refine wpAnyH_done (by kernel_rfl) ?_ _
                refine NoPanic.normal ?_
                obtain ⟨τ', P14, T14⟩ := Pr.putUndo hoU HU.out.1 HU.out.2.1 HU.out.2.2 hbA hown2 hgrow2 hblk2
                have hfin : Hid (∃ τ', IsStore s sb (σ.push (p, xs)) τ' (w2.setCell ⟨sb, 2, none⟩ (.slice (some ⟨g', 0, none⟩) (σ.rows.length + 1) cap')) ∧ Turn s (fun _ => True) τ τ' w (w2.setCell ⟨sb, 2, none⟩ (.slice (some ⟨g', 0, none⟩) (σ.rows.length + 1) cap'))) := Lib.hid (by
                  refine ⟨τ', ⟨_, push_end hSo HF.out HNO.out hx8 P14⟩, ?_⟩
                  exact ((((((T1.mono (R' := fun _ => True) (fun _ _ => trivial)).trans (T7.mono (R' := fun _ => True) (fun _ _ => trivial))).trans (T8.mono (R' := fun _ => True) (fun _ _ => trivial))).trans (T9.mono (R' := fun _ => True) (fun _ _ => trivial))).trans (T10.mono (R' := fun _ => True) (fun _ _ => trivial))).trans (Tr.mono (R' := fun _ => True) (fun _ _ => trivial))).trans (T14.mono (R' := fun _ => True) (fun _ _ => trivial)))
                clear P14 T14 HR HU
                go_wp2_with fail
                first
                  | refine bodyPost_end (v := .tuple #[]) (results_none Try.results55 _ _ _) rfl ?_
                  | refine bodyPost_ret (v := .tuple #[]) (results_none Try.results55 _ _ _) rfl ?_
                exact ⟨rfl, hfin.out⟩
              exact AllReadyH.nil
            exact AllReadyH.nil
          exact AllReadyH.nil
        exact AllReadyH.nil
      refine AllReadyH.cons (o := _) rfl (fun K hK => ?_) ?_
      · go_simp
        refine hK.out _ _ ?_ (fun hHeld => ?_)
        · first | assumption | exact hHeld | go_keep
        clear hK K
        (try simp only [Act.put, List.setIfInBounds_toArray, List.set_cons_zero, List.set_cons_succ])
        refine wpAnyH_ready (rs := [4, 6]) (by kernel_rfl) (by simp) ?_
        refine AllReadyH.cons (o := _) rfl (fun K hK => ?_) ?_
        · go_simp
          refine hK.out _ _ ?_ (fun hHeld => ?_)
          · first | assumption | exact hHeld | go_keep
          clear hK K
          (try simp only [Act.put, List.setIfInBounds_toArray, List.set_cons_zero, List.set_cons_succ])
          refine wpAnyH_ready (rs := [6]) (by kernel_rfl) (by simp) ?_
          refine AllReadyH.cons (o := _) rfl (fun K hK => ?_) ?_
          · go_simp
            refine hK.out _ _ ?_ (fun hHeld => ?_)
            · first | assumption | exact hHeld | go_keep
            clear hK K
            (try simp only [Act.put, List.setIfInBounds_toArray, List.set_cons_zero, List.set_cons_succ])
            refine wpAnyH_ready (rs := [7]) (by kernel_rfl) (by simp) ?_
            refine AllReadyH.cons (o := _) rfl (fun K hK => ?_) ?_
            · refine step_append_any elemFunc _ rfl _ _ rfl 0 _ σ.rows.length fs rfl (by exact hoU.alloc (.cells #[(Value.func (.func 76) #[] #[.pointer (some ⟨b1, 0, none⟩), .pointer (some ⟨b2, 0, none⟩), .pointer (some ⟨b3, 0, none⟩), .pointer (some ⟨b4, 0, none⟩)])] 1)) (some ⟨wr.heap.size, 0, none⟩) 1 1 [(Value.func (.func 76) #[] #[.pointer (some ⟨b1, 0, none⟩), .pointer (some ⟨b2, 0, none⟩), .pointer (some ⟨b3, 0, none⟩), .pointer (some ⟨b4, 0, none⟩)])] rfl (by exact source_new wr [(Value.func (.func 76) #[] #[.pointer (some ⟨b1, 0, none⟩), .pointer (some ⟨b2, 0, none⟩), .pointer (some ⟨b3, 0, none⟩), .pointer (some ⟨b4, 0, none⟩)])] 1) rfl (by simp [Value.oneCell']) (by unfold maxLen; omega) (by omega) (Nat.zero_le _) ?_
              intro v' w2 hown2 hgrow hblk
              obtain ⟨g', cap', rfl⟩ := owns_slice hown2
              have hgrow2 : (wr.alloc (.cells #[(Value.func (.func 76) #[] #[.pointer (some ⟨b1, 0, none⟩), .pointer (some ⟨b2, 0, none⟩), .pointer (some ⟨b3, 0, none⟩), .pointer (some ⟨b4, 0, none⟩)])] 1)).grownBy w2 h8.vU.ownBlock := by first | exact hgrow | exact undrew hgrow
              have hblk2 : (Value.slice (some ⟨g', 0, none⟩) (σ.rows.length + 1) cap').ownBlock = h8.vU.ownBlock ∨ (Value.slice (some ⟨g', 0, none⟩) (σ.rows.length + 1) cap').ownBlock = some (wr.alloc (.cells #[(Value.func (.func 76) #[] #[.pointer (some ⟨b1, 0, none⟩), .pointer (some ⟨b2, 0, none⟩), .pointer (some ⟨b3, 0, none⟩), .pointer (some ⟨b4, 0, none⟩)])] 1)).heap.size := hblk
              clear hgrow hblk
              have hbA : Below wr.heap.size wr (wr.alloc (.cells #[(Value.func (.func 76) #[] #[.pointer (some ⟨b1, 0, none⟩), .pointer (some ⟨b2, 0, none⟩), .pointer (some ⟨b3, 0, none⟩), .pointer (some ⟨b4, 0, none⟩)])] 1)) := (Below.refl _ _).alloc (Nat.le_refl _) _
              have hS : w2.cell? ⟨b1, 0, none⟩ = some (.pointer (some ⟨sb, 0, none⟩)) := hgrow2.cell (on_cell hbA hl1) (fun e => HR.out.1 e.symm)
              have kk2 := hgrow2.cell (on_cell hbA c2) (fun e => HR.out.2 e.symm)
              have kf : w2.frozen? ⟨sb, 2, none⟩ = false := (World.frozen?_of_block (w := wr) ((hgrow2.block sb (by rw [asz]; have := World.block_lt_of_cell? _ _ c2; simp only at this; omega) (fun e => HR.out.2 e.symm)).trans (Below.heap_alloc wr _ sb (World.block_lt_of_cell? _ _ c2)))).trans fz
              refine hK.out _ _ ?_ (fun hHeld => ?_)
              · exact hS
              clear hK K
              (try simp only [Act.put, List.setIfInBounds_toArray, List.set_cons_zero, List.set_cons_succ])
              refine wpAnyH_take (i := 8) (oi := _) (v := (.pointer (some ⟨sb, 0, none⟩))) rfl (by kernel_rfl) (by kernel_rfl) (by kernel_rfl) (fun _ _ _ h => h) (Or.inl ⟨by rfl, ?_⟩) (by assumption) ?_
              · intro w hSw
                (try dsimp only at hSw)
                go_simp
              (try simp only [Act.put, List.setIfInBounds_toArray, List.set_cons_zero, List.set_cons_succ])
              refine wpAnyH_take (i := 9) (oi := _) (v := (.pointer (some ⟨sb, 2, none⟩))) rfl (by kernel_rfl) (by kernel_rfl) (by kernel_rfl) (fun _ _ _ h => h) (Or.inl ⟨by rfl, ?_⟩) (by assumption) ?_
              · intro w hSw
                (try dsimp only at hSw)
                go_simp
              (try simp only [Act.put, List.setIfInBounds_toArray, List.set_cons_zero, List.set_cons_succ])
              refine wpAnyH_ready (rs := [10]) (by kernel_rfl) (by simp) ?_
              refine AllReadyH.cons (o := _) rfl (fun K hK => ?_) ?_
              · go_simp
                refine hK.out _ _ ?_ (fun hHeld => ?_)
                · exact (World.cell?_setCell_far _ _ _ _ ns1).trans hS
                clear hK K
                (try simp only [Act.put, List.setIfInBounds_toArray, List.set_cons_zero, List.set_cons_succ])
                refine wpAnyH_done (by kernel_rfl) ?_ _
                refine NoPanic.normal ?_
                obtain ⟨τ', P14, T14⟩ := Pr.putUndo hoU HU.out.1 HU.out.2.1 HU.out.2.2 hbA hown2 hgrow2 hblk2
                have hfin : Hid (∃ τ', IsStore s sb (σ.push (p, xs)) τ' (w2.setCell ⟨sb, 2, none⟩ (.slice (some ⟨g', 0, none⟩) (σ.rows.length + 1) cap')) ∧ Turn s (fun _ => True) τ τ' w (w2.setCell ⟨sb, 2, none⟩ (.slice (some ⟨g', 0, none⟩) (σ.rows.length + 1) cap'))) := Lib.hid (by
                  refine ⟨τ', ⟨_, push_end hSo HF.out HNO.out hx8 P14⟩, ?_⟩
                  exact ((((((T1.mono (R' := fun _ => True) (fun _ _ => trivial)).trans (T7.mono (R' := fun _ => True) (fun _ _ => trivial))).trans (T8.mono (R' := fun _ => True) (fun _ _ => trivial))).trans (T9.mono (R' := fun _ => True) (fun _ _ => trivial))).trans (T10.mono (R' := fun _ => True) (fun _ _ => trivial))).trans (Tr.mono (R' := fun _ => True) (fun _ _ => trivial))).trans (T14.mono (R' := fun _ => True) (fun _ _ => trivial)))
                clear P14 T14 HR HU
                go_wp2_with fail
                first
                  | refine bodyPost_end (v := .tuple #[]) (results_none Try.results55 _ _ _) rfl ?_
                  | refine bodyPost_ret (v := .tuple #[]) (results_none Try.results55 _ _ _) rfl ?_
                exact ⟨rfl, hfin.out⟩
              exact AllReadyH.nil
            exact AllReadyH.nil
          exact AllReadyH.nil
        refine AllReadyH.cons (o := _) rfl (fun K hK => ?_) ?_
        · go_simp
          refine hK.out _ _ ?_ (fun hHeld => ?_)
          · first | assumption | exact hHeld | go_keep
          clear hK K
          (try simp only [Act.put, List.setIfInBounds_toArray, List.set_cons_zero, List.set_cons_succ])
          refine wpAnyH_ready (rs := [4]) (by kernel_rfl) (by simp) ?_
          refine AllReadyH.cons (o := _) rfl (fun K hK => ?_) ?_
          · go_simp
            refine hK.out _ _ ?_ (fun hHeld => ?_)
            · first | assumption | exact hHeld | go_keep
            clear hK K
            (try simp only [Act.put, List.setIfInBounds_toArray, List.set_cons_zero, List.set_cons_succ])
            refine wpAnyH_ready (rs := [7]) (by kernel_rfl) (by simp) ?_
            refine AllReadyH.cons (o := _) rfl (fun K hK => ?_) ?_
            · refine step_append_any elemFunc _ rfl _ _ rfl 0 _ σ.rows.length fs rfl (by exact hoU.alloc (.cells #[(Value.func (.func 76) #[] #[.pointer (some ⟨b1, 0, none⟩), .pointer (some ⟨b2, 0, none⟩), .pointer (some ⟨b3, 0, none⟩), .pointer (some ⟨b4, 0, none⟩)])] 1)) (some ⟨wr.heap.size, 0, none⟩) 1 1 [(Value.func (.func 76) #[] #[.pointer (some ⟨b1, 0, none⟩), .pointer (some ⟨b2, 0, none⟩), .pointer (some ⟨b3, 0, none⟩), .pointer (some ⟨b4, 0, none⟩)])] rfl (by exact source_new wr [(Value.func (.func 76) #[] #[.pointer (some ⟨b1, 0, none⟩), .pointer (some ⟨b2, 0, none⟩), .pointer (some ⟨b3, 0, none⟩), .pointer (some ⟨b4, 0, none⟩)])] 1) rfl (by simp [Value.oneCell']) (by unfold maxLen; omega) (by omega) (Nat.zero_le _) ?_
              intro v' w2 hown2 hgrow hblk
              obtain ⟨g', cap', rfl⟩ := owns_slice hown2
              have hgrow2 : (wr.alloc (.cells #[(Value.func (.func 76) #[] #[.pointer (some ⟨b1, 0, none⟩), .pointer (some ⟨b2, 0, none⟩), .pointer (some ⟨b3, 0, none⟩), .pointer (some ⟨b4, 0, none⟩)])] 1)).grownBy w2 h8.vU.ownBlock := by first | exact hgrow | exact undrew hgrow
              have hblk2 : (Value.slice (some ⟨g', 0, none⟩) (σ.rows.length + 1) cap').ownBlock = h8.vU.ownBlock ∨ (Value.slice (some ⟨g', 0, none⟩) (σ.rows.length + 1) cap').ownBlock = some (wr.alloc (.cells #[(Value.func (.func 76) #[] #[.pointer (some ⟨b1, 0, none⟩), .pointer (some ⟨b2, 0, none⟩), .pointer (some ⟨b3, 0, none⟩), .pointer (some ⟨b4, 0, none⟩)])] 1)).heap.size := hblk
              clear hgrow hblk
              have hbA : Below wr.heap.size wr (wr.alloc (.cells #[(Value.func (.func 76) #[] #[.pointer (some ⟨b1, 0, none⟩), .pointer (some ⟨b2, 0, none⟩), .pointer (some ⟨b3, 0, none⟩), .pointer (some ⟨b4, 0, none⟩)])] 1)) := (Below.refl _ _).alloc (Nat.le_refl _) _
              have hS : w2.cell? ⟨b1, 0, none⟩ = some (.pointer (some ⟨sb, 0, none⟩)) := hgrow2.cell (on_cell hbA hl1) (fun e => HR.out.1 e.symm)
              have kk2 := hgrow2.cell (on_cell hbA c2) (fun e => HR.out.2 e.symm)
              have kf : w2.frozen? ⟨sb, 2, none⟩ = false := (World.frozen?_of_block (w := wr) ((hgrow2.block sb (by rw [asz]; have := World.block_lt_of_cell? _ _ c2; simp only at this; omega) (fun e => HR.out.2 e.symm)).trans (Below.heap_alloc wr _ sb (World.block_lt_of_cell? _ _ c2)))).trans fz
              refine hK.out _ _ ?_ (fun hHeld => ?_)
              · exact hS
              clear hK K
              (try simp only [Act.put, List.setIfInBounds_toArray, List.set_cons_zero, List.set_cons_succ])
              refine wpAnyH_take (i := 8) (oi := _) (v := (.pointer (some ⟨sb, 0, none⟩))) rfl (by kernel_rfl) (by kernel_rfl) (by kernel_rfl) (fun _ _ _ h => h) (Or.inl ⟨by rfl, ?_⟩) (by assumption) ?_
              · intro w hSw
                (try dsimp only at hSw)
                go_simp
              (try simp only [Act.put, List.setIfInBounds_toArray, List.set_cons_zero, List.set_cons_succ])
              refine wpAnyH_take (i := 9) (oi := _) (v := (.pointer (some ⟨sb, 2, none⟩))) rfl (by kernel_rfl) (by kernel_rfl) (by kernel_rfl) (fun _ _ _ h => h) (Or.inl ⟨by rfl, ?_⟩) (by assumption) ?_
              · intro w hSw
                (try dsimp only at hSw)
                go_simp
              (try simp only [Act.put, List.setIfInBounds_toArray, List.set_cons_zero, List.set_cons_succ])
              refine wpAnyH_ready (rs := [10]) (by kernel_rfl) (by simp) ?_
              refine AllReadyH.cons (o := _) rfl (fun K hK => ?_) ?_
              · go_simp
                refine hK.out _ _ ?_ (fun hHeld => ?_)
                · exact (World.cell?_setCell_far _ _ _ _ ns1).trans hS
                clear hK K
                (try simp only [Act.put, List.setIfInBounds_toArray, List.set_cons_zero, List.set_cons_succ])
                refine wpAnyH_done (by kernel_rfl) ?_ _
                refine NoPanic.normal ?_
                obtain ⟨τ', P14, T14⟩ := Pr.putUndo hoU HU.out.1 HU.out.2.1 HU.out.2.2 hbA hown2 hgrow2 hblk2
                have hfin : Hid (∃ τ', IsStore s sb (σ.push (p, xs)) τ' (w2.setCell ⟨sb, 2, none⟩ (.slice (some ⟨g', 0, none⟩) (σ.rows.length + 1) cap')) ∧ Turn s (fun _ => True) τ τ' w (w2.setCell ⟨sb, 2, none⟩ (.slice (some ⟨g', 0, none⟩) (σ.rows.length + 1) cap'))) := Lib.hid (by
                  refine ⟨τ', ⟨_, push_end hSo HF.out HNO.out hx8 P14⟩, ?_⟩
                  exact ((((((T1.mono (R' := fun _ => True) (fun _ _ => trivial)).trans (T7.mono (R' := fun _ => True) (fun _ _ => trivial))).trans (T8.mono (R' := fun _ => True) (fun _ _ => trivial))).trans (T9.mono (R' := fun _ => True) (fun _ _ => trivial))).trans (T10.mono (R' := fun _ => True) (fun _ _ => trivial))).trans (Tr.mono (R' := fun _ => True) (fun _ _ => trivial))).trans (T14.mono (R' := fun _ => True) (fun _ _ => trivial)))
                clear P14 T14 HR HU
                go_wp2_with fail
                first
                  | refine bodyPost_end (v := .tuple #[]) (results_none Try.results55 _ _ _) rfl ?_
                  | refine bodyPost_ret (v := .tuple #[]) (results_none Try.results55 _ _ _) rfl ?_
                exact ⟨rfl, hfin.out⟩
              exact AllReadyH.nil
            exact AllReadyH.nil
          exact AllReadyH.nil
        exact AllReadyH.nil
      exact AllReadyH.nil
end Go.Proofs.Ytkejjiohkhlnnaa
