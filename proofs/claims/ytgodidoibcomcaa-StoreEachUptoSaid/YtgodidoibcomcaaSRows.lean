/-
  Lists of rows (a number and a list of numbers) as a world holds them; what equal, rows, known and joined do with them.
-/
import Derived.Test.YtgodidoibcomcaaSInts
import Derived.Deep.RegionHeld3
namespace Go.Proofs.Ytgodidoibcomcaa
open Go.RowKit

abbrev Row := Int × List Int

/-- the slice a, c of the rows l lies in blocks of the zone Z -/
def RowsZ (Z : Nat → Prop) (w : World) (a : Option Addr) (c : Nat) (l : List Row) : Prop :=
  (l = [] ∨ ∃ b off, a = some ⟨b, off, none⟩ ∧ Z b ∧ ∀ i (h : i < l.length), w.cell? ⟨b, off + i * 2, none⟩ = some (.int .i64 l[i].1) ∧ ∃ ai ci, w.cell? ⟨b, off + i * 2 + 1, none⟩ = some (.slice ai l[i].2.length ci) ∧ IntsZ Z w ai ci l[i].2) ∧ (a = none → l = [] ∧ c = 0)
theorem RowsZ.keep {Z Z' : Nat → Prop} {w w' : World} {a : Option Addr} {c : Nat} {l : List Row} (h : RowsZ Z w a c l) (hk : ∀ j, j < w.heap.size → Z j → w'.heap[j]? = w.heap[j]?) (hz : ∀ j, j < w.heap.size → Z j → Z' j) : RowsZ Z' w' a c l := by
  refine ⟨?_, h.2⟩
  rcases h.1 with h | ⟨b, off, ha, hb, hc⟩
  · exact .inl h
  · rcases Nat.eq_zero_or_pos l.length with h0 | h0
    · exact .inl (List.eq_nil_of_length_eq_zero h0)
    · have hlt := World.block_lt_of_cell? _ _ (hc 0 h0).1
      refine .inr ⟨b, off, ha, hz b hlt hb, fun i hi => ?_⟩
      obtain ⟨h1, ai, ci, h2, h3⟩ := hc i hi
      exact ⟨(World.cell?_of_block (w := w) (hk b hlt hb)).trans h1, ai, ci, (World.cell?_of_block (w := w) (hk b hlt hb)).trans h2, h3.keep hk hz⟩
theorem RowsZ.below {Z : Nat → Prop} {w w' : World} {a : Option Addr} {c : Nat} {l : List Row} (h : RowsZ Z w a c l) {B : Nat} (hb : Below B w w') (hB : w.heap.size ≤ B) : RowsZ Z w' a c l :=
  h.keep (fun j hj _ => hb.block j (Nat.lt_of_lt_of_le hj hB)) (fun _ _ h => h)
theorem RowsZ.zone {Z Z' : Nat → Prop} {w : World} {a : Option Addr} {c : Nat} {l : List Row} (h : RowsZ Z w a c l) (hz : ∀ j, Z j → Z' j) : RowsZ Z' w a c l :=
  h.keep (fun _ _ _ => rfl) (fun j _ => hz j)
theorem rows_at {Z : Nat → Prop} {w : World} {b o : Nat} {l : List Row} (h : ∀ i (h : i < l.length), w.cell? ⟨b, o + i * 2, none⟩ = some (.int .i64 l[i].1) ∧ ∃ ai ci, w.cell? ⟨b, o + i * 2 + 1, none⟩ = some (.slice ai l[i].2.length ci) ∧ IntsZ Z w ai ci l[i].2) {k : Nat} (hk : k < l.length) :
    ∃ p ai ci xs, w.cell? ⟨b, o + k * 2, none⟩ = some (.int .i64 p) ∧ w.cell? ⟨b, o + k * 2 + 1, none⟩ = some (.slice ai xs.length ci) ∧ Hid (IntsZ Z w ai ci xs) ∧ Hid (l[k]? = some (p, xs)) := by
  obtain ⟨h1, ai, ci, h2, h3⟩ := h k hk
  exact ⟨l[k].1, ai, ci, l[k].2, h1, h2, Lib.hid h3, Lib.hid (List.getElem?_eq_getElem hk)⟩

theorem infoRow : (Try.prog.info? 28).map (fun i => (i.zero, i.size, i.bytes)) = some (some (.agg #[.int .i64 0, .slice none 0 0]), 2, 32) := by kernel_rfl
theorem elemRow : Elem Try.prog 29 28 (.agg #[.int .i64 0, .slice none 0 0]) 2 32 := ⟨Try.underlying29, infoRow, rfl, by decide⟩

/-- cs are the cells of the rows l -/
def RowCells (Z : Nat → Prop) (w : World) (cs : List Value) (l : List Row) : Prop :=
  cs.length = l.length * 2 ∧ ∀ i (h : i < l.length), cs[i * 2]? = some (.int .i64 l[i].1) ∧ ∃ ai ci, cs[i * 2 + 1]? = some (.slice ai l[i].2.length ci) ∧ IntsZ Z w ai ci l[i].2
theorem RowCells.nil (Z : Nat → Prop) (w : World) : RowCells Z w [] [] := ⟨rfl, fun i h => by simp at h⟩
theorem RowCells.keep {Z Z' : Nat → Prop} {w w' : World} {cs : List Value} {l : List Row} (h : RowCells Z w cs l) (hk : ∀ j, j < w.heap.size → Z j → w'.heap[j]? = w.heap[j]?) (hz : ∀ j, j < w.heap.size → Z j → Z' j) : RowCells Z' w' cs l :=
  ⟨h.1, fun i hi => by
    obtain ⟨h1, ai, ci, h2, h3⟩ := h.2 i hi
    exact ⟨h1, ai, ci, h2, h3.keep hk hz⟩⟩
theorem RowCells.below {Z : Nat → Prop} {w w' : World} {cs : List Value} {l : List Row} (h : RowCells Z w cs l) {B : Nat} (hb : Below B w w') (hB : w.heap.size ≤ B) : RowCells Z w' cs l :=
  h.keep (fun j hj _ => hb.block j (Nat.lt_of_lt_of_le hj hB)) (fun _ _ h => h)
theorem RowCells.snoc {Z : Nat → Prop} {w : World} {cs : List Value} {l : List Row} (h : RowCells Z w cs l) {p : Int} {a : Option Addr} {c : Nat} {xs : List Int} (hi : IntsZ Z w a c xs) : RowCells Z w (cs ++ [.int .i64 p, .slice a xs.length c]) (l ++ [(p, xs)]) := by
  refine ⟨by simp [h.1]; omega, fun i hi' => ?_⟩
  have hl := h.1
  by_cases hlt : i < l.length
  · obtain ⟨h1, ai, ci, h2, h3⟩ := h.2 i hlt
    refine ⟨by rw [List.getElem?_append_left (by omega)]; simpa [List.getElem_append_left hlt] using h1, ai, ci, ?_, ?_⟩
    · rw [List.getElem?_append_left (by omega)]; simpa [List.getElem_append_left hlt] using h2
    · simpa [List.getElem_append_left hlt] using h3
  · have he : i = l.length := by simp at hi'; omega
    subst he
    refine ⟨by rw [List.getElem?_append_right (by omega)]; simp [hl], a, c, ?_, ?_⟩
    · rw [List.getElem?_append_right (by omega)]
      have : l.length * 2 + 1 - cs.length = 1 := by omega
      rw [this]; simp
    · simpa using hi
theorem rowsZ_of_row {Z : Nat → Prop} {w : World} {base : Nat} {v : Value} {cs : List Value} {l : List Row} (h : w.ownsRow base 28 2 v l.length cs) (hc : RowCells Z w cs l) (hz : ∀ j, base ≤ j → Z j) : ∃ a c, v = .slice a l.length c ∧ RowsZ Z w a c l := by
  rcases owns_form h with ⟨rfl, h0, _⟩ | ⟨g, cap, rfl, hb, _, _, _, _, hcell, _⟩
  · have : l = [] := List.eq_nil_of_length_eq_zero h0
    subst this
    exact ⟨none, 0, rfl, .inl rfl, fun _ => ⟨rfl, rfl⟩⟩
  · refine ⟨_, _, rfl, .inr ⟨g, 0, rfl, hz g hb, fun i hi => ?_⟩, fun h => by cases h⟩
    obtain ⟨h1, ai, ci, h2, h3⟩ := hc.2 i hi
    exact ⟨by rw [Nat.zero_add]; exact hcell _ _ h1, ai, ci, by rw [Nat.zero_add]; exact hcell _ _ h2, h3⟩

theorem on_cell {w w' : World} {a : Addr} {v : Value} (hb : Below w.heap.size w w') (h : w.cell? a = some v) : w'.cell? a = some v := (hb.cell (World.block_lt_of_cell? _ _ h)).trans h

set_option maxHeartbeats 1000000 in
theorem equal_any (p q : Int) (aa ab : Option Addr) (ca cb : Nat) (xs ys : List Int) (w : World) (ha : Ints w aa xs) (hb : Ints w ab ys) (hm : xs.length ≤ 9223372036854775807) :
    Calls Try.prog 35 #[.agg #[.int .i64 p, .slice aa xs.length ca], .agg #[.int .i64 q, .slice ab ys.length cb]] w fun e w' => e = .returned (.bool (decide ((p, xs) = (q, ys)))) ∧ Below w.heap.size w w' := by
  have HA := Lib.hid ha
  have HB := Lib.hid hb
  clear ha hb
  have cE := fun W h1 h2 => Lib.hid (equalInts_any aa ab ca cb xs ys W h1 h2 hm)
  by_cases hpq : p = q
  · subst hpq
    go_enter Try.func35, Try.ntmps35
    have hbe : Below w.heap.size w ((w.alloc (.cells #[.int .i64 p, .slice aa xs.length ca] 28)).alloc (.cells #[.int .i64 p, .slice ab ys.length cb] 28)) := ((Below.refl _ _).alloc (Nat.le_refl _) _).alloc (by simp) _
    go_wp2_with (go_at_call 18; refine (cE _ (HA.out.below hbe) (HB.out.below hbe)).out.mono ?_; rintro e w' ⟨rfl, n, rfl⟩)
    go_ret
    exact ⟨ret_bool (by simp), below_drewN hbe n⟩
  · have hne : (p == q) = false := by simpa using hpq
    go_enter Try.func35, Try.ntmps35
    go_wp2
    go_ret
    exact ⟨ret_bool (by simp [hpq]), ((Below.refl _ _).alloc (Nat.le_refl _) _).alloc (by simp) _⟩

set_option maxHeartbeats 2000000 in
theorem known_any {Z : Nat → Prop} (aa ab : Option Addr) (ca cb : Nat) (l : List Row) (q : Int) (ys : List Int) (w : World) (ha : RowsZ Z w aa ca l) (hb : Ints w ab ys) (hm : ∀ r ∈ l, r.2.length ≤ 9223372036854775807) (hl : l.length * 32 ≤ 140737488351232) :
    Calls Try.prog 41 #[.slice aa l.length ca, .agg #[.int .i64 q, .slice ab ys.length cb]] w fun e w' => e = .returned (.bool (decide ((q, ys) ∈ l))) ∧ Below w.heap.size w w' := by
  have HA := Lib.hid ha
  have HB := Lib.hid hb
  have HM := Lib.hid hm
  clear ha hb hm
  go_enter Try.func41, Try.ntmps41
  go_wp2
  have hb0 : Below w.heap.size w (w.alloc (.cells #[.int .i64 q, .slice ab ys.length cb] 28)) := (Below.refl _ _).alloc (Nat.le_refl _) _
  have x0 : (w.alloc (.cells #[.int .i64 q, .slice ab ys.length cb] 28)).cell? ⟨w.heap.size, 0, none⟩ = some (.int .i64 q) := by simp
  have x1 : (w.alloc (.cells #[.int .i64 q, .slice ab ys.length cb] 28)).cell? ⟨w.heap.size, 1, none⟩ = some (.slice ab ys.length cb) := by simp
  have HA0 := Lib.hid (HA.out.below hb0 (Nat.le_refl _))
  have HB0 := Lib.hid (HB.out.below hb0)
  have hbs : w.heap.size < (w.alloc (.cells #[.int .i64 q, .slice ab ys.length cb] 28)).heap.size := by simp
  clear HA HB
  generalize w.alloc (.cells #[.int .i64 q, .slice ab ys.length cb] 28) = w0 at *
  go_loopw [5] (fun i wr => ∃ k : Nat, k ≤ l.length ∧ i = .int .i64 k ∧ Hid ((q, ys) ∉ l.take k) ∧ Below w0.heap.size w0 wr) (fun i _ => l.length - (intOf i).toNat)
  case atStart => exact ⟨0, Nat.zero_le _, rfl, Lib.hid (by simp), Below.refl _ _⟩
  case round =>
    obtain ⟨k, hk, rfl, HT, hbel⟩ := hrel
    by_cases hlt : k < l.length
    · rcases HA0.out.1 with h | ⟨b, o, rfl, _, hc⟩
      · rw [h] at hlt; simp at hlt
      · obtain ⟨p, ai, ci, xs, c0, c1, HI, HX⟩ := rows_at hc hlt
        have e0 := (hbel.cell (World.block_lt_of_cell? _ _ c0)).trans c0
        have e1 := (hbel.cell (World.block_lt_of_cell? _ _ c1)).trans c1
        have y0 := (hbel.cell (p := ⟨w.heap.size, 0, none⟩) hbs).trans x0
        have y1 := (hbel.cell (p := ⟨w.heap.size, 1, none⟩) hbs).trans x1
        clear hc c0 c1
        have cE := fun (W : World) (hW : Below wr.heap.size wr W) => Lib.hid (equal_any p q ai ab ci cb xs ys W (HI.out.ints.below (hbel.trans (hW.mono hbel.size))) (HB0.out.below (hbel.trans (hW.mono hbel.size))) (HM.out (p, xs) (List.mem_of_getElem? HX.out)))
        by_cases heq : (p, xs) = (q, ys)
        · have hd : decide ((p, xs) = (q, ys)) = true := by simpa using heq
          go_wp2
          go_region_held3 (fun w' => Below wr.heap.size wr w' ∧ w'.cell? ⟨b, o + k * 2, none⟩ = some (.int .i64 p) ∧ w'.cell? ⟨b, o + k * 2 + 1, none⟩ = some (.slice ai xs.length ci) ∧ w'.cell? ⟨w.heap.size, 0, none⟩ = some (.int .i64 q) ∧ w'.cell? ⟨w.heap.size, 1, none⟩ = some (.slice ab ys.length cb)) (first | assumption | exact ⟨(Below.refl _ _).drew, e0, e1, y0, y1⟩ | go_keep) (first
            | (go_at_call 35
               have hH := (‹Below wr.heap.size wr _ ∧ _ ∧ _›)
               with_reducible refine (cE _ hH.1).out.mono ?_
               rintro e w' ⟨rfl, hb⟩
               have hS : Below wr.heap.size wr w' ∧ w'.cell? ⟨b, o + k * 2, none⟩ = some (.int .i64 p) ∧ w'.cell? ⟨b, o + k * 2 + 1, none⟩ = some (.slice ai xs.length ci) ∧ w'.cell? ⟨w.heap.size, 0, none⟩ = some (.int .i64 q) ∧ w'.cell? ⟨w.heap.size, 1, none⟩ = some (.slice ab ys.length cb) := ⟨hH.1.trans (hb.mono hH.1.size), on_cell hb hH.2.1, on_cell hb hH.2.2.1, on_cell hb hH.2.2.2.1, on_cell hb hH.2.2.2.2⟩))
          go_wp2
          go_ret
          have hS := (‹Below wr.heap.size wr _ ∧ _ ∧ _›).1
          exact ⟨ret_bool (by rw [← heq]; simpa using List.mem_of_getElem? HX.out), hb0.trans ((hbel.trans (hS.mono hbel.size)).mono (Nat.le_of_lt hbs))⟩
        · have hd : decide ((p, xs) = (q, ys)) = false := by simpa using heq
          go_wp2
          go_region_held3 (fun w' => Below wr.heap.size wr w' ∧ w'.cell? ⟨b, o + k * 2, none⟩ = some (.int .i64 p) ∧ w'.cell? ⟨b, o + k * 2 + 1, none⟩ = some (.slice ai xs.length ci) ∧ w'.cell? ⟨w.heap.size, 0, none⟩ = some (.int .i64 q) ∧ w'.cell? ⟨w.heap.size, 1, none⟩ = some (.slice ab ys.length cb)) (first | assumption | exact ⟨(Below.refl _ _).drew, e0, e1, y0, y1⟩ | go_keep) (first
            | (go_at_call 35
               have hH := (‹Below wr.heap.size wr _ ∧ _ ∧ _›)
               with_reducible refine (cE _ hH.1).out.mono ?_
               rintro e w' ⟨rfl, hb⟩
               have hS : Below wr.heap.size wr w' ∧ w'.cell? ⟨b, o + k * 2, none⟩ = some (.int .i64 p) ∧ w'.cell? ⟨b, o + k * 2 + 1, none⟩ = some (.slice ai xs.length ci) ∧ w'.cell? ⟨w.heap.size, 0, none⟩ = some (.int .i64 q) ∧ w'.cell? ⟨w.heap.size, 1, none⟩ = some (.slice ab ys.length cb) := ⟨hH.1.trans (hb.mono hH.1.size), on_cell hb hH.2.1, on_cell hb hH.2.2.1, on_cell hb hH.2.2.2.1, on_cell hb hH.2.2.2.2⟩))
          have hS := (‹Below wr.heap.size wr _ ∧ _ ∧ _›).1
          go_wp2
          go_roundw
          case rel => exact ⟨k + 1, by omega, by go_num, Lib.hid (by rw [take_snoc' HX.out]; simp only [List.mem_append, List.mem_singleton, not_or]; exact ⟨HT.out, fun h => heq h.symm⟩), hbel.trans (hS.mono hbel.size)⟩
          case measure => simp [intOf]; omega
    · go_wp2
      go_ret
      have := HT.out
      rw [List.take_of_length_le (by omega)] at this
      exact ⟨ret_bool (by simpa using this), hb0.trans (hbel.mono (Nat.le_of_lt hbs))⟩

/-- an own slice of the rows l, its block at B or behind it, its lists in Z and in other blocks -/
def OwnRows (Z : Nat → Prop) (B : Nat) (w : World) (v : Value) (l : List Row) : Prop := ∃ cs, w.ownsRow B 28 2 v l.length cs ∧ RowCells (fun j => Z j ∧ v.ownBlock ≠ some j) w cs l
theorem OwnRows.nil (Z : Nat → Prop) (B : Nat) (w : World) : OwnRows Z B w (.slice none 0 0) [] := ⟨[], World.ownsRow_nil _ _ _ _, RowCells.nil _ _⟩
theorem OwnRows.below {Z : Nat → Prop} {B : Nat} {w w' : World} {v : Value} {l : List Row} (h : OwnRows Z B w v l) {C : Nat} (hb : Below C w w') (hC : w.heap.size ≤ C) : OwnRows Z B w' v l := by
  obtain ⟨cs, h1, h2⟩ := h
  exact ⟨cs, owns_below h1 hb hC, h2.below hb hC⟩
theorem OwnRows.zone {Z Z' : Nat → Prop} {B : Nat} {w : World} {v : Value} {l : List Row} (h : OwnRows Z B w v l) (hz : ∀ j, Z j → Z' j) : OwnRows Z' B w v l := by
  obtain ⟨cs, h1, h2⟩ := h
  exact ⟨cs, h1, h2.keep (fun _ _ _ => rfl) (fun j _ hj => ⟨hz j hj.1, hj.2⟩)⟩
theorem OwnRows.rowsZ {Z : Nat → Prop} {B : Nat} {w : World} {v : Value} {l : List Row} (h : OwnRows Z B w v l) (hz : ∀ j, B ≤ j → Z j) : ∃ a c, v = .slice a l.length c ∧ RowsZ Z w a c l := by
  obtain ⟨cs, h1, h2⟩ := h
  exact rowsZ_of_row h1 (h2.keep (fun _ _ _ => rfl) (fun j _ hj => hj.1)) hz
theorem OwnRows.push {Z : Nat → Prop} {B : Nat} {wA w2 : World} {v v' : Value} {cs : List Value} {l : List Row} {p : Int} {a : Option Addr} {c : Nat} {xs : List Int} (hc : RowCells (fun j => Z j ∧ v.ownBlock ≠ some j) wA cs l) (hi : IntsZ (fun j => Z j ∧ v.ownBlock ≠ some j) wA a c xs)
    (hown : w2.ownsRow B 28 2 v' (l.length + 1) (cs ++ [.int .i64 p, .slice a xs.length c])) (hg : wA.grownBy w2 v.ownBlock) (hb : v'.ownBlock = v.ownBlock ∨ v'.ownBlock = some wA.heap.size) : OwnRows Z B w2 v' (l ++ [(p, xs)]) := by
  have hk : ∀ j, j < wA.heap.size → Z j ∧ v.ownBlock ≠ some j → w2.heap[j]? = wA.heap[j]? := fun j hj hz => hg.block j hj (fun e => hz.2 e.symm)
  have hz : ∀ j, j < wA.heap.size → Z j ∧ v.ownBlock ≠ some j → Z j ∧ v'.ownBlock ≠ some j := fun j hj hz => ⟨hz.1, by
    rcases hb with h | h
    · rw [h]; exact hz.2
    · rw [h]; intro e; cases e; omega⟩
  exact ⟨_, by simpa using hown, (hc.keep hk hz).snoc (hi.keep hk hz)⟩

set_option maxHeartbeats 2000000 in
theorem rows_any {Z : Nat → Prop} (aa : Option Addr) (ca : Nat) (l : List Row) (w : World) (ha : RowsZ Z w aa ca l) (hm : ∀ r ∈ l, r.2.length * 8 ≤ 140737488351232) (hl : l.length * 32 ≤ 140737488351232) :
    Calls Try.prog 40 #[.slice aa l.length ca] w fun e w' => ∃ v, e = .returned v ∧ OwnRows (fun j => w.heap.size ≤ j) w.heap.size w' v l ∧ Below w.heap.size w w' := by
  have HA := Lib.hid ha
  have HM := Lib.hid hm
  clear ha hm
  go_enter Try.func40, Try.ntmps40
  go_wp2
  go_loopw [3, 4] (fun v i wr => ∃ k : Nat, k ≤ l.length ∧ i = .int .i64 k ∧ Hid (OwnRows (fun j => w.heap.size ≤ j) w.heap.size wr v (l.take k)) ∧ Below w.heap.size w wr) (fun _ i _ => l.length - (intOf i).toNat)
  case atStart => exact ⟨0, Nat.zero_le _, rfl, Lib.hid (OwnRows.nil _ _ _), Below.refl _ _⟩
  case round =>
    obtain ⟨k, hk, rfl, HO, hbel⟩ := hrel
    by_cases hlt : k < l.length
    · rcases HA.out.1 with h | ⟨b, o, rfl, _, hc⟩
      · rw [h] at hlt; simp at hlt
      · obtain ⟨p, ai, ci, xs, c0, c1, HI, HX⟩ := rows_at hc hlt
        have e0 := (hbel.cell (World.block_lt_of_cell? _ _ c0)).trans c0
        have e1 := (hbel.cell (World.block_lt_of_cell? _ _ c1)).trans c1
        have lb := World.block_lt_of_cell? _ _ c0
        clear hc c0 c1
        have hxl := HM.out (p, xs) (List.mem_of_getElem? HX.out)
        simp only at hxl lb
        have cI := fun (W : World) (hW : Below w.heap.size w W) => Lib.hid (ints_any ai ci xs W (HI.out.below hW (Nat.le_refl _)).ints hxl)
        obtain ⟨cs, hown, hcs⟩ := HO.out
        have hlk : (l.take k).length = k := by simp; omega
        rw [hlk] at hown
        have HCS := Lib.hid hcs
        clear hcs
        have sz := hbel.size
        go_wp2
        go_region_held3 (fun w' => Below w.heap.size w w' ∧ w'.cell? ⟨b, o + k * 2, none⟩ = some (.int .i64 p) ∧ w'.cell? ⟨b, o + k * 2 + 1, none⟩ = some (.slice ai xs.length ci)) (first | assumption | exact ⟨hbel.drew, e0, e1⟩ | exact ⟨hS.1.alloc hS.1.size _, by go_keep, by go_keep⟩ | go_keep) (first
          | (go_at_call 38
             have hH := (‹Below w.heap.size w _ ∧ _ ∧ _›)
             with_reducible refine (cI _ hH.1).out.mono ?_
             rintro e w1 ⟨a1, c1, rfl, hI1, hb1⟩
             have hS : Below w.heap.size w w1 ∧ w1.cell? ⟨b, o + k * 2, none⟩ = some (.int .i64 p) ∧ w1.cell? ⟨b, o + k * 2 + 1, none⟩ = some (.slice ai xs.length ci) := ⟨hH.1.trans (hb1.mono hH.1.size), on_cell hb1 hH.2.1, on_cell hb1 hH.2.2⟩
             have hw1 : Below wr.heap.size wr w1 := (Below.refl _ _).drew.trans hb1
             have hown1 := owns_below hown hw1 (Nat.le_refl _)
             have sz1 := hw1.size)
          | (refine step_append_any elemRow _ rfl _ _ rfl w.heap.size _ k cs rfl (by exact hown1.alloc _) (some ⟨w1.heap.size, 0, none⟩) 1 1 [.int .i64 p, .slice a1 xs.length c1] rfl (by exact source_new w1 [.int .i64 p, .slice a1 xs.length c1] 28) rfl (by simp [Value.oneCell']) (by unfold maxLen; omega) (by omega) (by simp; omega) ?_
             intro v' w2 hown2 hgrow hblk
             have hgrow2 : (w1.alloc (.cells #[.int .i64 p, .slice a1 xs.length c1] 28)).grownBy w2 u3.ownBlock := hgrow
             have hblk2 : v'.ownBlock = u3.ownBlock ∨ v'.ownBlock = some (w1.alloc (.cells #[.int .i64 p, .slice a1 xs.length c1] 28)).heap.size := hblk
             clear hgrow hblk
             have hgb : Below w.heap.size w w2 := (hS.1.alloc hS.1.size _).trans (grown_below hgrow2 (fun j hj => (hown1.lt j hj).1) (by simp; omega))
             have hS2 : Below w.heap.size w w2 ∧ w2.cell? ⟨b, o + k * 2, none⟩ = some (.int .i64 p) ∧ w2.cell? ⟨b, o + k * 2 + 1, none⟩ = some (.slice ai xs.length ci) := ⟨hgb, hgrow2.cell (by go_keep) (fun e => by have := (hown1.lt b (by rw [← e])).1; omega), hgrow2.cell (by go_keep) (fun e => by have := (hown1.lt b (by rw [← e])).1; omega)⟩))
        all_goals
          have hO : OwnRows (fun j => w.heap.size ≤ j) w.heap.size w2 v' (l.take (k + 1)) := by
            rw [take_snoc' HX.out]
            have hbA : Below wr.heap.size wr (w1.alloc (.cells #[.int .i64 p, .slice a1 xs.length c1] 28)) := hw1.alloc sz1 _
            refine OwnRows.push (cs := cs) (v := u3) (HCS.out.below hbA (Nat.le_refl _)) ?_ (by rw [hlk]; exact hown2) hgrow2 hblk2
            refine hI1.keep (fun j hj _ => Below.heap_alloc w1 _ j hj) (fun j hj hz => ?_)
            have hz : wr.heap.size ≤ j := hz
            exact ⟨by omega, fun e => by have := (hown.lt j e).2; omega⟩
          go_wp2
          go_roundw
          case rel => exact ⟨k + 1, by omega, by go_num, Lib.hid hO, hS2.1⟩
          case measure => simp [intOf]; omega
    · have hke : k = l.length := by omega
      subst hke
      have ho := HO.out
      rw [List.take_length] at ho
      go_wp2
      go_ret
      exact ⟨_, rfl, ho, hbel⟩
end Go.Proofs.Ytgodidoibcomcaa
