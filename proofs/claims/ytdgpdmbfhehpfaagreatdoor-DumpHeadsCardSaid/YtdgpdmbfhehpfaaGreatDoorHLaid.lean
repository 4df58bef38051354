/-
  What the run reads of the listed variables, from the row's condition.
-/
import Derived.Test.YtdgpdmbfhehpfaaGreatDoorTaken
import Derived.Test.YtdgpdmbfhehpfaaGreatDoorHCrc
import Derived.Test.YtdgpdmbfhehpfaaGreatDoorRows
import Derived.ProofKit
import Derived.Deep.Strs
import Derived.Lib.LaidTab
import Derived.LaidMore
import Derived.ChangeArms
namespace Go.Proofs.YtdgpdmbfhehpfaaGreatDoor
open Go.RowKit
set_option linter.all false

abbrev laidL : List (String × DataW Unit) := [("math/bits.deBruijn32tab", Rows.laid_math_bits_deBruijn32tab), ("math/bits.deBruijn64tab", Rows.laid_math_bits_deBruijn64tab), ("internal/strconv.uint64pow10", Rows.laid_internal_strconv_uint64pow10), ("strconv.ErrRange", Rows.laid_strconv_ErrRange), ("strconv.ErrSyntax", Rows.laid_strconv_ErrSyntax), ("edict/lex.signs", Rows.laid_edict_lex_signs), ("edict/dump.table", Rows.laid_edict_dump_table)]

theorem laid_at {P : Program} {w : World} : ∀ {l : List (String × DataW Unit)} {ps : List MemPlace}, DataW.LaidVars P w l ps → ∀ {x : String × DataW Unit}, x ∈ l →
    ∃ g t cs fuel p, P.globalNamed x.1 = some g ∧ (P.globals[g]?).map (·.type) = some t ∧ w.var? P x.1 = some cs ∧ DataW.trod (fun _ => ()) P w 0 (fun _ => true) false fuel t cs.toList = some (x.2, p)
  | [], _, _, x, hx => by cases hx
  | (n, d) :: l, ps, ⟨g, t, cs, fuel, p, q, h1, h2, h3, h4, h5, _⟩, x, hx => by
    rcases List.mem_cons.1 hx with rfl | hx
    · exact ⟨g, t, cs, fuel, p, h1, h2, h3, h4⟩
    · exact laid_at h5 hx

def signRows : List (List UInt8 × Int × Int) := [([58, 45], 9, 0), ([33, 61], 11, 2), ([60, 61], 11, 4), ([62, 61], 11, 6), ([60], 11, 3), ([62], 11, 5), ([61], 11, 1), ([40], 5, 0), ([41], 6, 0), ([44], 7, 0), ([46], 8, 0)]

def signD (r : List UInt8 × Int × Int) : DataW Unit := .agg [.lit (.string r.1), .lit (.int .i64 r.2.1), .lit (.int .i64 r.2.2)]
def signC (r : List UInt8 × Int × Int) : List Value := [.string ⟨r.1.toArray⟩, .int .i64 r.2.1, .int .i64 r.2.2]

theorem cell9 : Tryz.prog.cellsOf 9 = 1 := by kernel_rfl
theorem cell3 : Tryz.prog.cellsOf 3 = 1 := by kernel_rfl
theorem cell47 : Tryz.prog.cellsOf 47 = 1 := by kernel_rfl
theorem cell117 : Tryz.prog.cellsOf 117 = 16 := by kernel_rfl
theorem cell479 : Tryz.prog.cellsOf 479 = 3 := by kernel_rfl
theorem gSigns : Tryz.prog.globalNamed "edict/lex.signs" = some 2 := by kernel_rfl
theorem tSigns : (Tryz.prog.globals[2]?).map (·.type) = some 477 := by kernel_rfl
theorem gTable : Tryz.prog.globalNamed "edict/dump.table" = some 0 := by kernel_rfl
theorem tTable : (Tryz.prog.globals[0]?).map (·.type) = some 117 := by kernel_rfl

theorem sign_cells {W : World} {fuel : Nat} {cs : List Value} {y : DataW Unit × List MemPlace} {r : List UInt8 × Int × Int} (h : DataW.trod (fun _ => ()) Tryz.prog W 0 (fun _ => true) false fuel 479 cs = some y)
    (hy : y.1 = signD r) : cs = signC r := by
  obtain ⟨y0, y1, y2, n, rfl, hl, h0, h1, h2⟩ := Deep.trod_struct3 Tryz.underlying479 h
  rw [cell479] at hl
  simp only [cell9, cell3] at h0 h1 h2
  obtain ⟨s, e0, r0, _⟩ := DataW.trod_string Tryz.underlying9 h0
  obtain ⟨a, e1, r1, _⟩ := DataW.trod_int Tryz.underlying3 h1
  obtain ⟨b, e2, r2, _⟩ := DataW.trod_int Tryz.underlying3 h2
  subst r0 r1 r2
  match cs, hl with
  | [c0, c1, c2], _ =>
    simp at e0 e1 e2
    subst e0 e1 e2
    obtain ⟨l, i, j⟩ := r
    simp [signD] at hy
    obtain ⟨rfl, rfl, rfl⟩ := hy
    rfl

theorem spot_none {W : World} {a : Addr} {v : Value} (h : W.cell? a = some v) : a.spot = none := by
  unfold World.cell? at h
  split at h
  · split at h
    · cases h
    · rename_i hs
      cases hsp : a.spot with
      | none => rfl
      | some x => rw [hsp] at hs; exact absurd rfl hs
  · cases h

theorem add_flat (B o n : Nat) : (⟨B, o, none⟩ : Addr).add n = ⟨B, o + n, none⟩ := by
  unfold Addr.add
  split
  · rename_i h; subst h; rfl
  · rfl

theorem cells_at {W : World} {a : Addr} {n : Nat} {cs : List Value} (h : W.cells? 0 a n = some cs) (j : Nat) (hj : j < n) : W.cell? (a.add j) = cs[j]? := by
  unfold World.cells? at h
  rw [if_pos (Nat.zero_le _)] at h
  obtain ⟨b, hb, hf⟩ := Lib.mapM_at h j j (by simp [hj])
  rw [hf, hb]

theorem sign_at {i : Nat} {r : List UInt8 × Int × Int} (h : signRows[i]? = some r) {j : Nat} (hj : j < 3) : (signC r)[j]? = signV[3 * i + j]? := by
  have hj' : j = 0 ∨ j = 1 ∨ j = 2 := by omega
  have hi : i < 11 := by
    rcases Nat.lt_or_ge i 11 with h' | h'
    · exact h'
    · rw [List.getElem?_eq_none h'] at h; cases h
  have hi' : i = 0 ∨ i = 1 ∨ i = 2 ∨ i = 3 ∨ i = 4 ∨ i = 5 ∨ i = 6 ∨ i = 7 ∨ i = 8 ∨ i = 9 ∨ i = 10 := by omega
  rcases hi' with rfl | rfl | rfl | rfl | rfl | rfl | rfl | rfl | rfl | rfl | rfl <;> cases h <;> rcases hj' with rfl | rfl | rfl <;> rfl

theorem signs_of {W : World} {fuel : Nat} {cs : List Value} {p : List MemPlace} (h : DataW.trod (fun _ => ()) Tryz.prog W 0 (fun _ => true) false fuel 477 cs = some (Rows.laid_edict_lex_signs, p)) :
    ∃ B o cap, cs = [.slice (some ⟨B, o, none⟩) 11 cap] ∧ 11 ≤ cap ∧ ∀ k, k < 33 → W.cell? ⟨B, o + k, none⟩ = signV[k]? := by
  rcases DataW.trod_slice Tryz.underlying477 h with ⟨_, hx⟩ | ⟨a, len, cap, elems, rest, n, _, rfl, hx, _, hlc, _, hel, hread, _, _⟩
  · cases congrArg Prod.fst hx
  · have h1 : DataW.slice (signRows.map signD) [] = DataW.slice (elems.map (·.1)) (rest.map (·.1)) := congrArg Prod.fst hx
    have h2 : signRows.map signD = elems.map (·.1) := (DataW.slice.inj h1).1
    have hlen : elems.length = 11 := by
      have := congrArg List.length h2
      simpa [signRows] using this.symm
    rw [hlen] at hel
    subst hel
    have row : ∀ i r, signRows[i]? = some r → ∀ j, j < 3 → W.cell? ((a.add (i * 3)).add j) = (signC r)[j]? := by
      intro i r hr j hj
      have hi : i < 11 := by
        rcases Nat.lt_or_ge i 11 with h' | h'
        · exact h'
        · rw [List.getElem?_eq_none h'] at hr; cases hr
      have hy : (elems.map (·.1))[i]? = some (signD r) := by rw [← h2, List.getElem?_map, hr]; rfl
      rw [List.getElem?_map] at hy
      obtain ⟨y, hy1, hy2⟩ := Option.map_eq_some_iff.1 hy
      have := hread i hi
      rw [hy1, cell479, Option.bind_eq_some_iff] at this
      obtain ⟨cs', hc, ht⟩ := this
      rw [cells_at hc j hj, sign_cells ht hy2]
    have ha : a.spot = none := by
      have := row 0 _ rfl 0 (by decide)
      exact spot_none (a := a) (this.trans rfl)
    obtain ⟨B, o, sp⟩ := a
    simp only at ha
    subst ha
    refine ⟨B, o, cap, rfl, hlc, fun k hk => ?_⟩
    have hi : k / 3 < signRows.length := by show k / 3 < 11; omega
    have := row (k / 3) _ (List.getElem?_eq_getElem hi) (k % 3) (Nat.mod_lt _ (by decide))
    rw [add_flat, add_flat, sign_at (List.getElem?_eq_getElem hi) (Nat.mod_lt _ (by decide))] at this
    rw [show o + k = o + k / 3 * 3 + k % 3 by omega, this, show 3 * (k / 3) + k % 3 = k by omega]

theorem reads_of_laid {W : World} (h : laidMetH Tryz.prog laidL W) : Reads W := by
  rw [MakeChecks.laidMetH_plain _ _ _ (by kernel_rfl)] at h
  obtain ⟨ps, hv, _⟩ := h
  constructor
  · obtain ⟨g, t, cs, fuel, p, hg, ht, hw, hd⟩ := laid_at hv (x := ("edict/dump.table", Rows.laid_edict_dump_table)) (by repeat (first | exact List.Mem.head _ | apply List.Mem.tail))
    obtain rfl := Option.some.inj (gTable.symm.trans hg)
    obtain rfl := Option.some.inj (tTable.symm.trans ht)
    have hcs := Lib.cells_of_tab (zs := Crc.tabL.map Int.ofNat) Tryz.underlying117 Tryz.underlying47 cell47 cell117 hd
    intro k hk
    have := World.var?_cell hg hw k
    rw [Nat.zero_add, this, ← Array.getElem?_toList, hcs]
    rfl
  · obtain ⟨g, t, cs, fuel, p, hg, ht, hw, hd⟩ := laid_at hv (x := ("edict/lex.signs", Rows.laid_edict_lex_signs)) (by repeat (first | exact List.Mem.head _ | apply List.Mem.tail))
    obtain rfl := Option.some.inj (gSigns.symm.trans hg)
    obtain rfl := Option.some.inj (tSigns.symm.trans ht)
    obtain ⟨B, o, cap, hcs, hc, hr⟩ := signs_of hd
    refine ⟨B, o, cap, ?_, hc, hr⟩
    have := World.var?_cell hg hw 0
    rw [this, ← Array.getElem?_toList, hcs]
    rfl

end Go.Proofs.YtdgpdmbfhehpfaaGreatDoor
