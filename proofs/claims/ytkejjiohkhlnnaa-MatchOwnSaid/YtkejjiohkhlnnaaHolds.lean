/-
  What Holds does, the program's and the reference's.
-/
import Derived.Test.YtkejjiohkhlnnaaCopies
import Derived.Test.YtkejjiohkhlnnaaCompare
import Derived.Deep.RegionHeld3
namespace Go.Proofs.Ytkejjiohkhlnnaa
open Go.RowKit
namespace Mt

abbrev C3 := Int × Int × ByteArray
/-- the constants cs lie behind the slice's address: three cells each -/
def Consts (w : World) (a : Option Addr) (cs : List C3) : Prop :=
  cs = [] ∨ ∃ b off, a = some ⟨b, off, none⟩ ∧ ∀ i (h : i < cs.length), w.cell? ⟨b, off + i * 3, none⟩ = some (.int .i64 cs[i].1) ∧ w.cell? ⟨b, off + i * 3 + 1, none⟩ = some (.int .i64 cs[i].2.1) ∧ w.cell? ⟨b, off + i * 3 + 2, none⟩ = some (.string cs[i].2.2)
theorem Consts.below {w w' : World} {B : Nat} {a : Option Addr} {cs : List C3} (h : Consts w a cs) (hb : Below B w w') (hB : w.heap.size ≤ B) : Consts w' a cs := by
  rcases h with h | ⟨b, off, ha, hc⟩
  · exact .inl h
  · refine .inr ⟨b, off, ha, fun i hi => ?_⟩
    obtain ⟨h1, h2, h3⟩ := hc i hi
    exact ⟨(hb.cell (Nat.lt_of_lt_of_le (World.block_lt_of_cell? _ _ h1) hB)).trans h1, (hb.cell (Nat.lt_of_lt_of_le (World.block_lt_of_cell? _ _ h2) hB)).trans h2, (hb.cell (Nat.lt_of_lt_of_le (World.block_lt_of_cell? _ _ h3) hB)).trans h3⟩

/-- a test's answer, its sides' ids being x and y -/
def holdsR (cs : List C3) (op x y : Int) : Bool × Int :=
  if op < 1 then (false, 2) else if 6 < op then (false, 2) else if x < 0 then (false, 2) else if y < 0 then (false, 2) else if (cs.length : Int) ≤ x then (false, 2) else if (cs.length : Int) ≤ y then (false, 2)
  else match cs[x.toNat]?, cs[y.toNat]? with
    | some a, some b => Sym.compareR op a.1 a.2.1 a.2.2.data.toList b.1 b.2.1 b.2.2.data.toList
    | _, _ => (false, 2)
theorem holdsR_in {cs : List C3} {op : Int} {x y : Nat} {a b : C3} (h1 : ¬ op < 1) (h2 : ¬ 6 < op) (hx : cs[x]? = some a) (hy : cs[y]? = some b) :
    holdsR cs op x y = Sym.compareR op a.1 a.2.1 a.2.2.data.toList b.1 b.2.1 b.2.2.data.toList := by
  obtain ⟨l1, _⟩ := List.getElem?_eq_some_iff.1 hx
  obtain ⟨l2, _⟩ := List.getElem?_eq_some_iff.1 hy
  unfold holdsR
  rw [if_neg h1, if_neg h2, if_neg (by omega), if_neg (by omega), if_neg (by omega), if_neg (by omega)]
  simp [hx, hy]

/-- a test's five cells -/
def At5 (w : World) (b : Nat) (op : Int) (lv : Bool) (ln : Int) (rv : Bool) (rn : Int) : Prop :=
  w.cell? ⟨b, 0, none⟩ = some (.int .i64 op) ∧ w.cell? ⟨b, 1, none⟩ = some (.bool lv) ∧ w.cell? ⟨b, 2, none⟩ = some (.int .i64 ln) ∧ w.cell? ⟨b, 3, none⟩ = some (.bool rv) ∧ w.cell? ⟨b, 4, none⟩ = some (.int .i64 rn)
theorem At5.below {w w' : World} {B b : Nat} {op : Int} {lv : Bool} {ln : Int} {rv : Bool} {rn : Int} (h : At5 w b op lv ln rv rn) (hb : Below B w w') (hB : b < B) : At5 w' b op lv ln rv rn :=
  ⟨(hb.cell (p := ⟨b, 0, none⟩) hB).trans h.1, (hb.cell (p := ⟨b, 1, none⟩) hB).trans h.2.1, (hb.cell (p := ⟨b, 2, none⟩) hB).trans h.2.2.1, (hb.cell (p := ⟨b, 3, none⟩) hB).trans h.2.2.2.1, (hb.cell (p := ⟨b, 4, none⟩) hB).trans h.2.2.2.2⟩
theorem at5_new (w : World) (t : TypeId) (op : Int) (lv : Bool) (ln : Int) (rv : Bool) (rn : Int) :
    At5 (w.alloc (.cells #[.int .i64 op, .bool lv, .int .i64 ln, .bool rv, .int .i64 rn] t)) w.heap.size op lv ln rv rn := by
  refine ⟨?_, ?_, ?_, ?_, ?_⟩ <;> go_simp

theorem consts_at {w : World} {b o : Nat} {l : List C3} (h : ∀ i (h : i < l.length), w.cell? ⟨b, o + i * 3, none⟩ = some (.int .i64 l[i].1) ∧ w.cell? ⟨b, o + i * 3 + 1, none⟩ = some (.int .i64 l[i].2.1) ∧ w.cell? ⟨b, o + i * 3 + 2, none⟩ = some (.string l[i].2.2)) {k : Nat} (hk : k < l.length) :
    ∃ c : C3, w.cell? ⟨b, o + k * 3, none⟩ = some (.int .i64 c.1) ∧ w.cell? ⟨b, o + k * 3 + 1, none⟩ = some (.int .i64 c.2.1) ∧ w.cell? ⟨b, o + k * 3 + 2, none⟩ = some (.string c.2.2) ∧ Hid (l[k]? = some c) :=
  ⟨l[k], (h k hk).1, (h k hk).2.1, (h k hk).2.2, Lib.hid (List.getElem?_eq_getElem hk)⟩

--BODY
set_option maxHeartbeats 4000000 in
theorem holds_any (ac aa : Option Addr) (cc ca : Nat) (cs : List C3) (sub : List Int) (op : Int) (lv : Bool) (ln : Int) (rv : Bool) (rn : Int) (w : World) (hc : Consts w ac cs) (ha : Ints w aa sub)
    (hsz : ∀ c ∈ cs, c.2.2.size ≤ 9223372036854775807) (hm : sub.length ≤ 9223372036854775807) :
    Calls Try.prog 73 #[.slice ac cs.length cc, .agg #[.int .i64 op, .bool lv, .int .i64 ln, .bool rv, .int .i64 rn], .slice aa sub.length ca] w
      fun e w' => e = .returned (.tuple #[.bool (holdsR cs op (valueL lv ln sub) (valueL rv rn sub)).1, .int .i64 (holdsR cs op (valueL lv ln sub) (valueL rv rn sub)).2]) ∧ Below w.heap.size w w' := by
  have cL := fun W h => Lib.hid (value_any aa ca sub lv ln W h hm)
  have cR := fun W h => Lib.hid (value_any aa ca sub rv rn W h hm)
  generalize valueL lv ln sub = x at *
  generalize valueL rv rn sub = y at *
  obtain ⟨R, hR⟩ : ∃ R, holdsR cs op x y = R := ⟨_, rfl⟩
  have HR := Lib.hid hR
  rw [hR]
  clear hR
  have hb0 : Below w.heap.size w (w.alloc (.cells #[.int .i64 op, .bool lv, .int .i64 ln, .bool rv, .int .i64 rn] 60)) := (Below.refl _ _).alloc (Nat.le_refl _) _
  have HA := Lib.hid (ha.below hb0)
  have HC := Lib.hid (hc.below hb0 (Nat.le_refl _))
  have hA5 := at5_new w 60 op lv ln rv rn
  clear ha hc
  go_enter Try.func73, Try.ntmps73
  go_wp2_with fail
  have bsz : w.heap.size < (w.alloc (.cells #[.int .i64 op, .bool lv, .int .i64 ln, .bool rv, .int .i64 rn] 60)).heap.size := by simp
  have bw : Below w.heap.size w (w.alloc (.cells #[.int .i64 op, .bool lv, .int .i64 ln, .bool rv, .int .i64 rn] 60)) := hb0
  clear hb0
  generalize w.alloc (.cells #[.int .i64 op, .bool lv, .int .i64 ln, .bool rv, .int .i64 rn] 60) = w0 at *
  generalize hbq : w.heap.size = b at *
  have HQ := Lib.hid hbq
  clear hbq
  obtain ⟨q0, q1, q2, q3, q4⟩ := id hA5
  go_region_held3 (fun w' => Below w0.heap.size w0 w' ∧ w'.cell? ⟨b, 0, none⟩ = some (.int .i64 op) ∧ w'.cell? ⟨b, 1, none⟩ = some (.bool lv) ∧ w'.cell? ⟨b, 2, none⟩ = some (.int .i64 ln) ∧ w'.cell? ⟨b, 3, none⟩ = some (.bool rv) ∧ w'.cell? ⟨b, 4, none⟩ = some (.int .i64 rn)) (first | assumption | exact ⟨(Below.refl _ _).drew, q0, q1, q2, q3, q4⟩ | go_keep)
    (first
    | (go_at_call 62
       have hH := (‹Below w0.heap.size w0 _ ∧ _ ∧ _›)
       with_reducible refine (cL _ (HA.out.below hH.1)).out.mono ?_
       rintro e w' ⟨rfl, hb⟩
       have hS : Below w0.heap.size w0 w' ∧ w'.cell? ⟨b, 0, none⟩ = some (.int .i64 op) ∧ w'.cell? ⟨b, 1, none⟩ = some (.bool lv) ∧ w'.cell? ⟨b, 2, none⟩ = some (.int .i64 ln) ∧ w'.cell? ⟨b, 3, none⟩ = some (.bool rv) ∧ w'.cell? ⟨b, 4, none⟩ = some (.int .i64 rn) := ⟨hH.1.trans (hb.mono hH.1.size), At5.below hH.2 hb (Nat.lt_of_lt_of_le bsz hH.1.size)⟩)
    | (go_at_call 62
       have hH := (‹Below w0.heap.size w0 _ ∧ _ ∧ _›)
       with_reducible refine (cR _ (HA.out.below hH.1)).out.mono ?_
       rintro e w' ⟨rfl, hb⟩
       have hS : Below w0.heap.size w0 w' ∧ w'.cell? ⟨b, 0, none⟩ = some (.int .i64 op) ∧ w'.cell? ⟨b, 1, none⟩ = some (.bool lv) ∧ w'.cell? ⟨b, 2, none⟩ = some (.int .i64 ln) ∧ w'.cell? ⟨b, 3, none⟩ = some (.bool rv) ∧ w'.cell? ⟨b, 4, none⟩ = some (.int .i64 rn) := ⟨hH.1.trans (hb.mono hH.1.size), At5.below hH.2 hb (Nat.lt_of_lt_of_le bsz hH.1.size)⟩))
  all_goals
    have hT := (‹Below w0.heap.size w0 _ ∧ _ ∧ _›)
  
    obtain ⟨bel, q0, q1, q2, q3, q4⟩ := hT
    by_cases h1 : op < 1
    · have hr : holdsR cs op x y = (false, 2) := by simp [holdsR, h1]
      have d1 : decide (op < 1) = true := by simpa using h1
      have hR := HR.out.symm.trans hr
      subst hR
      clear hr HR
      go_wp2
      go_ret2
      exact ⟨rfl, by rw [HQ.out]; exact bw.trans (bel.mono (Nat.le_of_lt bsz))⟩
    have d1 : decide (op < 1) = false := by simpa using h1
    by_cases h2 : 6 < op
    · have hr : holdsR cs op x y = (false, 2) := by simp [holdsR, h1, h2]
      have d2 : decide ((6 : Int) < op) = true := by simpa using h2
      have hR := HR.out.symm.trans hr
      subst hR
      clear hr HR
      go_wp2
      go_ret2
      exact ⟨rfl, by rw [HQ.out]; exact bw.trans (bel.mono (Nat.le_of_lt bsz))⟩
    have d2 : decide ((6 : Int) < op) = false := by simpa using h2
    by_cases h3 : x < 0
    · have hr : holdsR cs op x y = (false, 2) := by simp [holdsR, h1, h2, h3]
      have d3 : decide (x < 0) = true := by simpa using h3
      have hR := HR.out.symm.trans hr
      subst hR
      clear hr HR
      go_wp2
      go_ret2
      exact ⟨rfl, by rw [HQ.out]; exact bw.trans (bel.mono (Nat.le_of_lt bsz))⟩
    have d3 : decide (x < 0) = false := by simpa using h3
    by_cases h4 : y < 0
    · have hr : holdsR cs op x y = (false, 2) := by simp [holdsR, h1, h2, h3, h4]
      have d4 : decide (y < 0) = true := by simpa using h4
      have hR := HR.out.symm.trans hr
      subst hR
      clear hr HR
      go_wp2
      go_ret2
      exact ⟨rfl, by rw [HQ.out]; exact bw.trans (bel.mono (Nat.le_of_lt bsz))⟩
    have d4 : decide (y < 0) = false := by simpa using h4
    by_cases h5 : (cs.length : Int) ≤ x
    · have hr : holdsR cs op x y = (false, 2) := by simp [holdsR, h1, h2, h3, h4, h5]
      have d5 : decide ((cs.length : Int) ≤ x) = true := by simpa using h5
      have hR := HR.out.symm.trans hr
      subst hR
      clear hr HR
      go_wp2
      go_ret2
      exact ⟨rfl, by rw [HQ.out]; exact bw.trans (bel.mono (Nat.le_of_lt bsz))⟩
    have d5 : decide ((cs.length : Int) ≤ x) = false := by simpa using h5
    by_cases h6 : (cs.length : Int) ≤ y
    · have hr : holdsR cs op x y = (false, 2) := by simp [holdsR, h1, h2, h3, h4, h5, h6]
      have d6 : decide ((cs.length : Int) ≤ y) = true := by simpa using h6
      have hR := HR.out.symm.trans hr
      subst hR
      clear hr HR
      go_wp2
      go_ret2
      exact ⟨rfl, by rw [HQ.out]; exact bw.trans (bel.mono (Nat.le_of_lt bsz))⟩
    have d6 : decide ((cs.length : Int) ≤ y) = false := by simpa using h6
    obtain ⟨i, rfl⟩ := Int.eq_ofNat_of_zero_le (show 0 ≤ x by omega)
    obtain ⟨j, rfl⟩ := Int.eq_ofNat_of_zero_le (show 0 ≤ y by omega)
    have li : i < cs.length := by omega
    have lj : j < cs.length := by omega
    have zi : (0 : Int) ≤ (i : Int) := by omega
    have zj : (0 : Int) ≤ (j : Int) := by omega
    have ui : (i : Int) < (cs.length : Int) := by omega
    have uj : (j : Int) < (cs.length : Int) := by omega
    rcases HC.out with h | ⟨bc, oc, rfl, hc⟩
    · rw [h] at li; simp at li
    obtain ⟨⟨k1, i1, s1⟩, p1, p2, p3, HX⟩ := consts_at hc li
    obtain ⟨⟨k2, i2, s2⟩, p4, p5, p6, HY⟩ := consts_at hc lj
    simp only at p1 p2 p3 p4 p5 p6
    have hcmp := (holdsR_in h1 h2 HX.out HY.out).symm.trans HR.out
    have z1 : s1.size ≤ 9223372036854775807 := hsz _ (List.mem_of_getElem? HX.out)
    have z2 : s2.size ≤ 9223372036854775807 := hsz _ (List.mem_of_getElem? HY.out)
    simp only at hcmp
    have cC := fun W => Lib.hid (Sym.matchCompare_any op k1 i1 s1 k2 i2 s2 W z1 z2)
    rw [hcmp] at cC
    have lb := World.block_lt_of_cell? _ _ p1
    simp only at lb
    have p1 := (bel.cell (p := ⟨bc, oc + i * 3, none⟩) lb).trans p1
    have p2 := (bel.cell (p := ⟨bc, oc + i * 3 + 1, none⟩) lb).trans p2
    have p3 := (bel.cell (p := ⟨bc, oc + i * 3 + 2, none⟩) lb).trans p3
    have p4 := (bel.cell (p := ⟨bc, oc + j * 3, none⟩) lb).trans p4
    have p5 := (bel.cell (p := ⟨bc, oc + j * 3 + 1, none⟩) lb).trans p5
    have p6 := (bel.cell (p := ⟨bc, oc + j * 3 + 2, none⟩) lb).trans p6
    clear hc HX HY z1 z2 HC HA hsz cL cR hcmp HR
    have lb2 := lb
    have b2 := bsz
    go_wp2_with fail
    go_region_held3 (fun w' => Below w0.heap.size w0 w' ∧ w'.cell? ⟨b, 0, none⟩ = some (.int .i64 op) ∧ w'.cell? ⟨bc, oc + i * 3, none⟩ = some (.int .i64 k1) ∧ w'.cell? ⟨bc, oc + i * 3 + 1, none⟩ = some (.int .i64 i1) ∧ w'.cell? ⟨bc, oc + i * 3 + 2, none⟩ = some (.string s1) ∧ w'.cell? ⟨bc, oc + j * 3, none⟩ = some (.int .i64 k2) ∧ w'.cell? ⟨bc, oc + j * 3 + 1, none⟩ = some (.int .i64 i2) ∧ w'.cell? ⟨bc, oc + j * 3 + 2, none⟩ = some (.string s2)) (first | assumption | exact ⟨bel.drew, q0, p1, p2, p3, p4, p5, p6⟩ | go_keep)
      (first
      | (go_at_call 26
         have hH := (‹Below w0.heap.size w0 _ ∧ _ ∧ _›)
         with_reducible refine (cC _).out.mono ?_
         rintro e w' ⟨rfl, hb⟩
         have hS : Below w0.heap.size w0 w' ∧ w'.cell? ⟨b, 0, none⟩ = some (.int .i64 op) ∧ w'.cell? ⟨bc, oc + i * 3, none⟩ = some (.int .i64 k1) ∧ w'.cell? ⟨bc, oc + i * 3 + 1, none⟩ = some (.int .i64 i1) ∧ w'.cell? ⟨bc, oc + i * 3 + 2, none⟩ = some (.string s1) ∧ w'.cell? ⟨bc, oc + j * 3, none⟩ = some (.int .i64 k2) ∧ w'.cell? ⟨bc, oc + j * 3 + 1, none⟩ = some (.int .i64 i2) ∧ w'.cell? ⟨bc, oc + j * 3 + 2, none⟩ = some (.string s2) := ⟨hH.1.trans (hb.mono hH.1.size), (hb.cell (p := ⟨b, 0, none⟩) (Nat.lt_of_lt_of_le b2 hH.1.size)).trans hH.2.1, (hb.cell (p := ⟨bc, oc + i * 3, none⟩) (Nat.lt_of_lt_of_le lb2 hH.1.size)).trans hH.2.2.1, (hb.cell (p := ⟨bc, oc + i * 3 + 1, none⟩) (Nat.lt_of_lt_of_le lb2 hH.1.size)).trans hH.2.2.2.1, (hb.cell (p := ⟨bc, oc + i * 3 + 2, none⟩) (Nat.lt_of_lt_of_le lb2 hH.1.size)).trans hH.2.2.2.2.1, (hb.cell (p := ⟨bc, oc + j * 3, none⟩) (Nat.lt_of_lt_of_le lb2 hH.1.size)).trans hH.2.2.2.2.2.1, (hb.cell (p := ⟨bc, oc + j * 3 + 1, none⟩) (Nat.lt_of_lt_of_le lb2 hH.1.size)).trans hH.2.2.2.2.2.2.1, (hb.cell (p := ⟨bc, oc + j * 3 + 2, none⟩) (Nat.lt_of_lt_of_le lb2 hH.1.size)).trans hH.2.2.2.2.2.2.2⟩))
    have hE := (‹Below w0.heap.size w0 _ ∧ _ ∧ _›).1
    go_wp2
    go_ret2
    exact ⟨rfl, by rw [HQ.out]; exact bw.trans (hE.mono (Nat.le_of_lt bsz))⟩
end Mt
end Go.Proofs.Ytkejjiohkhlnnaa
