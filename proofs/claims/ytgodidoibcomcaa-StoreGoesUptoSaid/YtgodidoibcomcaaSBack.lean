/-
  The walk of the law StoreBack.
-/
import Derived.Test.YtgodidoibcomcaaSEnv
import Derived.Test.YtgodidoibcomcaaSWhere
namespace Go.Proofs.Ytgodidoibcomcaa
open Go.RowKit

/-- what made makes -/
theorem env_made {sb : Nat} {ar : List Int} {τ1 : Own} {w0 w1 : World} (hs : IsStore 1 sb (madeSt ar) τ1 w1) (T : Turn 1 (fun _ => True) noOwn τ1 w0 w1) : Env w0 τ1 w1 [⟨1, sb, ar ++ [0], [((ar.length : Int), [])], [], 1⟩] [] [] :=
  ⟨T.fresh, fun j hj => T.own j hj, below_of_turn T, fun x hx => by
    rw [List.mem_singleton] at hx
    subst hx
    exact ⟨madeSt ar, rfl, rfl, rfl, Nat.le_refl _, hs⟩, fun x hx => (by cases hx), fun x hx => (by cases hx), List.nodup_nil⟩
/-- what is known of the rows of a law that is told Parts -/
structure PartsL (ar : List Int) (F : List Row) (l J : List Row) : Prop where
  eq : joinedL l (F.map (shape ar)) = J
  twice : joinedL l J = J
  fits : ∀ r ∈ J, FitsRow (ar ++ [0]) r
  len : J.length ≤ l.length + F.length
  le : l.length ≤ J.length
  take : J.take l.length = l
theorem partsL {ar : List Int} (hf : fitsL ar = true) {F l : List Row} (hr : ∀ r ∈ F, RowOk r) (hl : ∀ r ∈ l, FitsRow (ar ++ [0]) r) : PartsL ar F l (joinedL l (F.map (shape ar))) :=
  ⟨rfl, joinedL_twice _ _, fun r h => by
    rw [joinedL_mem] at h
    rcases h with h | h
    · exact hl r h
    · obtain ⟨x, hx, rfl⟩ := List.mem_map.1 h
      exact shape_fits hf (hr x hx), by have := joinedL_length l (F.map (shape ar)); simpa using this, joinedL_ge _ _, joinedL_take _ _⟩
theorem row0_fits {ar : List Int} : ∀ r ∈ [((ar.length : Int), ([] : List Int))], FitsRow (ar ++ [0]) r := fun r h => by
  rw [List.mem_singleton] at h
  subst h
  exact fits_row0
theorem fits8 {ar : List Int} {l : List Row} (h : ∀ r ∈ l, FitsRow ar r) : ∀ r ∈ l, r.2.length ≤ 8 := fun r hr => (h r hr).2.2.2.1
theorem shaped8 {ar : List Int} (hf : fitsL ar = true) {F : List Row} (hr : ∀ r ∈ F, RowOk r) : ∀ r ∈ F.map (shape ar), r.2.length ≤ 8 := fun r h => by
  obtain ⟨x, hx, rfl⟩ := List.mem_map.1 h
  exact (shape_fits hf (hr x hx)).2.2.2.1
theorem app8 {l m : List Row} (h1 : ∀ r ∈ l, r.2.length ≤ 8) (h2 : ∀ r ∈ m, r.2.length ≤ 8) : ∀ r ∈ l ++ m, r.2.length ≤ 8 := fun r h => by
  rcases List.mem_append.1 h with h | h
  · exact h1 r h
  · exact h2 r h

theorem new_row0 {w W : World} {p : Int} {T : TypeId} (hK : ∀ (g o : Nat) (u : Value), (w.alloc (.cells #[.int .i64 p, .slice none 0 0] T)).drew.cell? ⟨g, o, none⟩ = some u → W.cell? ⟨g, o, none⟩ = some u) : W.cell? ⟨w.heap.size, 0, none⟩ = some (.int .i64 p) ∧ W.cell? ⟨w.heap.size, 1, none⟩ = some (.slice none 0 0) :=
  ⟨hK _ _ _ (by simp), hK _ _ _ (by simp)⟩
theorem new_row0' {w : World} {p : Int} {T : TypeId} : (w.alloc (.cells #[.int .i64 p, .slice none 0 0] T)).cell? ⟨w.heap.size, 0, none⟩ = some (.int .i64 p) ∧ (w.alloc (.cells #[.int .i64 p, .slice none 0 0] T)).cell? ⟨w.heap.size, 1, none⟩ = some (.slice none 0 0) :=
  ⟨by simp, by simp⟩

set_option maxHeartbeats 8000000 in
set_option maxRecDepth 8000 in
theorem back_any (a0 a1 a2 a3 : Option Addr) (c0 c1 c2 c3 : Nat) (ar : List Int) (F G H : List Row) (p q : Int) (say : Bool) (w : World) (h0 : IntsZ (fun _ => True) w a0 c0 ar) (h1 : RowsZ (fun _ => True) w a1 c1 F) (h2 : RowsZ (fun _ => True) w a2 c2 G) (h3 : RowsZ (fun _ => True) w a3 c3 H)
    (r1 : ∀ r ∈ F, RowOk r) (r2 : ∀ r ∈ G, RowOk r) (r3 : ∀ r ∈ H, RowOk r) (l0 : ar.length ≤ 9223372036854775807) (l1 : F.length ≤ 2000000) (l2 : G.length ≤ 2000000) (l3 : H.length ≤ 2000000) :
    Calls Try.prog 5 #[.agg #[.slice a0 ar.length c0, .slice a1 F.length c1, .slice a2 G.length c2, .slice a3 H.length c3, .int .i64 p, .int .i64 q, .bool say]] w fun e w' => e = .returned (.bool true) ∧ Below w.heap.size w w' := by
  obtain ⟨w0, hw0⟩ : ∃ w0, w0 = w.alloc (.cells #[.slice a0 ar.length c0, .slice a1 F.length c1, .slice a2 G.length c2, .slice a3 H.length c3, .int .i64 p, .int .i64 q, .bool say] 41) := ⟨_, rfl⟩
  have hb0 : Below w.heap.size w w0 := by rw [hw0]; exact (Below.refl _ _).alloc (Nat.le_refl _) _
  have hin : ∀ W : World, Below w0.heap.size w0 W → W.cell? ⟨w.heap.size, 0, none⟩ = some (.slice a0 ar.length c0) ∧ W.cell? ⟨w.heap.size, 1, none⟩ = some (.slice a1 F.length c1) ∧ W.cell? ⟨w.heap.size, 2, none⟩ = some (.slice a2 G.length c2) ∧ W.cell? ⟨w.heap.size, 3, none⟩ = some (.slice a3 H.length c3) := fun W hW => by
    have hs : w.heap.size < w0.heap.size := by rw [hw0]; simp
    rw [hW.cell (p := ⟨w.heap.size, 0, none⟩) hs, hW.cell (p := ⟨w.heap.size, 1, none⟩) hs, hW.cell (p := ⟨w.heap.size, 2, none⟩) hs, hW.cell (p := ⟨w.heap.size, 3, none⟩) hs, hw0]
    simp
  have HIn := Lib.hid hin
  have H0 := Lib.hid (h0.below hb0 (Nat.le_refl _))
  have H1 := Lib.hid (h1.below hb0 (Nat.le_refl _))
  have H2 := Lib.hid (h2.below hb0 (Nat.le_refl _))
  have H3 := Lib.hid (h3.below hb0 (Nat.le_refl _))
  have HR1 := Lib.hid r1
  have HR2 := Lib.hid r2
  have HR3 := Lib.hid r3
  have cF := Lib.hid (fits_any a0 c0 ar w0 H0.out.ints l0)
  clear hin h0 h1 h2 h3 r1 r2 r3
  by_cases hf : fitsL ar = true
  · have hl := fits_len hf
    have HA := Lib.hid (partsL hf HR1.out row0_fits)
    obtain ⟨A, hA⟩ : ∃ A, joinedL [((ar.length : Int), [])] (F.map (shape ar)) = A := ⟨_, rfl⟩
    rw [hA] at HA
    have HB := Lib.hid (partsL hf HR2.out HA.out.fits)
    have HC := Lib.hid (partsL hf HR3.out HA.out.fits)
    obtain ⟨B, hB⟩ : ∃ B, joinedL A (G.map (shape ar)) = B := ⟨_, rfl⟩
    obtain ⟨C, hC⟩ : ∃ C, joinedL A (H.map (shape ar)) = C := ⟨_, rfl⟩
    rw [hB] at HB
    rw [hC] at HC
    have lA := HA.out.len
    have lB := HB.out.len
    have lC := HC.out.len
    have lA0 := HA.out.le
    have lB0 := HB.out.le
    have lC0 := HC.out.le
    simp only [List.length_cons, List.length_nil, Nat.zero_add] at lA lA0
    have HF := Lib.hid hf
    have cM := Lib.hid (made_any (s := 1) (τ := noOwn) a0 c0 ar w0 (fun _ _ => rfl) H0.out.ints hf)
    have HW0 := Lib.hid hw0
    rw [hf] at cF
    obtain ⟨MF, hMF⟩ : ∃ M, F.map (shape ar) = M := ⟨_, rfl⟩
    obtain ⟨MG, hMG⟩ : ∃ M, G.map (shape ar) = M := ⟨_, rfl⟩
    obtain ⟨MH, hMH⟩ : ∃ M, H.map (shape ar) = M := ⟨_, rfl⟩
    have m1 : MF.length ≤ 2000000 := by rw [← hMF]; simpa using l1
    have m2 : MG.length ≤ 2000000 := by rw [← hMG]; simpa using l2
    have m3 : MH.length ≤ 2000000 := by rw [← hMH]; simpa using l3
    have M8F := Lib.hid (shaped8 hf HR1.out)
    have M8G := Lib.hid (shaped8 hf HR2.out)
    have M8H := Lib.hid (shaped8 hf HR3.out)
    rw [hMF] at hA M8F
    rw [hMG] at hB M8G
    rw [hMH] at hC M8H
    have JA := Lib.hid hA
    have JB := Lib.hid hB
    have JC := Lib.hid hC
    have HMF := Lib.hid hMF
    have HMG := Lib.hid hMG
    have HMH := Lib.hid hMH
    clear hA hB hC hf hw0 hMF hMG hMH
    go_enter Try.func5, Try.ntmps5
    go_wp2_with fail
    rw [← HW0.out]
    refine cF.out.mono ?_
    rintro e w0 ⟨rfl, rfl⟩
    obtain ⟨i0, i1, i2, i3⟩ := HIn.out w0 (Below.refl _ _)
    go_wp2_with fail
    refine cM.out.mono ?_
    rintro e w1 ⟨sb, τ1, rfl, hs1, T1⟩
    have HE1 := Lib.hid (env_made hs1 T1)
    clear hs1 T1 cM cF i0 i1 i2 i3
    obtain ⟨i0, i1, i2, i3⟩ := HIn.out w1 HE1.out.below
    go_upto_region 7 with fail
    go_cut [5] (fun v wx => ∃ a c, v = .slice a A.length c ∧ Hid (Env w0 τ1 wx [⟨1, sb, ar ++ [0], [((ar.length : Int), [])], [], 1⟩] [(a, c, A)] []))
    case first =>
      have cS := fun (W : World) (hW : Below w1.heap.size w1 W) => env_shaped (HE1.out.stay hW) H0.out H1.out HF.out HR1.out (by omega) HMF.out
      have HCS := Lib.hid cS
      have cJ := fun (W : World) (g : Nat) (am : Option Addr) (cm : Nat) (E : Env w0 τ1 W [⟨1, sb, ar ++ [0], [((ar.length : Int), [])], [], 1⟩] [(some ⟨g, 0, none⟩, 1, [((ar.length : Int), [])]), (am, cm, MF)] []) => env_joined E (List.mem_cons_self ..) (List.mem_cons_of_mem _ (List.mem_cons_self ..)) (app8 (fits8 row0_fits) M8F.out) (by simp only [List.length_cons, List.length_nil]; omega) JA.out (nl := 1) (nm := MF.length) rfl rfl
      have HCJ := Lib.hid cJ
      clear cS cJ
      go_region_held3 (fun w' => Below w1.heap.size w1 w' ∧ w'.cell? ⟨w.heap.size, 0, none⟩ = some (.slice a0 ar.length c0) ∧ w'.cell? ⟨w.heap.size, 1, none⟩ = some (.slice a1 F.length c1)) (first | assumption | exact ⟨(Below.refl _ _).drew, i0, i1⟩ | exact ⟨((Below.refl _ _).alloc (Nat.le_refl _) _).drew, by go_keep, by go_keep⟩ | exact ⟨hS.1.alloc hS.1.size _, by go_keep, by go_keep⟩ | go_keep) (first
        | (go_at_call 14
           have hH := (‹Below w1.heap.size w1 _ ∧ _ ∧ _›)
           with_reducible refine (HCS.out _ hH.1).mono ?_
           rintro e w2 ⟨am, cm, rfl, hb, E2⟩
           have HE2 := Lib.hid E2
           have hS : Below w1.heap.size w1 w2 ∧ w2.cell? ⟨w.heap.size, 0, none⟩ = some (.slice a0 ar.length c0) ∧ w2.cell? ⟨w.heap.size, 1, none⟩ = some (.slice a1 F.length c1) := ⟨hH.1.trans (hb.mono hH.1.size), on_cell hb hH.2.1, on_cell hb hH.2.2⟩
           have HK := Lib.hid (fun (g o : Nat) (u : Value) (h : World.cell? _ ⟨g, o, none⟩ = some u) => on_cell hb h)
           have HZ := Lib.hid (HE1.out.stay hH.1).fresh
           clear E2)
        | (go_at_call 15
           with_reducible refine (HCJ.out w2 w1.heap.size am cm ?_).mono ?_
           · exact HE2.out.put (Below.refl _ _) (row0_rows (Z := fun j => τ1 j = none) (new_row0 HK.out).1 (new_row0 HK.out).2 (HE1.out.fresh _ (Nat.le_refl _))) (fun j hj => .inl hj)
           rintro e w3 ⟨aj, cj, rfl, hb4, E4⟩
           have HE4 := Lib.hid (E4.sub (L' := [(aj, cj, A)]) (fun x hx => by rw [List.mem_singleton] at hx; subst hx; exact List.mem_cons_self ..))
           have hS3 : Below w1.heap.size w1 w3 ∧ w3.cell? ⟨w.heap.size, 0, none⟩ = some (.slice a0 ar.length c0) ∧ w3.cell? ⟨w.heap.size, 1, none⟩ = some (.slice a1 F.length c1) := ⟨hS.1.trans (hb4.mono hS.1.size), on_cell hb4 hS.2.1, on_cell hb4 hS.2.2⟩
           clear E4)
        | (go_at_call 15
           have hH := (‹Below w1.heap.size w1 _ ∧ _ ∧ _›)
           with_reducible refine (HCJ.out (w2.alloc (.cells #[.int .i64 (ar.length : Int), .slice none 0 0] 28)) w2.heap.size am cm ?_).mono ?_
           · exact HE2.out.put ((Below.refl _ _).alloc (Nat.le_refl _) _) (row0_rows (Z := fun j => w2.heap.size ≤ j) new_row0'.1 new_row0'.2 (Nat.le_refl _)) (fun j hj => .inr hj)
           rintro e w3 ⟨aj, cj, rfl, hb4, E4⟩
           have HE4 := Lib.hid (E4.sub (L' := [(aj, cj, A)]) (fun x hx => by rw [List.mem_singleton] at hx; subst hx; exact List.mem_cons_self ..))
           have hS3 : Below w1.heap.size w1 w3 ∧ w3.cell? ⟨w.heap.size, 0, none⟩ = some (.slice a0 ar.length c0) ∧ w3.cell? ⟨w.heap.size, 1, none⟩ = some (.slice a1 F.length c1) := ⟨hH.1.trans (hb4.mono hH.1.size), on_cell hb4 hH.2.1, on_cell hb4 hH.2.2⟩
           clear E4))
      all_goals
        go_wp2_with fail
        go_meet
        case rel => exact ⟨aj, cj, rfl, HE4⟩
    case rest =>
      obtain ⟨aA, cA, rfl, HE4⟩ := hcut
      clear i0 i1 i2 i3 HE1
      obtain ⟨i0, i1, i2, i3⟩ := HIn.out _ HE4.out.below
      have cK := Lib.hid (env_shaped HE4.out H0.out H2.out HF.out HR2.out (by omega) HMG.out)
      go_wp2_with fail
      with_reducible refine cK.out.mono ?_
      rintro e wN1 ⟨aN1, cN1, rfl, -, E⟩
      have HN1 := Lib.hid E
      clear E cK HE4
      clear i0 i1 i2 i3
      have cK := Lib.hid (env_joined HN1.out (List.mem_cons_of_mem _ (List.mem_cons_self ..)) (List.mem_cons_self ..) (app8 (fits8 HA.out.fits) M8G.out) (by omega) JB.out (nl := A.length) (nm := MG.length) rfl rfl)
      go_wp2_with fail
      with_reducible refine cK.out.mono ?_
      rintro e wN2 ⟨aN2, cN2, rfl, -, E⟩
      have HN2 := Lib.hid E
      clear E cK HN1
      obtain ⟨i0, i1, i2, i3⟩ := HIn.out _ HN2.out.below
      have cK := Lib.hid (env_shaped HN2.out H0.out H3.out HF.out HR3.out (by omega) HMH.out)
      go_wp2_with fail
      with_reducible refine cK.out.mono ?_
      rintro e wN3 ⟨aN3, cN3, rfl, -, E⟩
      have HN3 := Lib.hid E
      clear E cK HN2
      clear i0 i1 i2 i3
      have cK := Lib.hid (env_joined HN3.out (List.mem_cons_of_mem _ (List.mem_cons_of_mem _ (List.mem_cons_of_mem _ (List.mem_cons_self ..)))) (List.mem_cons_self ..) (app8 (fits8 HA.out.fits) M8H.out) (by omega) JC.out (nl := A.length) (nm := MH.length) rfl rfl)
      go_wp2_with fail
      with_reducible refine cK.out.mono ?_
      rintro e wN4 ⟨aN4, cN4, rfl, -, E⟩
      have HN4 := Lib.hid E
      clear E cK HN3
      have cK := Lib.hid (env_add HN4.out (by decide) (fun z hz => by cases hz) (List.mem_cons_of_mem _ (List.mem_cons_of_mem _ (List.mem_cons_of_mem _ (List.mem_cons_of_mem _ (List.mem_cons_self ..))))) HA.out.fits (by omega) HA.out.twice)
      go_wp2_with fail
      with_reducible refine cK.out.mono ?_
      rintro e wN5 ⟨rfl, τN5, E⟩
      have HN5 := Lib.hid E
      clear E cK HN4
      have cK := Lib.hid (env_holds HN5.out ((ar.length : Int) + 1) (List.mem_cons_of_mem _ (List.mem_cons_of_mem _ (List.mem_cons_of_mem _ (List.mem_cons_of_mem _ (List.mem_cons_self ..))))) (by omega) (by omega) (by omega))
      go_wp2_with fail
      with_reducible refine cK.out.mono ?_
      rintro e wN6 ⟨rfl, E⟩
      have HN6 := Lib.hid E
      clear E cK HN5
      have cK := Lib.hid (env_add HN6.out (by decide) (fun z hz => by cases hz) (List.mem_cons_of_mem _ (List.mem_cons_of_mem _ (List.mem_cons_self ..))) HB.out.fits (by omega) HB.out.twice)
      go_wp2_with fail
      with_reducible refine cK.out.mono ?_
      rintro e wN7 ⟨rfl, τN7, E⟩
      have HN7 := Lib.hid E
      clear E cK HN6
      have cK := Lib.hid (env_holds HN7.out ((ar.length : Int) + 1) (List.mem_cons_of_mem _ (List.mem_cons_of_mem _ (List.mem_cons_self ..))) (by omega) (by omega) (by omega))
      go_wp2_with fail
      with_reducible refine cK.out.mono ?_
      rintro e wN8 ⟨rfl, E⟩
      have HN8 := Lib.hid E
      clear E cK HN7
      have cK := Lib.hid (env_undo_bad HN8.out ((B.length : Int) + 1) (by omega))
      go_wp2_with fail
      with_reducible refine cK.out.mono ?_
      rintro e wN9 ⟨rfl, rfl⟩
      clear cK
      have cK := Lib.hid (env_undo_bad HN8.out (-1) (by omega))
      go_wp2_with fail
      with_reducible refine cK.out.mono ?_
      rintro e wN10 ⟨rfl, rfl⟩
      clear cK
      have cK := Lib.hid (env_holds HN8.out ((ar.length : Int) + 1) (List.mem_cons_of_mem _ (List.mem_cons_of_mem _ (List.mem_cons_self ..))) (by omega) (by omega) (by omega))
      go_wp2_with fail
      with_reducible refine cK.out.mono ?_
      rintro e wN11 ⟨rfl, E⟩
      have HN11 := Lib.hid E
      clear E cK HN8
      have cK := Lib.hid (env_undo HN11.out (by decide) (fun z hz => by cases hz) A.length lB0 (by omega) HB.out.take)
      go_wp2_with fail
      with_reducible refine cK.out.mono ?_
      rintro e wN12 ⟨rfl, τN12, E⟩
      have HN12 := Lib.hid E
      clear E cK HN11
      have cK := Lib.hid (env_holds HN12.out ((ar.length : Int) + 1) (List.mem_cons_of_mem _ (List.mem_cons_of_mem _ (List.mem_cons_of_mem _ (List.mem_cons_of_mem _ (List.mem_cons_self ..))))) (by omega) (by omega) (by omega))
      go_wp2_with fail
      with_reducible refine cK.out.mono ?_
      rintro e wN13 ⟨rfl, E⟩
      have HN13 := Lib.hid E
      clear E cK HN12
      have cK := Lib.hid (env_add HN13.out (by decide) (fun z hz => by cases hz) (List.mem_cons_self ..) HC.out.fits (by omega) HC.out.twice)
      go_wp2_with fail
      with_reducible refine cK.out.mono ?_
      rintro e wN14 ⟨rfl, τN14, E⟩
      have HN14 := Lib.hid E
      clear E cK HN13
      have cK := Lib.hid (env_holds HN14.out ((ar.length : Int) + 1) (List.mem_cons_self ..) (by omega) (by omega) (by omega))
      go_wp2_with fail
      with_reducible refine cK.out.mono ?_
      rintro e wN15 ⟨rfl, E⟩
      have HN15 := Lib.hid E
      clear E cK HN14
      have cK := Lib.hid (env_undo HN15.out (by decide) (fun z hz => by cases hz) 0 (Nat.zero_le _) (by omega) rfl)
      rw [show ((0 : Nat) : Int) = 0 from rfl] at cK
      go_wp2_with fail
      with_reducible refine cK.out.mono ?_
      rintro e wN16 ⟨rfl, τN16, E⟩
      have HN16 := Lib.hid E
      clear E cK HN15
      have cK := Lib.hid (env_len HN16.out)
      go_wp2_with fail
      with_reducible refine cK.out.mono ?_
      rintro e wN17 ⟨rfl, rfl⟩
      clear cK
      have cK := Lib.hid (env_holds_nil HN16.out ((ar.length : Int) + 1) (by omega) (by omega))
      go_wp2_with fail
      with_reducible refine cK.out.mono ?_
      rintro e wN18 ⟨rfl, E⟩
      have HN18 := Lib.hid E
      clear E cK HN16
      go_wp2
      go_ret
      exact ⟨rfl, hb0.trans (HN18.out.below.mono hb0.size)⟩
  · have hff : fitsL ar = false := by simpa using hf
    rw [hff] at cF
    have HW0 := Lib.hid hw0
    clear hf hw0
    go_enter Try.func5, Try.ntmps5
    go_wp2_with fail
    rw [← HW0.out]
    refine cF.out.mono ?_
    rintro e w0 ⟨rfl, rfl⟩
    go_wp2
    go_ret
    exact ⟨rfl, hb0⟩
end Go.Proofs.Ytgodidoibcomcaa
