/-
  The book of StoreScript, StoreTries, StoreEach: several of its texts in one.
-/
import Derived.Test.YtgodidoibcomcaaK1
namespace Go.Proofs.Ytgodidoibcomcaa.Bk
open Go.RowKit Go.Proofs.Ytgodidoibcomcaa

theorem Env.args8 {w0 : World} {τ : Own} {w : World} {S : List Ent} {L : List RSl} {C : List Box} {ar : List Int} {k : Nat} {p : Pr} (E : Env w0 τ w S L C) (hm : stE ar k p ∈ S) (hk : k ≤ 1000000) (r : Row) (hr : r ∈ p.rows) : r.2.length ≤ 8 := by
  obtain ⟨σ, h, h1, h2, h3, h4, hs⟩ := E.store hm hk
  rw [← h2] at hr
  exact (hs.sound.fits r hr).2.2.2.1
theorem rowRes_len {rows : List Row} (h : ∀ r ∈ rows, r.2.length ≤ 8) (n : Int) : (rowRes rows n).1.2.length ≤ 8 := by
  unfold rowRes
  split
  · simp
  · split
    · rename_i r hr
      exact h r (List.mem_of_getElem? hr)
    · simp

/-- what row leaves -/
def RowEndB (w0 : World) (β : Book) (C : List Box) (w : World) (e : Ending) (w' : World) : Prop :=
  e = .returned (.bool true) ∧ ∃ (τ' : Own) (C' : List Box) (vL' : Value) (nx : Int) (lists' : List (Value × Value)), Step w0 β C w { β with vL := vL', next := nx, lists := lists' } τ' C' w' ∧ lists'.length = β.lists.length + 6 ∧ β.next ≤ nx ∧ nx ≤ β.next + 27

set_option maxHeartbeats 8000000 in
set_option maxRecDepth 8000 in
theorem row_any {w0 : World} {τ : Own} {w : World} {β : Book} {C : List Box} (E : Env w0 τ w (ents β.ar β.ps) [] C) (B : BookOk β C) {k : Nat} {p : Pr} (hp : β.ps[k]? = some p) (n : Int) (h0 : 0 ≤ β.next) (hnx : β.next + 1000 ≤ 1000000000000000) (hll : (β.lists.length + 10) * 48 ≤ 140737488355328) :
    Calls Try.prog 55 #[.pointer (some ⟨β.bk, 0, none⟩), .int .i64 k, .int .i64 n] w (RowEndB w0 β C w) := by
  have hk := (List.getElem?_eq_some_iff.1 hp).1
  have hk6 : k ≤ 1000000 := by have := B.many; omega
  have mS : stE β.ar k p ∈ ents β.ar β.ps := mem_ents.2 ⟨k, p, hp, .inl rfl⟩
  have mR : rfE β.ar k p ∈ ents β.ar β.ps := mem_ents.2 ⟨k, p, hp, .inr rfl⟩
  obtain ⟨hS0, -⟩ := E.cellAt B.head (j := 0) rfl
  obtain ⟨hR0, -⟩ := E.cellAt B.head (j := 1) rfl
  obtain ⟨gS, cS, hvS, hcS⟩ := B.st.cells E hk
  obtain ⟨gR, cR, hvR, hcR⟩ := B.rf.cells E hk
  have hS1 := hcS k (.pointer (some ⟨p.sb, 0, none⟩)) (by rw [List.getElem?_map, hp]; rfl)
  have hR1 := hcR k (.pointer (some ⟨p.rb, 0, none⟩)) (by rw [List.getElem?_map, hp]; rfl)
  rw [show (#[β.vS, β.vR, β.vL, Value.int .i64 β.next] : Array Value)[0] = β.vS from rfl, hvS] at hS0
  rw [show (#[β.vS, β.vR, β.vL, Value.int .i64 β.next] : Array Value)[1] = β.vR from rfl, hvR] at hR0
  obtain ⟨ns, hns⟩ : ∃ b, β.ps.length = b := ⟨_, rfl⟩
  obtain ⟨⟨⟨P, X⟩, err⟩, hres⟩ : ∃ r, rowRes p.rows n = r := ⟨_, rfl⟩
  obtain ⟨m, hm⟩ : ∃ m, IntKind.i64.wrap (n - 1) = m := ⟨_, rfl⟩
  obtain ⟨⟨⟨Q, Y⟩, err2⟩, hres2⟩ : ∃ r, rowRes p.rows m = r := ⟨_, rfl⟩
  have Hres := Lib.hid hres
  have Hres2 := Lib.hid hres2
  rw [hns] at hS0 hR0
  rw [hns] at hk
  have h8 := rowRes_len (fun r hr => E.args8 mS hk6 r hr) n
  have h8' := rowRes_len (fun r hr => E.args8 mS hk6 r hr) m
  rw [hres] at h8
  rw [hres2] at h8'
  simp only at h8 h8'
  have HE0 := Lib.hid E
  have HB := Lib.hid B
  clear E B hvS hvR hcS hcR hns hres hres2
  go_enter Try.func55, Try.ntmps55
  have c1 := Lib.hid (env_row_st HE0.out mS hk6 n)
  rw [Hres.out] at c1
  go_upto_region 2 with (first | (go_at_call 34; refine c1.out.mono ?_; rintro e V1 ⟨a1, k1, rfl, hO1, hb1⟩))
  obtain ⟨t1, D1, F1, r1, sub1, new1⟩ := BoxRow.ofOwns HE0.out hb1 hO1 (Nat.le_refl _)
  obtain ⟨W1, hW1⟩ : ∃ W, W = V1.alloc (.cells #[.int .i64 P, .slice a1 X.length k1] 28) := ⟨_, rfl⟩
  obtain ⟨q1, hq1⟩ : ∃ b, b = V1.heap.size := ⟨_, rfl⟩
  have hv1 : Below V1.heap.size V1 W1 := by rw [hW1]; exact (Below.refl _ _).alloc (Nat.le_refl _) _
  have HE1 := Lib.hid (F1.adopt (g := q1) (o := .cells #[.int .i64 P, .slice a1 X.length k1] 28 (0, 0)) hv1 (by omega) (by rw [hW1, hq1]; exact (MapKept.heap_alloc V1 _).1))
  rw [← hW1, ← hq1]
  have hx1 := hb1.trans (hv1.mono hb1.size)
  have hS0_1 := on_cell hx1 hS0
  have hR0_1 := on_cell hx1 hR0
  have hS1_1 := on_cell hx1 hS1
  have hR1_1 := on_cell hx1 hR1
  have Hr1 := Lib.hid r1
  have Hsub1 := Lib.hid sub1
  have Hnew1 := Lib.hid new1
  have Hq1 := Lib.hid hq1
  have HO1 := Lib.hid hO1
  clear r1 sub1 new1 hW1 hq1 F1 hO1 hb1 hS0 hR0 hS1 hR1
  have c2 := Lib.hid (env_row_rf HE1.out mR n)
  rw [Hres.out] at c2
  go_upto_region 3 with (first | (go_at_call 71; refine c2.out.mono ?_; rintro e V2 ⟨a2, k2, rfl, hO2, hb2⟩))
  obtain ⟨t2, D2, F2, r2, sub2, new2⟩ := BoxRow.ofOwns HE1.out hb2 hO2 (Nat.le_refl _)
  obtain ⟨W2, hW2⟩ : ∃ W, W = V2.alloc (.cells #[.int .i64 P, .slice a2 X.length k2] 28) := ⟨_, rfl⟩
  obtain ⟨q2, hq2⟩ : ∃ b, b = V2.heap.size := ⟨_, rfl⟩
  have hv2 : Below V2.heap.size V2 W2 := by rw [hW2]; exact (Below.refl _ _).alloc (Nat.le_refl _) _
  have HE2 := Lib.hid (F2.adopt (g := q2) (o := .cells #[.int .i64 P, .slice a2 X.length k2] 28 (0, 0)) hv2 (by omega) (by rw [hW2, hq2]; exact (MapKept.heap_alloc V2 _).1))
  rw [← hW2, ← hq2]
  have hx2 := hb2.trans (hv2.mono hb2.size)
  have hS0_2 := on_cell hx2 hS0_1
  have hR0_2 := on_cell hx2 hR0_1
  have hS1_2 := on_cell hx2 hS1_1
  have hR1_2 := on_cell hx2 hR1_1
  have Hr2 := Lib.hid r2
  have Hsub2 := Lib.hid sub2
  have Hnew2 := Lib.hid new2
  have Hq2 := Lib.hid hq2
  have HO2 := Lib.hid hO2
  clear r2 sub2 new2 hW2 hq2 F2 hO2 hb2 hS0_1 hR0_1 hS1_1 hR1_1
  have c3 := Lib.hid (env_row_st HE2.out mS hk6 m)
  rw [Hres2.out] at c3
  go_upto_region 4 with (first | (go_at_call 34; refine c3.out.mono ?_; rintro e V3 ⟨a3, k3, rfl, hO3, hb3⟩))
  obtain ⟨t3, D3, F3, r3, sub3, new3⟩ := BoxRow.ofOwns HE2.out hb3 hO3 (Nat.le_refl _)
  obtain ⟨W3, hW3⟩ : ∃ W, W = V3.alloc (.cells #[.int .i64 Q, .slice a3 Y.length k3] 28) := ⟨_, rfl⟩
  obtain ⟨q3, hq3⟩ : ∃ b, b = V3.heap.size := ⟨_, rfl⟩
  have hv3 : Below V3.heap.size V3 W3 := by rw [hW3]; exact (Below.refl _ _).alloc (Nat.le_refl _) _
  have HE3 := Lib.hid (F3.adopt (g := q3) (o := .cells #[.int .i64 Q, .slice a3 Y.length k3] 28 (0, 0)) hv3 (by omega) (by rw [hW3, hq3]; exact (MapKept.heap_alloc V3 _).1))
  rw [← hW3, ← hq3]
  have hx3 := hb3.trans (hv3.mono hb3.size)
  have hS0_3 := on_cell hx3 hS0_2
  have hR0_3 := on_cell hx3 hR0_2
  have hS1_3 := on_cell hx3 hS1_2
  have hR1_3 := on_cell hx3 hR1_2
  have Hr3 := Lib.hid r3
  have Hsub3 := Lib.hid sub3
  have Hnew3 := Lib.hid new3
  have Hq3 := Lib.hid hq3
  have HO3 := Lib.hid hO3
  clear r3 sub3 new3 hW3 hq3 F3 hO3 hb3 hS0_2 hR0_2 hS1_2 hR1_2
  have c4 := Lib.hid (env_row_rf HE3.out mR m)
  rw [Hres2.out] at c4
  go_upto_region 5 with (first | (go_at_call 71; refine c4.out.mono ?_; rintro e V4 ⟨a4, k4, rfl, hO4, hb4⟩))
  obtain ⟨t4, D4, F4, r4, sub4, new4⟩ := BoxRow.ofOwns HE3.out hb4 hO4 (Nat.le_refl _)
  obtain ⟨W4, hW4⟩ : ∃ W, W = V4.alloc (.cells #[.int .i64 Q, .slice a4 Y.length k4] 28) := ⟨_, rfl⟩
  obtain ⟨q4, hq4⟩ : ∃ b, b = V4.heap.size := ⟨_, rfl⟩
  have hv4 : Below V4.heap.size V4 W4 := by rw [hW4]; exact (Below.refl _ _).alloc (Nat.le_refl _) _
  have HE4 := Lib.hid (F4.adopt (g := q4) (o := .cells #[.int .i64 Q, .slice a4 Y.length k4] 28 (0, 0)) hv4 (by omega) (by rw [hW4, hq4]; exact (MapKept.heap_alloc V4 _).1))
  rw [← hW4, ← hq4]
  have hx4 := hb4.trans (hv4.mono hb4.size)
  have hS0_4 := on_cell hx4 hS0_3
  have hR0_4 := on_cell hx4 hR0_3
  have hS1_4 := on_cell hx4 hS1_3
  have hR1_4 := on_cell hx4 hR1_3
  have Hr4 := Lib.hid r4
  have Hsub4 := Lib.hid sub4
  have Hnew4 := Lib.hid new4
  have Hq4 := Lib.hid hq4
  have HO4 := Lib.hid hO4
  clear r4 sub4 new4 hW4 hq4 F4 hO4 hb4 hS0_3 hR0_3 hS1_3 hR1_3
  have c5 := Lib.hid (env_row_st HE4.out mS hk6 n)
  rw [Hres.out] at c5
  go_upto_region 6 with (first | (go_at_call 34; refine c5.out.mono ?_; rintro e V5 ⟨a5, k5, rfl, hO5, hb5⟩))
  obtain ⟨t5, D5, F5, r5, sub5, new5⟩ := BoxRow.ofOwns HE4.out hb5 hO5 (Nat.le_refl _)
  obtain ⟨W5, hW5⟩ : ∃ W, W = V5.alloc (.cells #[.int .i64 P, .slice a5 X.length k5] 28) := ⟨_, rfl⟩
  obtain ⟨q5, hq5⟩ : ∃ b, b = V5.heap.size := ⟨_, rfl⟩
  have hv5 : Below V5.heap.size V5 W5 := by rw [hW5]; exact (Below.refl _ _).alloc (Nat.le_refl _) _
  have HE5 := Lib.hid (F5.adopt (g := q5) (o := .cells #[.int .i64 P, .slice a5 X.length k5] 28 (0, 0)) hv5 (by omega) (by rw [hW5, hq5]; exact (MapKept.heap_alloc V5 _).1))
  rw [← hW5, ← hq5]
  have hx5 := hb5.trans (hv5.mono hb5.size)
  have hS0_5 := on_cell hx5 hS0_4
  have hR0_5 := on_cell hx5 hR0_4
  have hS1_5 := on_cell hx5 hS1_4
  have hR1_5 := on_cell hx5 hR1_4
  have Hr5 := Lib.hid r5
  have Hsub5 := Lib.hid sub5
  have Hnew5 := Lib.hid new5
  have Hq5 := Lib.hid hq5
  have HO5 := Lib.hid hO5
  clear r5 sub5 new5 hW5 hq5 F5 hO5 hb5 hS0_4 hR0_4 hS1_4 hR1_4
  have M1 : (q1, Obj.cells #[.int .i64 P, .slice a1 X.length k1] 28 (0, 0)) ∈ (q5, Obj.cells #[.int .i64 P, .slice a5 X.length k5] 28 (0, 0)) :: D5 := List.mem_cons_of_mem _ (Hsub5.out _ (List.mem_cons_of_mem _ (Hsub4.out _ (List.mem_cons_of_mem _ (Hsub3.out _ (List.mem_cons_of_mem _ (Hsub2.out _ (List.mem_cons_self ..))))))))
  have u1_0 := (HE5.out.cellAt M1 (j := 0) rfl).1
  have u1_1 := (HE5.out.cellAt M1 (j := 1) rfl).1
  have HM1 := Lib.hid M1
  clear M1
  have R1 := Lib.hid ((((((Hr1.out).mono (fun x hx _ => Hsub2.out x (List.mem_cons_of_mem _ hx))).mono (fun x hx _ => Hsub3.out x (List.mem_cons_of_mem _ hx))).mono (fun x hx _ => Hsub4.out x (List.mem_cons_of_mem _ hx))).mono (fun x hx _ => Hsub5.out x (List.mem_cons_of_mem _ hx))).mono (C' := (q5, Obj.cells #[.int .i64 P, .slice a5 X.length k5] 28 (0, 0)) :: D5) (fun x hx _ => List.mem_cons_of_mem _ hx))
  have M2 : (q2, Obj.cells #[.int .i64 P, .slice a2 X.length k2] 28 (0, 0)) ∈ (q5, Obj.cells #[.int .i64 P, .slice a5 X.length k5] 28 (0, 0)) :: D5 := List.mem_cons_of_mem _ (Hsub5.out _ (List.mem_cons_of_mem _ (Hsub4.out _ (List.mem_cons_of_mem _ (Hsub3.out _ (List.mem_cons_self ..))))))
  have u2_0 := (HE5.out.cellAt M2 (j := 0) rfl).1
  have u2_1 := (HE5.out.cellAt M2 (j := 1) rfl).1
  have HM2 := Lib.hid M2
  clear M2
  have R2 := Lib.hid (((((Hr2.out).mono (fun x hx _ => Hsub3.out x (List.mem_cons_of_mem _ hx))).mono (fun x hx _ => Hsub4.out x (List.mem_cons_of_mem _ hx))).mono (fun x hx _ => Hsub5.out x (List.mem_cons_of_mem _ hx))).mono (C' := (q5, Obj.cells #[.int .i64 P, .slice a5 X.length k5] 28 (0, 0)) :: D5) (fun x hx _ => List.mem_cons_of_mem _ hx))
  have M3 : (q3, Obj.cells #[.int .i64 Q, .slice a3 Y.length k3] 28 (0, 0)) ∈ (q5, Obj.cells #[.int .i64 P, .slice a5 X.length k5] 28 (0, 0)) :: D5 := List.mem_cons_of_mem _ (Hsub5.out _ (List.mem_cons_of_mem _ (Hsub4.out _ (List.mem_cons_self ..))))
  have u3_0 := (HE5.out.cellAt M3 (j := 0) rfl).1
  have u3_1 := (HE5.out.cellAt M3 (j := 1) rfl).1
  have HM3 := Lib.hid M3
  clear M3
  have R3 := Lib.hid ((((Hr3.out).mono (fun x hx _ => Hsub4.out x (List.mem_cons_of_mem _ hx))).mono (fun x hx _ => Hsub5.out x (List.mem_cons_of_mem _ hx))).mono (C' := (q5, Obj.cells #[.int .i64 P, .slice a5 X.length k5] 28 (0, 0)) :: D5) (fun x hx _ => List.mem_cons_of_mem _ hx))
  have M4 : (q4, Obj.cells #[.int .i64 Q, .slice a4 Y.length k4] 28 (0, 0)) ∈ (q5, Obj.cells #[.int .i64 P, .slice a5 X.length k5] 28 (0, 0)) :: D5 := List.mem_cons_of_mem _ (Hsub5.out _ (List.mem_cons_self ..))
  have u4_0 := (HE5.out.cellAt M4 (j := 0) rfl).1
  have u4_1 := (HE5.out.cellAt M4 (j := 1) rfl).1
  have HM4 := Lib.hid M4
  clear M4
  have R4 := Lib.hid (((Hr4.out).mono (fun x hx _ => Hsub5.out x (List.mem_cons_of_mem _ hx))).mono (C' := (q5, Obj.cells #[.int .i64 P, .slice a5 X.length k5] 28 (0, 0)) :: D5) (fun x hx _ => List.mem_cons_of_mem _ hx))
  have M5 : (q5, Obj.cells #[.int .i64 P, .slice a5 X.length k5] 28 (0, 0)) ∈ (q5, Obj.cells #[.int .i64 P, .slice a5 X.length k5] 28 (0, 0)) :: D5 := List.mem_cons_self ..
  have u5_0 := (HE5.out.cellAt M5 (j := 0) rfl).1
  have u5_1 := (HE5.out.cellAt M5 (j := 1) rfl).1
  have HM5 := Lib.hid M5
  clear M5
  have R5 := Lib.hid ((Hr5.out).mono (C' := (q5, Obj.cells #[.int .i64 P, .slice a5 X.length k5] 28 (0, 0)) :: D5) (fun x hx _ => List.mem_cons_of_mem _ hx))
  have e1 := Lib.hid (fun (W : World) (hW : Below W5.heap.size W5 W) => requal_any P P a1 a2 k1 k2 X X W ((R1.out.ints HE5.out rfl).below hW) ((R2.out.ints HE5.out rfl).below hW) (by omega))
  simp only [decide_true] at e1
  have e2 := Lib.hid (fun (W : World) (hW : Below W5.heap.size W5 W) => requal_any P P a5 a2 k5 k2 X X W ((R5.out.ints HE5.out rfl).below hW) ((R2.out.ints HE5.out rfl).below hW) (by omega))
  simp only [decide_true] at e2
  have e3 := Lib.hid (fun (W : World) (hW : Below W5.heap.size W5 W) => requal_any Q Q a3 a4 k3 k4 Y Y W ((R3.out.ints HE5.out rfl).below hW) ((R4.out.ints HE5.out rfl).below hW) (by omega))
  simp only [decide_true] at e3
  go_upto_region 8 with (first
    | (go_at_call 53; with_reducible refine (e1.out _ (Below.refl _ _)).mono ?_; rintro e V6 ⟨rfl, hb6⟩; have u5_0' := on_cell hb6 u5_0; have u5_1' := on_cell hb6 u5_1; have u2_0' := on_cell hb6 u2_0; have u2_1' := on_cell hb6 u2_1)
    | (go_at_call 53; with_reducible refine (e2.out _ hb6).mono ?_; rintro e V7 ⟨rfl, hb7'⟩; have hb7 := hb6.trans (hb7'.mono hb6.size); have u3_0' := on_cell hb7 u3_0; have u3_1' := on_cell hb7 u3_1; have u4_0' := on_cell hb7 u4_0; have u4_1' := on_cell hb7 u4_1)
    | (go_at_call 53; with_reducible refine (e3.out _ hb7).mono ?_; rintro e V8 ⟨rfl, hb8'⟩; have hb8 := hb7.trans (hb8'.mono hb7.size)))
  have E8 := HE5.out.stay hb8
  have Hsub := Lib.hid (fun (x : Box) (hx : x ∈ C) => (List.mem_cons_of_mem _ (Hsub5.out x (List.mem_cons_of_mem _ (Hsub4.out x (List.mem_cons_of_mem _ (Hsub3.out x (List.mem_cons_of_mem _ (Hsub2.out x (List.mem_cons_of_mem _ (Hsub1.out x (hx)))))))))) : x ∈ ((q5, Obj.cells #[.int .i64 P, .slice a5 X.length k5] 28 (0, 0)) :: D5)))
  have hx12 := hx1.size
  have sv1 := hv1.size
  have sx1 := hx1.size
  have sv2 := hv2.size
  have sx2 := hx2.size
  have sv3 := hv3.size
  have sx3 := hx3.size
  have sv4 := hv4.size
  have sx4 := hx4.size
  have sv5 := hv5.size
  have sx5 := hx5.size
  have s8 := hb8.size
  have hsz8 : w.heap.size ≤ V8.heap.size := by omega
  have HST8 := Lib.hid (Step.ofMore HE0.out HB.out E8 Hsub.out hsz8)
  have HE8 := Lib.hid E8
  clear E8
  have Hoff1 := Lib.hid (off_new HE0.out HB.out (v := .slice a1 X.length k1) (fun g e => by have := (HO1.out.lt g e).1; omega))
  have Hoff3 := Lib.hid (off_new HE0.out HB.out (v := .slice a3 Y.length k3) (fun g e => by have := (HO3.out.lt g e).1; omega))
  have Hoff5 := Lib.hid (off_new HE0.out HB.out (v := .slice a5 X.length k5) (fun g e => by have := (HO5.out.lt g e).1; omega))
  have Hnv1 : Hid (∀ g, (Value.slice a1 X.length k1).ownBlock = some g → w.heap.size ≤ g) := Lib.hid (fun g e => by have h1 := (HO1.out.lt _ e).1; omega)
  have Hnv3 : Hid (∀ g, (Value.slice a3 Y.length k3).ownBlock = some g → w.heap.size ≤ g) := Lib.hid (fun g e => by have h1 := (HO3.out.lt _ e).1; omega)
  have Hnv5 : Hid (∀ g, (Value.slice a5 X.length k5).ownBlock = some g → w.heap.size ≤ g) := Lib.hid (fun g e => by have h1 := (HO5.out.lt _ e).1; omega)
  have cK1 := Lib.hid (keep_any HST8.out.E ents_ne HST8.out.ok X R1.out Hoff1.out (by omega) (by exact h0) (by omega) (by omega))
  (try dsimp only at cK1)
  have y1 := (HST8.out.E.cellAt (HM1.out) (j := 1) rfl).1
  go_upto_region 9 with (first | (go_at_call 58; with_reducible refine cK1.out.mono ?_; intro e V9 hk9; obtain ⟨rfl, t9', C9', L9', l9', ST9, hl9, sz9, old9, off9⟩ := KeepEnd.after HST8.out hk9 Hnv1.out HE0.out))
  have HST9 := Lib.hid ST9
  have vb3_1 : ∀ g, (Value.slice a3 Y.length k3).ownBlock = some g → (Value.slice a1 X.length k1).ownBlock ≠ some g := fun g e1 e2 => by have h1 := (HO3.out.lt _ e1).1; have h2 := (HO1.out.lt _ e2).2; omega
  have R3_1 := Lib.hid ((R3.out).mono (fun x hx hb => old9 x hx (fun e => (R3.out).apartHead HST8.out.ok.head HST8.out.E (by decide) (by rw [hb, e])) (fun e => vb3_1 _ hb e) (fun e => (R3.out).apart HST8.out.ok.ls HST8.out.E (by decide) hb e)))
  have M3_1 := Lib.hid (old9 _ (HM3.out) (HST8.out.E.other (HM3.out) HST8.out.ok.head (by decide)) ((R1.out).apartHead (HM3.out) HST8.out.E (by decide)) (HST8.out.ok.ls.apartHead (HM3.out) HST8.out.E (by decide)))
  have Hof3_1 := Lib.hid (off9 _ Hoff3.out (fun g e => ⟨by have := (HO3.out.lt _ e).2; omega, vb3_1 g e⟩))
  have vb5_1 : ∀ g, (Value.slice a5 X.length k5).ownBlock = some g → (Value.slice a1 X.length k1).ownBlock ≠ some g := fun g e1 e2 => by have h1 := (HO5.out.lt _ e1).1; have h2 := (HO1.out.lt _ e2).2; omega
  have R5_1 := Lib.hid ((R5.out).mono (fun x hx hb => old9 x hx (fun e => (R5.out).apartHead HST8.out.ok.head HST8.out.E (by decide) (by rw [hb, e])) (fun e => vb5_1 _ hb e) (fun e => (R5.out).apart HST8.out.ok.ls HST8.out.E (by decide) hb e)))
  have M5_1 := Lib.hid (old9 _ (HM5.out) (HST8.out.E.other (HM5.out) HST8.out.ok.head (by decide)) ((R1.out).apartHead (HM5.out) HST8.out.E (by decide)) (HST8.out.ok.ls.apartHead (HM5.out) HST8.out.E (by decide)))
  have Hof5_1 := Lib.hid (off9 _ Hoff5.out (fun g e => ⟨by have := (HO5.out.lt _ e).2; omega, vb5_1 g e⟩))
  clear ST9 old9 off9 cK1 y1
  have cK3 := Lib.hid (keep_any HST9.out.E ents_ne HST9.out.ok Y R3_1.out Hof3_1.out (by omega) (by dsimp only; omega) (by dsimp only; omega) (by dsimp only at hl9 ⊢; omega))
  (try dsimp only at cK3)
  have y3 := (HST9.out.E.cellAt (M3_1.out) (j := 1) rfl).1
  go_upto_region 10 with (first | (go_at_call 58; with_reducible refine cK3.out.mono ?_; intro e V10 hk10; obtain ⟨rfl, t10', C10', L10', l10', ST10, hl10, sz10, old10, off10⟩ := KeepEnd.after HST9.out hk10 Hnv3.out HE0.out))
  have HST10 := Lib.hid ST10
  have vb5_3 : ∀ g, (Value.slice a5 X.length k5).ownBlock = some g → (Value.slice a3 Y.length k3).ownBlock ≠ some g := fun g e1 e2 => by have h1 := (HO5.out.lt _ e1).1; have h2 := (HO3.out.lt _ e2).2; omega
  have R5_3 := Lib.hid ((R5_1.out).mono (fun x hx hb => old10 x hx (fun e => (R5_1.out).apartHead HST9.out.ok.head HST9.out.E (by decide) (by rw [hb, e])) (fun e => vb5_3 _ hb e) (fun e => (R5_1.out).apart HST9.out.ok.ls HST9.out.E (by decide) hb e)))
  have M5_3 := Lib.hid (old10 _ (M5_1.out) (HST9.out.E.other (M5_1.out) HST9.out.ok.head (by decide)) ((R3_1.out).apartHead (M5_1.out) HST9.out.E (by decide)) (HST9.out.ok.ls.apartHead (M5_1.out) HST9.out.E (by decide)))
  have Hof5_3 := Lib.hid (off10 _ Hof5_1.out (fun g e => ⟨by have := (HO5.out.lt _ e).2; omega, vb5_3 g e⟩))
  clear ST10 old10 off10 cK3 y3
  have cK5 := Lib.hid (keep_any HST10.out.E ents_ne HST10.out.ok X R5_3.out Hof5_3.out (by omega) (by dsimp only; omega) (by dsimp only; omega) (by dsimp only at hl10 ⊢; omega))
  (try dsimp only at cK5)
  have y5 := (HST10.out.E.cellAt (M5_3.out) (j := 1) rfl).1
  go_upto_region 11 with (first | (go_at_call 58; with_reducible refine cK5.out.mono ?_; intro e V11 hk11; obtain ⟨rfl, t11', C11', L11', l11', ST11, hl11, sz11, old11, off11⟩ := KeepEnd.after HST10.out hk11 Hnv5.out HE0.out))
  have HST11 := Lib.hid ST11
  clear ST11 old11 off11 cK5 y5
  go_wp2_with fail
  go_ret
  exact ⟨rfl, _, _, _, _, _, HST11.out, by omega, by omega, by omega⟩
end Go.Proofs.Ytgodidoibcomcaa.Bk

namespace Go.Proofs.Ytgodidoibcomcaa.Bk
open Go.RowKit Go.Proofs.Ytgodidoibcomcaa

/-- the same book, other lists handed out -/
def Book.later (β : Book) (v : Value) (x : Int) (l : List (Value × Value)) : Book := { β with vL := v, next := x, lists := l }

/-- the cells that lead to store k and to its reference -/
structure Leads (β : Book) (k : Nat) (p : Pr) (w : World) (gS cS gR cR : Nat) : Prop where
  s0 : w.cell? ⟨β.bk, 0, none⟩ = some (.slice (some ⟨gS, 0, none⟩) β.ps.length cS)
  s1 : w.cell? ⟨gS, k, none⟩ = some (.pointer (some ⟨p.sb, 0, none⟩))
  r0 : w.cell? ⟨β.bk, 1, none⟩ = some (.slice (some ⟨gR, 0, none⟩) β.ps.length cR)
  r1 : w.cell? ⟨gR, k, none⟩ = some (.pointer (some ⟨p.rb, 0, none⟩))
theorem Leads.below {β : Book} {k : Nat} {p : Pr} {w w' : World} {gS cS gR cR : Nat} (h : Leads β k p w gS cS gR cR) (hb : Below w.heap.size w w') : Leads β k p w' gS cS gR cR :=
  ⟨on_cell hb h.s0, on_cell hb h.s1, on_cell hb h.r0, on_cell hb h.r1⟩
theorem BookOk.leads {w0 : World} {τ : Own} {S : List Ent} {β : Book} {C : List Box} {w : World} (B : BookOk β C) (E : Env w0 τ w S [] C) {k : Nat} {p : Pr} (hp : β.ps[k]? = some p) : ∃ gS cS gR cR, β.vS = .slice (some ⟨gS, 0, none⟩) β.ps.length cS ∧ β.vR = .slice (some ⟨gR, 0, none⟩) β.ps.length cR ∧ Leads β k p w gS cS gR cR := by
  have hk := (List.getElem?_eq_some_iff.1 hp).1
  obtain ⟨hS0, -⟩ := E.cellAt B.head (j := 0) rfl
  obtain ⟨hR0, -⟩ := E.cellAt B.head (j := 1) rfl
  obtain ⟨gS, cS, hvS, hcS⟩ := B.st.cells E hk
  obtain ⟨gR, cR, hvR, hcR⟩ := B.rf.cells E hk
  have hS1 := hcS k (.pointer (some ⟨p.sb, 0, none⟩)) (by rw [List.getElem?_map, hp]; rfl)
  have hR1 := hcR k (.pointer (some ⟨p.rb, 0, none⟩)) (by rw [List.getElem?_map, hp]; rfl)
  rw [show (#[β.vS, β.vR, β.vL, Value.int .i64 β.next] : Array Value)[0] = β.vS from rfl, hvS] at hS0
  rw [show (#[β.vS, β.vR, β.vL, Value.int .i64 β.next] : Array Value)[1] = β.vR from rfl, hvR] at hR0
  exact ⟨gS, cS, gR, cR, hvS, hvR, hS0, hS1, hR0, hR1⟩

theorem BookOk.big {β : Book} {C : List Box} (B : BookOk β C) : ∀ x ∈ β.lists, ∀ a n c, x.1 = .slice a n c → n ≤ 9223372036854775807 := by
  intro x hx a n c e
  obtain ⟨xs, h1, -⟩ := B.kept x hx
  rcases h1 with ⟨_, ⟨h, _⟩ | ⟨g, cap, cur, h, _, h5, h6, _⟩⟩
  · rw [e] at h
    cases h
    omega
  · rw [e] at h
    cases h
    have : maxLen ≤ 9223372036854775807 := by unfold maxLen; omega
    omega

set_option maxHeartbeats 8000000 in
set_option maxRecDepth 8000 in
theorem whole_any {w0 : World} {τ : Own} {w : World} {β : Book} {C : List Box} (E : Env w0 τ w (ents β.ar β.ps) [] C) (B : BookOk β C) (hps : β.ps.length ≤ 200000) (hrows : ∀ p ∈ β.ps, p.rows.length ≤ 1100000) (h0 : 0 ≤ β.next) (hnx : β.next ≤ 10000000000000) (hll : β.lists.length ≤ 300000000000) :
    Calls Try.prog 28 #[.pointer (some ⟨β.bk, 0, none⟩)] w fun e w' => e = .returned (.bool true) ∧ Below w0.heap.size w0 w' := by
  obtain ⟨aS, cS, hvS⟩ := B.st.shape
  have HE := Lib.hid E
  have HST := Lib.hid (Step.refl E B)
  have HR := Lib.hid hrows
  have HvS := Lib.hid hvS
  obtain ⟨N, hN⟩ : ∃ n, β.ps.length = n := ⟨_, rfl⟩
  have HN := Lib.hid hN
  rw [hN] at hps
  clear E B hrows hvS hN
  go_enter Try.func28, Try.ntmps28
  go_wp2_with fail
  go_loopw [3] (fun i wr => ∃ (k : Nat) (vL : Value) (nx : Int) (ls : List (Value × Value)) (τr : Own) (Cr : List Box), k ≤ N ∧ i = .int .i64 k ∧ Hid (Step w0 β C w (β.later vL nx ls) τr Cr wr) ∧ β.next ≤ nx ∧ nx ≤ β.next + 27 * (k * 1100002 : Nat) ∧ ls.length ≤ β.lists.length + 6 * (k * 1100002)) (fun i _ => N - (intOf i).toNat)
  case atStart => exact ⟨0, β.vL, β.next, β.lists, τ, C, Nat.zero_le _, rfl, HST, Int.le_refl _, by omega, by omega⟩
  case round =>
    obtain ⟨k, vL, nx, ls, τr, Cr, hk, rfl, HSr, hn1, hn2, hl2⟩ := hrel
    by_cases hlt : k < N
    · obtain ⟨p, hp⟩ : ∃ p, β.ps[k]? = some p := ⟨_, List.getElem?_eq_getElem (by rw [HN.out]; exact hlt)⟩
      have mS : stE β.ar k p ∈ ents β.ar β.ps := mem_ents.2 ⟨k, p, hp, .inl rfl⟩
      have mR : rfE β.ar k p ∈ ents β.ar β.ps := mem_ents.2 ⟨k, p, hp, .inr rfl⟩
      have hpr := HR.out p (List.mem_of_getElem? hp)
      obtain ⟨gS, c1, gR, c2, -, -, hL⟩ := HSr.out.ok.leads HSr.out.E (k := k) (p := p) hp
      have d0 : wr.cell? ⟨β.bk, 0, none⟩ = some (.slice (some ⟨gS, 0, none⟩) N c1) := by rw [← HN.out]; exact hL.s0
      have d1 : wr.cell? ⟨gS, k, none⟩ = some (.pointer (some ⟨p.sb, 0, none⟩)) := hL.s1
      have d2 : wr.cell? ⟨β.bk, 1, none⟩ = some (.slice (some ⟨gR, 0, none⟩) N c2) := by rw [← HN.out]; exact hL.r0
      have d3 : wr.cell? ⟨gR, k, none⟩ = some (.pointer (some ⟨p.rb, 0, none⟩)) := hL.r1
      have cL1 := Lib.hid (env_len_rf HSr.out.E mR)
      have cL2 := Lib.hid (env_len_st HSr.out.E mS (by omega))
      obtain ⟨R, hR⟩ : ∃ R, p.rows.length = R := ⟨_, rfl⟩
      rw [hR] at cL1 cL2 hpr
      have Hp := Lib.hid hp
      clear hL hp
      go_upto_region 5 with (first | (go_at_call 56; refine cL1.out.mono ?_; rintro e w4 ⟨rfl, rfl⟩))
      go_wp2_with (first | (go_at_call 21; refine cL2.out.mono ?_; rintro e w5 ⟨rfl, rfl⟩))
      clear cL1 cL2 d0 d1 d2 d3
      go_loopw [5] (fun i wq => ∃ (j : Nat) (vL' : Value) (nx' : Int) (ls' : List (Value × Value)) (τq : Own) (Cq : List Box), j ≤ R + 2 ∧ i = .int .i64 ((j : Int) - 1) ∧ Hid (Step w0 β C w (β.later vL' nx' ls') τq Cq wq) ∧ nx ≤ nx' ∧ nx' ≤ nx + 27 * (j : Int) ∧ ls'.length ≤ ls.length + 6 * j) (fun i _ => (R + 1 - intOf i).toNat)
      case atStart => exact ⟨0, vL, nx, ls, τr, Cr, Nat.zero_le _, rfl, HSr, Int.le_refl _, by omega, by omega⟩
      case round =>
        obtain ⟨j, vL', nx', ls', τq, Cq, hj, rfl, HSq, hm1, hm2, hm3⟩ := hrel
        obtain ⟨wq, hwq⟩ : ∃ x, x = wr := ⟨_, rfl⟩
        subst hwq
        by_cases hjl : (j : Int) - 1 ≤ (R : Int)
        · have hd : decide ((j : Int) - 1 ≤ (R : Int)) = true := by simpa using hjl
          have cW := Lib.hid (row_any HSq.out.E HSq.out.ok (k := k) (p := p) Hp.out ((j : Int) - 1) (by show 0 ≤ nx'; omega) (by show nx' + 1000 ≤ _; omega) (by show (ls'.length + 10) * 48 ≤ _; omega))
          go_wp2_with (first | (go_at_call 55; refine cW.out.mono ?_; rintro e w6 ⟨rfl, τ6, C6, vL6, nx6, ls6, ST6, hl6, hx6, hy6⟩))
          have HS6 := Lib.hid (HSq.out.trans ST6 HE.out)
          clear ST6
          have hx6 : nx' ≤ nx6 := hx6
          have hy6 : nx6 ≤ nx' + 27 := hy6
          have hl6 : ls6.length = ls'.length + 6 := hl6
          go_roundw
          case rel => exact ⟨j + 1, vL6, nx6, ls6, τ6, C6, by omega, by go_num, HS6, by omega, by omega, by omega⟩
          case measure => simp [intOf]; omega
        · have hd : decide ((j : Int) - 1 ≤ (R : Int)) = false := by simpa using hjl
          obtain ⟨gS, c1, gR, c2, -, -, hL⟩ := HSq.out.ok.leads HSq.out.E (k := k) (p := p) Hp.out
          have d0 : wq.cell? ⟨β.bk, 0, none⟩ = some (.slice (some ⟨gS, 0, none⟩) N c1) := by rw [← HN.out]; exact hL.s0
          have d1 : wq.cell? ⟨gS, k, none⟩ = some (.pointer (some ⟨p.sb, 0, none⟩)) := hL.s1
          have d2 : wq.cell? ⟨β.bk, 1, none⟩ = some (.slice (some ⟨gR, 0, none⟩) N c2) := by rw [← HN.out]; exact hL.r0
          have d3 : wq.cell? ⟨gR, k, none⟩ = some (.pointer (some ⟨p.rb, 0, none⟩)) := hL.r1
          obtain ⟨aA, cA, vA, vB, hRf⟩ := HSq.out.E.ref mR
          have d4 := hRf.cells.1
          have h128 := hRf.preds
          simp only at d4 h128
          obtain ⟨na, hna⟩ : ∃ n, β.ar.length = n := ⟨_, rfl⟩
          have d4 : wq.cell? ⟨p.rb, 0, none⟩ = some (.slice aA na cA) := by rw [← hna]; exact d4
          have h128 : na ≤ 128 := by rw [← hna]; exact h128
          clear hL hRf hna
          go_wp2_with fail
          go_loopw [6] (fun i wz => ∃ q : Nat, q ≤ na ∧ i = .int .i64 q ∧ Below wq.heap.size wq wz) (fun i _ => na - (intOf i).toNat)
          case atStart => exact ⟨0, Nat.zero_le _, rfl, Below.refl _ _⟩
          case round =>
            obtain ⟨q, hq, rfl, hbz⟩ := hrel
            obtain ⟨wz, hwz⟩ : ∃ x, x = wr := ⟨_, rfl⟩
            subst hwz
            have z0 := on_cell hbz d0
            have z1 := on_cell hbz d1
            have z2 := on_cell hbz d2
            have z3 := on_cell hbz d3
            have z4 := on_cell hbz d4
            by_cases hqn : q < na
            · have cO1 := Lib.hid (fun (W : World) (hW : Below wz.heap.size wz W) => env_of_st ((HSq.out.E.stay hbz).stay hW) mS (by omega) (by omega) (q : Int) ⟨by omega, by omega⟩)
              have cO2 := Lib.hid (fun (W : World) (hW : Below wz.heap.size wz W) => env_of_rf ((HSq.out.E.stay hbz).stay hW) mR (q : Int))
              have hOl : (ofK p.rows (.int .i64 (q : Int))).length ≤ p.rows.length := idxL_length (fun r => Value.int .i64 (q : Int) = .int .i64 r.1) p.rows
              obtain ⟨O, hO⟩ : ∃ O, ofK p.rows (.int .i64 (q : Int)) = O := ⟨_, rfl⟩
              rw [hO] at cO1 cO2 hOl
              have hOr : O.length ≤ 1100000 := by omega
              clear hO
              go_wp2_with fail
              go_region_held3 (fun w' => Below wz.heap.size wz w' ∧ w'.cell? ⟨β.bk, 0, none⟩ = some (.slice (some ⟨gS, 0, none⟩) N c1) ∧ w'.cell? ⟨gS, k, none⟩ = some (.pointer (some ⟨p.sb, 0, none⟩)) ∧ w'.cell? ⟨β.bk, 1, none⟩ = some (.slice (some ⟨gR, 0, none⟩) N c2) ∧ w'.cell? ⟨gR, k, none⟩ = some (.pointer (some ⟨p.rb, 0, none⟩))) (first | assumption | exact ⟨(Below.refl _ _).drew, z0, z1, z2, z3⟩ | go_keep) (first
                | (go_at_call 36
                   have hH := (‹Below wz.heap.size wz _ ∧ _ ∧ _›)
                   with_reducible refine (cO1.out _ hH.1).mono ?_
                   rintro e v5 ⟨x5, rfl, hI5, hb5⟩
                   obtain ⟨a5, k5, rfl, hZ5⟩ := intsZ_of_row hI5
                   have hS5 : Below wz.heap.size wz v5 ∧ v5.cell? ⟨β.bk, 0, none⟩ = some (.slice (some ⟨gS, 0, none⟩) N c1) ∧ v5.cell? ⟨gS, k, none⟩ = some (.pointer (some ⟨p.sb, 0, none⟩)) ∧ v5.cell? ⟨β.bk, 1, none⟩ = some (.slice (some ⟨gR, 0, none⟩) N c2) ∧ v5.cell? ⟨gR, k, none⟩ = some (.pointer (some ⟨p.rb, 0, none⟩)) := ⟨hH.1.trans (hb5.mono hH.1.size), on_cell hb5 hH.2.1, on_cell hb5 hH.2.2.1, on_cell hb5 hH.2.2.2.1, on_cell hb5 hH.2.2.2.2⟩)
                | (go_at_call 57
                   have hH2 := hS5
                   with_reducible refine (cO2.out _ hH2.1).mono ?_
                   rintro e v6 ⟨x6, rfl, hI6, hb6⟩
                   obtain ⟨a6, k6, rfl, hZ6⟩ := intsZ_of_row hI6
                   have hS6 : Below wz.heap.size wz v6 ∧ v6.cell? ⟨β.bk, 0, none⟩ = some (.slice (some ⟨gS, 0, none⟩) N c1) ∧ v6.cell? ⟨gS, k, none⟩ = some (.pointer (some ⟨p.sb, 0, none⟩)) ∧ v6.cell? ⟨β.bk, 1, none⟩ = some (.slice (some ⟨gR, 0, none⟩) N c2) ∧ v6.cell? ⟨gR, k, none⟩ = some (.pointer (some ⟨p.rb, 0, none⟩)) := ⟨hH2.1.trans (hb6.mono hH2.1.size), on_cell hb6 hH2.2.1, on_cell hb6 hH2.2.2.1, on_cell hb6 hH2.2.2.2.1, on_cell hb6 hH2.2.2.2.2⟩
                   have hE6 := Lib.hid (equalInts_any a5 a6 k5 k6 O O v6 (hZ5.below hb6 (Nat.le_refl _)).ints hZ6.ints (by omega))
                   simp only [decide_true] at hE6)
                | (go_at_call 18
                   with_reducible refine hE6.out.mono ?_
                   rintro e v7 ⟨rfl, n7, rfl⟩
                   have hb7 := below_drewN (Below.refl v6.heap.size v6) n7
                   have hS7 : Below wz.heap.size wz (v6.drewN n7) ∧ (v6.drewN n7).cell? ⟨β.bk, 0, none⟩ = some (.slice (some ⟨gS, 0, none⟩) N c1) ∧ (v6.drewN n7).cell? ⟨gS, k, none⟩ = some (.pointer (some ⟨p.sb, 0, none⟩)) ∧ (v6.drewN n7).cell? ⟨β.bk, 1, none⟩ = some (.slice (some ⟨gR, 0, none⟩) N c2) ∧ (v6.drewN n7).cell? ⟨gR, k, none⟩ = some (.pointer (some ⟨p.rb, 0, none⟩)) := ⟨hS6.1.trans (hb7.mono hS6.1.size), on_cell hb7 hS6.2.1, on_cell hb7 hS6.2.2.1, on_cell hb7 hS6.2.2.2.1, on_cell hb7 hS6.2.2.2.2⟩))
              have hfin := hS7.1
              go_wp2_with fail
              go_roundw
              case rel => exact ⟨q + 1, by omega, by go_num, hbz.trans (hfin.mono hbz.size)⟩
              case measure => simp [intOf]; omega
            · go_wp2_with fail
              go_roundw
              case rel => exact ⟨k + 1, vL', nx', ls', τq, Cq, by omega, by go_num, Lib.hid ⟨HSq.out.E.stay hbz, HSq.out.ok, HSq.out.bk, HSq.out.ar, Nat.le_trans HSq.out.size hbz.size, HSq.out.old, HSq.out.gS, HSq.out.gR, HSq.out.gL, HSq.out.off⟩, by omega, by omega, by omega⟩
              case measure => simp [intOf]; omega
    · have d0 := (HSr.out.E.cellAt HSr.out.ok.head (j := 0) rfl).1
      have d0 : wr.cell? ⟨β.bk, 0, none⟩ = some (.slice aS N cS) := by rw [← HN.out, ← HvS.out]; exact d0
      have cK := Lib.hid (kept_any HSr.out.E HSr.out.ok (by show ls.length ≤ _; omega) HSr.out.ok.big)
      go_wp2_with (first | (go_at_call 27; refine cK.out.mono ?_; rintro e w9 ⟨rfl, hb9⟩))
      go_ret
      exact ⟨rfl, HSr.out.E.below.trans (hb9.mono HSr.out.E.below.size)⟩
end Go.Proofs.Ytgodidoibcomcaa.Bk
