/-
  What Copy makes: a store of another owner with the same rows.
-/
import Derived.Test.YtgodidoibcomcaaSEnv
namespace Go.Proofs.Ytgodidoibcomcaa
open Go.RowKit

/-- the store that comes of pushing rows one by one -/
def St.pushAll (σ : St) (l : List Row) : St := l.foldl St.push σ
theorem pushAll_snoc (σ : St) (l : List Row) (r : Row) : σ.pushAll (l ++ [r]) = (σ.pushAll l).push r := by
  unfold St.pushAll; rw [List.foldl_append]; rfl
theorem pushAll_facts (σ : St) (l : List Row) : (σ.pushAll l).rows = σ.rows ++ l ∧ (σ.pushAll l).ar = σ.ar ∧ (σ.pushAll l).births = σ.births + l.length ∧ (σ.pushAll l).lows = σ.lows := by
  induction l generalizing σ with
  | nil => simp [St.pushAll]
  | cons r l ih =>
    obtain ⟨h1, h2, h3, h4⟩ := ih (σ.push r)
    refine ⟨?_, h2, ?_, h4⟩
    · show ((σ.push r).pushAll l).rows = _
      rw [h1]; simp [St.push]
    · show ((σ.push r).pushAll l).births = _
      rw [h3]; simp [St.push]; omega
def copySt (σ : St) (l : List Row) : St := (⟨σ.ar, [], [], 0, []⟩ : St).pushAll l

theorem RowsPart.at3 {s sb : Nat} {σ : St} {h : Hd} {τ : Own} {w : World} (hs : StoreAt s sb σ h τ w) {i : Nat} {r : Row} (hr : σ.rows[i]? = some r) : ∃ g c a ca bt, h.vR = .slice (some ⟨g, 0, none⟩) σ.rows.length c ∧ σ.bs[i]? = some bt ∧ w.cell? ⟨g, i * 3, none⟩ = some (.int .i64 r.1) ∧ w.cell? ⟨g, i * 3 + 1, none⟩ = some (.slice a r.2.length ca) ∧ w.cell? ⟨g, i * 3 + 2, none⟩ = some (.int .i64 bt) ∧ IntsZ (Still s τ) w a ca r.2 := by
  obtain ⟨cs, ho, _, hc⟩ := hs.rows
  have hi := (List.getElem?_eq_some_iff.1 hr).1
  have hb : ∃ bt, σ.bs[i]? = some bt := ⟨σ.bs[i]'(by rw [hs.sound.born]; exact hi), List.getElem?_eq_getElem _⟩
  obtain ⟨bt, hb⟩ := hb
  obtain ⟨c1, ⟨a, ca, c2, hI⟩, c3⟩ := hc i r bt hr hb
  rcases owns_form ho with ⟨e, h0, _⟩ | ⟨g, cap, e, _, _, _, _, _, hcell, _⟩
  · omega
  · exact ⟨g, cap, a, ca, bt, e, hb, hcell _ _ c1, hcell _ _ c2, hcell _ _ c3, hI⟩

theorem nodup_new {l : List Row} {i : Nat} {r : Row} (hn : l.Nodup) (hr : l[i]? = some r) : r ∉ l.take i := fun h => by
  obtain ⟨j, hj⟩ := List.mem_iff_getElem?.1 h
  rw [List.getElem?_take] at hj
  split at hj
  · rename_i hlt
    have hji := (List.getElem?_inj (List.getElem?_eq_some_iff.1 hj).1 hn).1 (hj.trans hr.symm)
    omega
  · cases hj

set_option maxHeartbeats 4000000 in
set_option maxRecDepth 8000 in
theorem copy_any {s s' sb : Nat} {σ : St} {τ : Own} {w : World} (hs : IsStore s sb σ τ w) (hne : s ≠ s') (hB : σ.rows.length ≤ 1000000000) :
    Calls Try.prog 22 #[.pointer (some ⟨sb, 0, none⟩)] w fun e w' => ∃ cb τ', e = .returned (.pointer (some ⟨cb, 0, none⟩)) ∧ IsStore s' cb (copySt σ σ.rows) τ' w' ∧ Turn s' (fun _ => True) τ τ' w w' := by
  obtain ⟨h, hs⟩ := hs
  have hSo := Lib.hid hs.sound
  obtain ⟨aR, cR, hvR, hnR⟩ := hs.vR
  obtain ⟨c0, c1, c2, c3, c4, c5, c6, c7⟩ := hs.head.cells
  have cN := Lib.hid (new_any (s := s') h.aAr h.cAr σ.ar w hs.fresh hs.ar hs.sound.arity hs.sound.preds)
  have HS := Lib.hid hs
  have HVR := Lib.hid hvR
  rw [hvR] at c1
  clear hs c2 c3 c4 c5 c6 c7 hvR hnR
  go_enter Try.func22, Try.ntmps22
  go_wp2_with fail
  with_reducible refine cN.out.mono ?_
  rintro e w1 ⟨cb, τ1, rfl, hc1, T1, hb1⟩
  have HS1 := Lib.hid (And.intro (HS.out.kept T1 (.inl hne)) (And.intro hc1 (T1.mono (R' := fun _ => True) (fun _ _ => trivial))))
  have e1 := (HS1.out.1.head.cells).2.1
  rw [HVR.out] at e1
  clear hc1 T1 cN c0 c1 HS
  go_wp2_with fail
  go_loopw [22] (fun i wr => ∃ (k : Nat) (τr : Own), k ≤ σ.rows.length ∧ i = .int .i64 k ∧ Hid (StoreAt s sb σ h τr wr ∧ IsStore s' cb (copySt σ (σ.rows.take k)) τr wr ∧ Turn s' (fun _ => True) τ τr w wr)) (fun i _ => σ.rows.length - (intOf i).toNat)
  case atStart => exact ⟨0, τ1, Nat.zero_le _, rfl, HS1⟩
  case round =>
    obtain ⟨k, τr, hk, rfl, HP⟩ := hrel
    by_cases hlt : k < σ.rows.length
    · obtain ⟨⟨p, xs⟩, hx⟩ : ∃ r, σ.rows[k]? = some r := ⟨_, List.getElem?_eq_getElem hlt⟩
      obtain ⟨g, c, a, ca, bt, hv, _, d0, d1, d2, hI⟩ := RowsPart.at3 HP.out.1 hx
      rw [HVR.out] at hv
      simp only [Value.slice.injEq] at hv
      obtain ⟨rfl, _, rfl⟩ := hv
      have HX := Lib.hid hx
      have hbb : Below wr.heap.size wr (wr.alloc (.cells #[.int .i64 p, .slice a xs.length ca, .int .i64 bt] 88)) := (Below.refl _ _).alloc (Nat.le_refl _) _
      have Tb : Turn s' (fun _ => True) τr τr wr (wr.alloc (.cells #[.int .i64 p, .slice a xs.length ca, .int .i64 bt] 88)) := Turn.of_below hbb HP.out.1.fresh
      have hsn : copySt σ (σ.rows.take (k + 1)) = (copySt σ (σ.rows.take k)).push (p, xs) := by
        unfold copySt
        rw [take_snoc' hx, pushAll_snoc]
      obtain ⟨f1, f2, f3, _⟩ := pushAll_facts (⟨σ.ar, [], [], 0, []⟩ : St) (σ.rows.take k)
      simp only [List.nil_append, Nat.zero_add] at f1 f3
      obtain ⟨hc, hcs⟩ := HP.out.2.1.below hbb
      have hlk : (σ.rows.take k).length = k := by simp; omega
      have cP := Lib.hid (push_any hcs p a ca xs (hI.below hbb (Nat.le_refl _)) (by
        show FitsRow ((⟨σ.ar, [], [], 0, []⟩ : St).pushAll (σ.rows.take k)).ar _
        rw [f2]
        exact hSo.out.fits _ (List.mem_of_getElem? hx)) (by
        show _ ∉ ((⟨σ.ar, [], [], 0, []⟩ : St).pushAll (σ.rows.take k)).rows
        rw [f1]
        exact nodup_new hSo.out.once hx) (by
        show ((⟨σ.ar, [], [], 0, []⟩ : St).pushAll (σ.rows.take k)).births ≤ _
        rw [f3, hlk]
        omega))
      have HSn := Lib.hid hsn
      clear hx hI hcs f1 f2 f3 hsn hlk
      go_wp2_with fail
      with_reducible refine cP.out.mono ?_
      rintro e w2 ⟨rfl, τ2, hs2, T2⟩
      have HT := Lib.hid (Tb.trans T2)
      have HS2 := Lib.hid hs2
      clear hs2 T2 Tb hbb cP
      go_wp2_with fail
      go_roundw
      case rel => exact ⟨k + 1, τ2, by omega, by go_num, Lib.hid ⟨HP.out.1.kept HT.out (.inl hne), by rw [HSn.out]; exact HS2.out, HP.out.2.2.trans HT.out⟩⟩
      case measure => simp [intOf]; omega
    · have hke : k = σ.rows.length := by omega
      subst hke
      go_wp2_with fail
      go_ret
      refine ⟨cb, τr, rfl, ?_, HP.out.2.2⟩
      have := HP.out.2.1
      rw [List.take_length] at this
      exact this

section
variable {w0 : World} {τ : Own} {w : World} {S : List Ent} {L : List RSl} {C : List Box}
theorem env_copy {s s' sb : Nat} {ar : List Int} {rows : List Row} {ls : List (Nat × Int)} {n : Nat} (E : Env w0 τ w (⟨s, sb, ar, rows, ls, n⟩ :: S) L C) (h0 : s' ≠ boxS) (hne : s ≠ s') (hne2 : ∀ z ∈ S, z.s ≠ s') (hB : rows.length ≤ 1000000000) :
    Calls Try.prog 22 #[.pointer (some ⟨sb, 0, none⟩)] w fun e w' => ∃ cb τ', e = .returned (.pointer (some ⟨cb, 0, none⟩)) ∧ Env w0 τ' w' (⟨s', cb, ar, rows, [], rows.length⟩ :: ⟨s, sb, ar, rows, ls, n⟩ :: S) L C := by
  obtain ⟨σ, h1, h2, h3, h4, h5⟩ := E.st _ (List.mem_cons_self ..)
  simp only at h1 h2 h3 h4 h5
  subst h1; subst h2; subst h3
  refine (copy_any h5 hne hB).mono ?_
  rintro e w2 ⟨cb, τ', rfl, hs, ht⟩
  obtain ⟨f1, f2, f3, f4⟩ := pushAll_facts (⟨σ.ar, [], [], 0, []⟩ : St) σ.rows
  simp only [List.nil_append, Nat.zero_add] at f1 f3
  exact ⟨cb, τ', rfl, E.more ht h0 ⟨copySt σ σ.rows, f2, f1, f4, Nat.le_of_eq f3, hs⟩ (fun z hz => by
    rcases List.mem_cons.1 hz with rfl | hz
    · exact hne
    · exact hne2 z hz)⟩
end
end Go.Proofs.Ytgodidoibcomcaa
