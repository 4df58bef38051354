/-
  The law MatchOwn is proved: for every input the call returns true, and its arguments read behind it as they read before. No condition.
-/
import Derived.Test.YtkejjiohkhlnnaaZ9
import Derived.Deep.CutBlock
import Derived.Deep.RegionHeld3
import Derived.ProofKit
import Derived.OpenShut
import Derived.ShutString
import Derived.ChangeOld
import Derived.Below
import Derived.SizedLaws
import Derived.Lib.SmallJoins
namespace Go.Proofs.Ytkejjiohkhlnnaa
open Go.RowKit
namespace Mt

/-- the values us are the lists acc, each in a block of its own of [B, C) -/
structure ItemsV (B C : Nat) (us : List Value) (acc : List (List Int)) (w : World) : Prop where
  len : us.length = acc.length
  own : ∀ (i : Nat) xs, acc[i]? = some xs → ∃ u, us[i]? = some u ∧ w.ownsRow B 3 1 u xs.length (xs.map (Value.int .i64)) ∧ ∀ g, u.ownBlock = some g → g < C
  apart : ∀ (i j : Nat) u u', i < j → us[i]? = some u → us[j]? = some u' → ∀ g, u.ownBlock = some g → u'.ownBlock ≠ some g
section
variable {B B' C C' : Nat} {us vs : List Value} {acc bcc : List (List Int)} {w V : World}
theorem ItemsV.of_out {ob : Nat} {v : Value} (h : OutV ob v acc w) : ∃ us, w.ownsRow (ob + 1) 22 1 v acc.length us ∧ ItemsV (ob + 1) w.heap.size us acc w := by
  obtain ⟨hs, h1, h2, h3⟩ := h.row
  refine ⟨hs, h1, by simpa using h1.1, fun i xs hx => ?_, h3⟩
  obtain ⟨u, k1, k2, k3⟩ := h2 i xs hx
  exact ⟨u, k1, k2, fun g hg => (k2.lt g hg).2⟩
theorem ItemsV.keep (h : ItemsV B C us acc w) (hk : ∀ j cur, B ≤ j → j < C → w.heap[j]? = some (.cells cur 3 (0, 0)) → V.heap[j]? = w.heap[j]?) : ItemsV B C us acc V := by
  refine ⟨h.len, fun i xs hx => ?_, h.apart⟩
  obtain ⟨u, k1, k2, k3⟩ := h.own i xs hx
  refine ⟨u, k1, owns_block k2 (fun g hg => ?_), k3⟩
  obtain ⟨cur, hc⟩ := own_typ k2 hg
  exact hk g cur (k2.lt g hg).1 (k3 g hg) hc
theorem ItemsV.below (h : ItemsV B C us acc w) (hb : Below w.heap.size w V) : ItemsV B C us acc V :=
  h.keep fun j _ _ _ hc => hb.block j (Array.getElem?_eq_some_iff.1 hc).1
theorem ItemsV.low (h : ItemsV B C us acc w) (hB : B' ≤ B) (hC : C ≤ C') : ItemsV B' C' us acc w := by
  refine ⟨h.len, fun i xs hx => ?_, h.apart⟩
  obtain ⟨u, k1, k2, k3⟩ := h.own i xs hx
  exact ⟨u, k1, owns_base k2 hB, fun g hg => Nat.lt_of_lt_of_le (k3 g hg) hC⟩
theorem ItemsV.take (h : ItemsV B C us acc w) (n : Nat) : ItemsV B C (us.take n) (acc.take n) w := by
  refine ⟨by rw [List.length_take, List.length_take, h.len], fun i xs hx => ?_, fun i j u u' hij hu hu' => ?_⟩
  · rw [List.getElem?_take] at hx
    split at hx
    · obtain ⟨u, k1, k2⟩ := h.own i xs hx
      exact ⟨u, by rw [List.getElem?_take, if_pos (by assumption)]; exact k1, k2⟩
    · cases hx
  · rw [List.getElem?_take] at hu hu'
    split at hu'
    · rw [if_pos (by omega)] at hu
      exact h.apart i j u u' hij hu hu'
    · cases hu'
/-- two groups, the second behind the first -/
theorem ItemsV.app (h : ItemsV B C us acc w) (k : ItemsV C C' vs bcc w) (hB : B ≤ C) (hC : C ≤ C') : ItemsV B C' (us ++ vs) (acc ++ bcc) w := by
  refine ⟨by rw [List.length_append, List.length_append, h.len, k.len], fun i xs hx => ?_, fun i j u u' hij hu hu' g hg => ?_⟩
  · by_cases hi : i < acc.length
    · rw [List.getElem?_append_left hi] at hx
      obtain ⟨u, k1, k2⟩ := (h.low (Nat.le_refl _) hC).own i xs hx
      exact ⟨u, by rw [List.getElem?_append_left (by rw [h.len]; exact hi)]; exact k1, k2⟩
    · rw [List.getElem?_append_right (by omega)] at hx
      obtain ⟨u, k1, k2⟩ := (k.low hB (Nat.le_refl _)).own _ xs hx
      exact ⟨u, by rw [List.getElem?_append_right (by rw [h.len]; omega), h.len]; exact k1, k2⟩
  · by_cases hj : j < us.length
    · rw [List.getElem?_append_left hj] at hu'
      rw [List.getElem?_append_left (by omega)] at hu
      exact h.apart i j u u' hij hu hu' g hg
    · rw [List.getElem?_append_right (by omega)] at hu'
      by_cases hi : i < us.length
      · rw [List.getElem?_append_left hi] at hu
        intro e
        obtain ⟨u2, k1, -, k3⟩ := h.own i _ (List.getElem?_eq_getElem (by rw [← h.len]; exact hi))
        rw [hu] at k1
        cases k1
        have hj2 := (List.getElem?_eq_some_iff.1 hu').1
        obtain ⟨u3, l1, l2, -⟩ := k.own (j - us.length) _ (List.getElem?_eq_getElem (by rw [← k.len]; exact hj2))
        rw [hu'] at l1
        cases l1
        have := k3 g hg
        have := (l2.lt g e).1
        omega
      · rw [List.getElem?_append_right (by omega)] at hu
        exact k.apart _ _ u u' (by omega) hu hu' g hg
/-- a colour for each block: the item's number -/
theorem ItemsV.colour (h : ItemsV B C us acc w) : ∃ c : Nat → Nat, ∀ (i : Nat) u, us[i]? = some u → ∀ g, u.ownBlock = some g → c g = i := by
  refine ⟨fun g => us.findIdx (fun u => u.ownBlock == some g), fun i u hu g hg => ?_⟩
  have hi := (List.getElem?_eq_some_iff.1 hu).1
  have hui := (List.getElem?_eq_some_iff.1 hu).2
  have hlt : us.findIdx (fun u => u.ownBlock == some g) < us.length := List.findIdx_lt_length_of_exists ⟨u, List.mem_of_getElem? hu, by simp [hg]⟩
  have hp : (us[us.findIdx (fun u => u.ownBlock == some g)]).ownBlock = some g := by simpa using List.findIdx_getElem (w := hlt)
  rcases Nat.lt_trichotomy (us.findIdx (fun u => u.ownBlock == some g)) i with hl | he | hl
  · exact absurd hg (h.apart _ _ _ _ hl (List.getElem?_eq_getElem hlt) hu g hp)
  · exact he
  · exact absurd hp (h.apart _ _ _ _ hl hu (List.getElem?_eq_getElem hlt) g hg)
end
end Mt
end Go.Proofs.Ytkejjiohkhlnnaa

namespace Go.Proofs.Ytkejjiohkhlnnaa
open Go.RowKit
namespace Mt

/-- the variable at eb holds the slices hs -/
structure EBox (B eb : Nat) (ve : Value) (hs : List Value) (w : World) : Prop where
  box : w.heap[eb]? = some (.cells #[ve] 38 (0, 0))
  own : w.ownsRow B 22 1 ve hs.length hs
def KeptEnd (B eb : Nat) (ve : Value) (hs : List Value) (x : Value) (w : World) (e : Ending) (w' : World) : Prop :=
  ∃ ve', e = .returned (.bool (decide (hs.length + 1 < 40))) ∧ EBox B eb ve' (hs ++ [x]) w' ∧ (ve'.ownBlock = ve.ownBlock ∨ ∃ g, ve'.ownBlock = some g ∧ w.heap.size ≤ g) ∧ Chg eb ve.ownBlock w w'
set_option linter.unusedSimpArgs false in
set_option maxHeartbeats 4000000 in
theorem own1_any (B eb : Nat) (ve : Value) (hs : List Value) (a : Option Addr) (n c : Nat) (w : World) (h : EBox B eb ve hs w) (hB : B ≤ w.heap.size) (hl : hs.length ≤ 1000000) :
    Calls Try.prog 38 #[.slice a n c, .pointer (some ⟨eb, 0, none⟩)] w (KeptEnd B eb ve hs (.slice a n c) w) := by
  obtain ⟨hb, ho⟩ := h
  obtain ⟨va, vc, rfl⟩ := owns_shape' ho
  have e0 : w.cell? ⟨eb, 0, none⟩ = some (.slice va hs.length vc) := by simp [World.cell?, hb]
  have HB := Lib.hid hb
  have HO := Lib.hid ho
  obtain ⟨k, hk⟩ : ∃ k, k = hs.length := ⟨_, rfl⟩
  have HK := Lib.hid hk
  have hvb : (Value.slice va hs.length vc).ownBlock ≠ some eb := fun e => by
    obtain ⟨cur, hc⟩ := own_typ ho e
    exact typ_ne hc hb (by decide) rfl
  have hel := (Array.getElem?_eq_some_iff.1 hb).1
  clear hb ho
  rw [← hk] at e0 hl hvb HO ⊢
  clear hk
  go_enter Try.func38, Try.ntmps38
  go_upto_region 2 with (first | (at_builtin; refine wpList_append_any elemInts _ rfl _ _ rfl B _ k hs rfl (HO.out.alloc _) (some ⟨w.heap.size, 0, none⟩) 1 1 [.slice a n c] rfl (source_new _ _ _) rfl (by simp [Value.oneCell']) (by unfold maxLen; omega) (by omega) (by simp; omega) ?_; intro v' w2 hown2 hgrow2 hblk2; obtain ⟨va2, vc2, rfl⟩ := owns_shape' hown2; have hq2 : w2.heap[eb]? = some (.cells #[.slice va k vc] 38 (0, 0)) := (hgrow2.block eb (by simp; omega) (fun e => hvb e.symm)).trans (((Below.heap_alloc _ _ _ hel)).trans (by rw [HK.out]; exact HB.out)); have e2 : w2.cell? ⟨eb, 0, none⟩ = some (.slice va k vc) := (by simp [World.cell?, hq2]); have f2 : w2.frozen? ⟨eb, 0, none⟩ = false := (by simp [World.frozen?, hq2])))
  have hK : KeptEnd B eb (.slice va k vc) hs (.slice a n c) w (.returned (.bool (decide (k + 1 < 40)))) (w2.setCell ⟨eb, 0, none⟩ (.slice va2 (k + 1) vc2)) := by
    refine ⟨.slice va2 (k + 1) vc2, by rw [HK.out], ⟨by simpa using heap_setCell (j := 0) hq2 (.slice va2 (k + 1) vc2), ?_⟩, ?_, chg_push ((Below.refl _ _).alloc (Nat.le_refl _) _) hgrow2⟩
    · rw [List.length_append, ← HK.out]
      refine owns_block hown2 (fun g hg => Below.heap_setCell _ _ _ _ (fun e => ?_))
      obtain ⟨cur, hc⟩ := own_typ hown2 hg
      exact typ_ne hc hq2 (by decide) e
    · rcases hblk2 with h | h
      · exact .inl h
      · exact .inr ⟨_, h, by simp⟩
  have HKe := Lib.hid hK
  clear hK hown2 hgrow2 hblk2 HB HO HK hvb e0 hq2
  go_wp2_with fail
  go_ret
  have e : decide ((k : Int) + 1 < 40) = decide (k + 1 < 40) := by
    by_cases h : k + 1 < 40
    · rw [decide_eq_true h, decide_eq_true (by omega)]
    · rw [decide_eq_false h, decide_eq_false (by omega)]
  have h := HKe.out
  rw [← e] at h
  exact h
/-- what Each leaves, where the function keeps what it is handed -/
def EachO (srt : List (List Int)) (eb : Nat) (w : World) (e : Ending) (w' : World) : Prop := ∃ us ve, e = .returned (.int .i64 0) ∧ ItemsV w.heap.size w'.heap.size us srt w' ∧ EBox w.heap.size eb ve (us.take 40) w' ∧ Chg eb none w w'
set_option linter.unusedSimpArgs false in
set_option maxHeartbeats 8000000 in
set_option maxRecDepth 100000 in
theorem each_own (R : RuleV) (sb : Nat) (ca : Option Addr) (CN cc eb : Nat) (srt : List (List Int)) (w : World) (hA : ∀ W, Below w.heap.size w W → Calls Try.prog 14 #[.pointer (some ⟨sb, 0, none⟩), .slice ca CN cc, .agg R.cells] W (AllEnd srt W)) (hb : w.heap[eb]? = some (.cells #[.slice none 0 0] 38 (0, 0))) :
    Calls Try.prog 37 #[.pointer (some ⟨sb, 0, none⟩), .slice ca CN cc, .agg R.cells, .func (.func 38) #[] #[.pointer (some ⟨eb, 0, none⟩)]] w (EachO srt eb w) := by
  obtain ⟨W0, hW0⟩ : ∃ V, V = w.alloc (.cells R.cells 32) := ⟨_, rfl⟩
  have hb0 : Below w.heap.size w W0 := by rw [hW0]; exact (Below.refl _ _).alloc (Nat.le_refl _) _
  have cA := Lib.hid (hA W0 hb0)
  have hnf : ∀ w : World, (binOp .eql 84 (.func (.func 38) #[] #[.pointer (some ⟨eb, 0, none⟩)]) .nilFunc).run Try.prog w = .ok (.bool false) w := fun w => by kernel_rfl
  have HB := Lib.hid hb
  have HB0 := Lib.hid hb0
  unfold RuleV.cells at hW0 cA ⊢
  have HW0 := Lib.hid hW0
  clear hb hb0 hA hW0
  go_enter Try.func37, Try.ntmps37
  go_upto_region 2 with (first | (rw [← HW0.out]; fail) | (go_at_call 14; (try rw [← HW0.out]); (with_reducible refine cA.out.mono ?_); rintro e V ⟨v, ob, rfl, hO, hbV, hob⟩))
  obtain ⟨us, hus, hit⟩ := ItemsV.of_out hO
  obtain ⟨va, vc, rfl⟩ := owns_shape' hus
  have hz0 := HB0.out.size
  have hzV := hbV.size
  have hbw : Below w.heap.size w V := HB0.out.trans (hbV.mono hz0)
  have hbe : V.heap[eb]? = some (.cells #[.slice none 0 0] 38 (0, 0)) := (hbw.block eb (Array.getElem?_eq_some_iff.1 HB.out).1).trans HB.out
  have hel : eb < w.heap.size := (Array.getElem?_eq_some_iff.1 HB.out).1
  have HUS := Lib.hid hus
  have HIT := Lib.hid hit
  have HBW := Lib.hid hbw
  have HOB := Lib.hid hob
  have HBE : Hid (EBox w.heap.size eb (.slice none 0 0) [] V) := Lib.hid ⟨hbe, World.ownsRow_nil _ _ _ _⟩
  obtain ⟨N, hN⟩ : ∃ n, n = srt.length := ⟨_, rfl⟩
  have HN := Lib.hid hN
  rw [← hN] at HUS ⊢
  have HZ : Hid (w.heap.size ≤ V.heap.size ∧ w.heap.size ≤ ob ∧ eb < w.heap.size) := Lib.hid ⟨hbw.size, by omega, hel⟩
  clear hus hit hbw hbe hel hO hN hbV hob hz0 hzV cA HW0
  go_upto_block 0 with fail
  go_cut [] (fun w' => ∃ ve, Hid (EBox w.heap.size eb ve (us.take 40) w') ∧ Hid (Chg eb none V w'))
  case first =>
    go_wp2_with fail
    go_loopw [29] (fun t wr => ∃ (k : Nat) (ve : Value), t = .int .i64 k ∧ k ≤ N ∧ k < 40 ∧ Hid (EBox w.heap.size eb ve (us.take k) wr) ∧ Hid (Chg eb none V wr) ∧ Hid (∀ g, ve.ownBlock = some g → V.heap.size ≤ g)) (fun t _ => N - (intOf t).toNat)
    case atStart => exact ⟨0, _, rfl, Nat.zero_le _, by omega, by simpa using HBE, Lib.hid (Chg.below (Below.refl _ _)), Lib.hid (fun g h => by cases h)⟩
    case round =>
      clear HBE
      obtain ⟨k, ve, rfl, hkN, hk40, HE, HC, HV⟩ := hrel
      have hul : us.length = N := by rw [HIT.out.len, HN.out]
      by_cases hlt : k < N
      · obtain ⟨xs, hxs⟩ : ∃ xs, srt[k]? = some xs := ⟨_, List.getElem?_eq_getElem (by rw [← HN.out]; exact hlt)⟩
        obtain ⟨u, hu, hou, -⟩ := HIT.out.own k xs hxs
        obtain ⟨ua, uc, rfl⟩ := owns_shape' hou
        obtain ⟨g, rfl, hg0⟩ : ∃ g, va = some ⟨g, 0, none⟩ ∧ V.cell? ⟨g, k, none⟩ = some (.slice ua xs.length uc) := by
          rcases owns_form HUS.out with ⟨e, h0, _⟩ | ⟨g, cap, e, hbg, _, _, _, _, hc, _⟩
          · omega
          · cases e
            exact ⟨g, rfl, hc _ _ hu⟩
        have hge : g ≠ eb := fun e => by
          obtain ⟨cur, hc⟩ := own_typ HUS.out rfl
          have := (HUS.out.lt g rfl).1
          have := HZ.out
          omega
        have x1 : wr.cell? ⟨g, k, none⟩ = some (.slice ua xs.length uc) := (World.cell?_of_block (w := V) (HC.out.keep g (World.block_lt_of_cell? _ _ hg0) hge (by simp))).trans hg0
        have cK := Lib.hid (own1_any w.heap.size eb ve (us.take k) ua xs.length uc wr HE.out (Nat.le_trans HZ.out.1 HC.out.size) (by rw [List.length_take]; omega))
        have hkl : (us.take k).length = k := by rw [List.length_take, hul]; omega
        have HU := Lib.hid hu
        have HKL := Lib.hid hkl
        have HUL := Lib.hid hul
        have zk : (k : Int) < (N : Int) := by omega
        clear hxs hou hg0 hu hkl hul
        have HF : Hid (∀ V2 ve2, EBox w.heap.size eb ve2 (us.take k ++ [.slice ua xs.length uc]) V2 → (ve2.ownBlock = ve.ownBlock ∨ ∃ g, ve2.ownBlock = some g ∧ wr.heap.size ≤ g) → Chg eb ve.ownBlock wr V2 → EBox w.heap.size eb ve2 (us.take (k + 1)) V2 ∧ Chg eb none V V2 ∧ ∀ g, ve2.ownBlock = some g → V.heap.size ≤ g) := Lib.hid (fun V2 ve2 q1 q2 q3 => by
          have z := HC.out.size
          refine ⟨by rw [take_snoc' HU.out]; exact q1, ⟨q3.os.trans HC.out.os, q3.tape.trans HC.out.tape, q3.output.trans HC.out.output, Nat.le_trans z q3.size, fun j hj h1 _ => (q3.keep j (by omega) h1 (fun e => by have := HV.out j e; omega)).trans (HC.out.keep j hj h1 (by simp))⟩, fun g hg => ?_⟩
          rcases q2 with q2 | ⟨g', q2, q4⟩
          · rw [q2] at hg; exact HV.out g hg
          · rw [q2] at hg; cases hg; omega)
        by_cases h4 : k + 1 < 40
        · have hdec : decide (k + 1 < 40) = true := decide_eq_true h4
          have HD := Lib.hid hdec
          clear hdec
          go_wp2_with (first | (go_at_call 38; (with_reducible refine cK.out.mono ?_); rintro e V2 ⟨ve2, rfl, hE2, hve2, hC2⟩; rw [HKL.out, HD.out]; obtain ⟨r1, r2, r3⟩ := HF.out V2 ve2 hE2 hve2 hC2; have R1 := Lib.hid r1; have R2 := Lib.hid r2; have R3 := Lib.hid r3; clear r1 r2 r3 hE2 hve2 hC2))
          go_roundw
          case rel => exact ⟨k + 1, ve2, by go_num, by omega, h4, R1, R2, R3⟩
          case measure => simp [intOf]; omega
        · have hdec : decide (k + 1 < 40) = false := decide_eq_false h4
          have hk39 : k + 1 = 40 := by omega
          have HD := Lib.hid hdec
          have H39 := Lib.hid hk39
          clear hdec hk39
          go_wp2_with (first | (go_at_call 38; (with_reducible refine cK.out.mono ?_); rintro e V2 ⟨ve2, rfl, hE2, hve2, hC2⟩; rw [HKL.out, HD.out]; obtain ⟨r1, r2, r3⟩ := HF.out V2 ve2 hE2 hve2 hC2; have R1 := Lib.hid r1; have R2 := Lib.hid r2; have R3 := Lib.hid r3; clear r1 r2 r3 hE2 hve2 hC2))
          go_meet
          exact ⟨ve2, by rw [← H39.out]; exact R1, R2⟩
      · have hke : us.take k = us.take 40 := by rw [List.take_of_length_le (by omega), List.take_of_length_le (by omega)]
        have HE2 : Hid (EBox w.heap.size eb ve (us.take 40) wr) := Lib.hid (by rw [← hke]; exact HE.out)
        clear hke hul
        go_wp2_with fail
        go_meet
        exact ⟨ve, HE2, HC⟩
  case rest =>
    obtain ⟨ve, HE, HC⟩ := hcut
    go_wp2_with fail
    go_ret
    refine ⟨us, ve, rfl, (HIT.out.keep (fun j cur h1 h2 _ => HC.out.keep j h2 (by have := HZ.out; omega) (by simp))).low (by have := HZ.out; omega) HC.out.size, HE.out, Chg.trans_below HBW.out HC.out⟩
end Mt
end Go.Proofs.Ytkejjiohkhlnnaa

namespace Go.Proofs.Ytkejjiohkhlnnaa
open Go.RowKit
namespace Mt

section
variable {P : Program} {t e : TypeId} {z : Value} {size bytes : Nat}
theorem run_append_two (E : Elem P t e z size bytes) (w : World) (base : Nat) (ty : TypeId) (v : Value) (n : Nat) (xs : List Value) (hown : w.ownsRow base e size v n xs)
    (ad : Addr) (m c : Nat) (news : List Value) (hs : ∀ j u, news[j]? = some u → w.cell? (ad.add j) = some u) (hl : news.length = m * size) (h1 : ∀ u ∈ news, u.oneCell' = true)
    (h63 : n + m ≤ maxLen) (hbytes : (n + m) * bytes ≤ 140737488355328) (hbase : base ≤ w.heap.size) :
    ∃ v' w', (Builtin.append_ #[t, t] ty #[v, .slice (some ad) m c]).run P w = .ok v' w' ∧ w'.ownsRow base e size v' (n + m) (xs ++ news) ∧ ((∃ a cap, v = .slice a n cap ∧ v' = .slice a (n + m) cap ∧ w.grownBy w' v.ownBlock) ∨ (v'.ownBlock = some w.heap.size ∧ w.grownBy w' none)) := by
  obtain ⟨i, hi, hz0, hz1, hz2⟩ := info_parts E.info
  obtain ⟨v', w', hr, h2, h3, h4, -⟩ := run_append_own_at (P := P) w base t ty e i z size bytes E.ht hi hz0 hz1 hz2 E.zero E.pos v n xs hown ad m c news hl hs h1 h63 hbytes hbase
  refine ⟨v', w', hr, h2, ?_⟩
  have hsmall : n + m ≤ 9223372036854775807 := by simp only [maxLen] at h63; omega
  subst hz1
  subst hz2
  have new : ∀ o : Obj, w.grownBy (w.drew.alloc o) none := fun o => ⟨rfl, rfl, rfl, by simp, fun k hk _ => Below.heap_alloc w.drew o k hk⟩
  rcases hown.2 with ⟨rfl, rfl⟩ | ⟨g, cap, cur, rfl, hbg, hg, hnc, hcm, hcs, htake⟩
  · by_cases hm : m = 0
    · subst hm
      have := h4.2 ⟨rfl, rfl⟩
      subst this
      exact .inl ⟨none, 0, rfl, rfl, h3⟩
    · have hr2 := run_append_nil (P := P) w t ty e i z E.ht hi hz0 ad m c news hl hs (by omega) (by omega) (by have hb := hbytes; simp only [Nat.zero_add] at hb; omega)
      rw [hr] at hr2
      cases hr2
      exact .inr ⟨rfl, new _⟩
  · by_cases hroom : n + m ≤ cap
    · have hfit : n * i.size + news.length ≤ cur.size := by rw [hl, hcs, ← Nat.add_mul]; exact Nat.mul_le_mul_right _ hroom
      have hr2 := run_append_room (P := P) w t ty e i E.ht hi g n cap cur hg ad m c news hl hs h1 hroom hfit
      rw [hr] at hr2
      cases hr2
      exact .inl ⟨_, _, rfl, rfl, h3⟩
    · have holds : ∀ j u, xs[j]? = some u → w.cell? ((⟨g, 0, none⟩ : Addr).add j) = some u := hown.cells (g := g) rfl
      have hr2 := run_append_grow (P := P) w t ty e i z E.ht hi hz0 ⟨g, 0, none⟩ n cap xs hown.1 holds ad m c news hl hs (by omega) (by omega) (growslice_fits (by omega) hbytes)
      rw [hr] at hr2
      cases hr2
      exact .inr ⟨rfl, new _⟩

theorem wp_append_two (E : Elem P t e z size bytes) (w : World) {o : Oper} {a : Act} {K : Act → World → Prop} {Q : Exit → Act → World → Prop} (s x : Operand)
    (ho : o.op = .call { callee := .builtin .append, args := #[s, x], argTypes := #[t, t] })
    (base : Nat) (v : Value) (n : Nat) (xs : List Value) (hv : a.eval s = v) (hown : w.ownsRow base e size v n xs)
    (ad : Addr) (m c : Nat) (news : List Value) (hx : a.eval x = .slice (some ad) m c) (hs : ∀ j u, news[j]? = some u → w.cell? (ad.add j) = some u) (hl : news.length = m * size) (h1 : ∀ u ∈ news, u.oneCell' = true)
    (h63 : n + m ≤ maxLen) (hbytes : (n + m) * bytes ≤ 140737488355328) (hbase : base ≤ w.heap.size)
    (h : ∀ v' w', w'.ownsRow base e size v' (n + m) (xs ++ news) → ((∃ a cap, v = .slice a n cap ∧ v' = .slice a (n + m) cap ∧ w.grownBy w' v.ownBlock) ∨ (v'.ownBlock = some w.heap.size ∧ w.grownBy w' none)) → K (a.put o.dst v') w') : o.wp P a w K Q := by
  obtain ⟨v', w', hr, h2, h3⟩ := run_append_two E w base o.type v n xs hown ad m c news hs hl h1 h63 hbytes hbase
  unfold Oper.wp execOp
  simp only [ho, resolve, invoke, builtin, Sem.run_bind, Sem.run_pure, Result.andThen_ok, List.map_toArray, List.map_cons, List.map_nil, hv, hx, hr]
  exact h v' w' h2 h3
theorem wpList_append_two (E : Elem P t e z size bytes) (w : World) {ops : Array Oper} {rest : List Oper} {o : Oper} {a : Act} {Q : Exit → Act → World → Prop} (hgd : o.guard = none) (s x : Operand)
    (ho : o.op = .call { callee := .builtin .append, args := #[s, x], argTypes := #[t, t] })
    (base : Nat) (v : Value) (n : Nat) (xs : List Value) (hv : a.eval s = v) (hown : w.ownsRow base e size v n xs)
    (ad : Addr) (m c : Nat) (news : List Value) (hx : a.eval x = .slice (some ad) m c) (hs : ∀ j u, news[j]? = some u → w.cell? (ad.add j) = some u) (hl : news.length = m * size) (h1 : ∀ u ∈ news, u.oneCell' = true)
    (h63 : n + m ≤ maxLen) (hbytes : (n + m) * bytes ≤ 140737488355328) (hbase : base ≤ w.heap.size)
    (h : ∀ v' w', w'.ownsRow base e size v' (n + m) (xs ++ news) → ((∃ a cap, v = .slice a n cap ∧ v' = .slice a (n + m) cap ∧ w.grownBy w' v.ownBlock) ∨ (v'.ownBlock = some w.heap.size ∧ w.grownBy w' none)) → wpList P ops Q rest (a.put o.dst v') w') : wpList P ops Q (o :: rest) a w :=
  wpList_plain hgd fun _ hK => wp_append_two E w s x ho base v n xs hv hown ad m c news hx hs hl h1 h63 hbytes hbase fun v' w' h2 h3 => hK _ _ (h v' w' h2 h3)
end
end Mt
end Go.Proofs.Ytkejjiohkhlnnaa

namespace Go.Proofs.Ytkejjiohkhlnnaa
open Go.RowKit
namespace Mt

def vI (k : Nat) : Value := .int .i64 (-10 - (k : Int))
/-- what stands between the rounds of the write loop: P0 is the world at its start, c the colour of a block -/
structure WrSt (P0 : World) (c : Nat → Nat) (us : List Value) (ns : List Nat) (mv : Value) (ms : List Value) (i : Nat) (w : World) : Prop where
  os : w.os = P0.os
  tape : w.tape = P0.tape
  output : w.output = P0.output
  size : P0.heap.size ≤ w.heap.size
  keep : ∀ j, j < P0.heap.size → (∀ (k : Nat) u, us[k]? = some u → u.ownBlock ≠ some j) → w.heap[j]? = P0.heap[j]?
  len : us.length = ns.length ∧ ms.length = i
  left : ∀ (k : Nat) u n, us[k]? = some u → ns[k]? = some n → ∃ xs, w.ownsRow 0 3 1 u n xs ∧ (k < i → xs = List.replicate n (vI k)) ∧ ∀ g, u.ownBlock = some g → c g = k
  done : ∀ (k : Nat) m n, ms[k]? = some m → ns[k]? = some n → w.ownsRow 0 3 1 m (n + 1) (List.replicate (n + 1) (vI k)) ∧ ∀ g, m.ownBlock = some g → c g = k
  mown : w.ownsRow P0.heap.size 22 1 mv i ms
/-- a cell of a row of integers is written -/
theorem own_int {w : World} {B g n cap : Nat} {xs : List Value} {j : Nat} (x : Value) (h : w.ownsRow B 3 1 (.slice (some ⟨g, 0, none⟩) n cap) n xs) : (w.setCell ⟨g, j, none⟩ x).ownsRow B 3 1 (.slice (some ⟨g, 0, none⟩) n cap) n (xs.set j x) := by
  obtain ⟨h0, h1⟩ := h
  refine ⟨by rw [List.length_set]; exact h0, ?_⟩
  rcases h1 with ⟨e, _⟩ | ⟨g', cap', cur, e, hb, hc, hnc, hcm, hsz, ht⟩
  · cases e
  · cases e
    refine .inr ⟨g, cap, cur.setIfInBounds j x, rfl, hb, heap_setCell (j := j) hc x, hnc, hcm, by simpa using hsz, ?_⟩
    rw [Array.toList_setIfInBounds, List.take_set, ht]
/-- a row's front is a row -/
theorem own_front {w : World} {B m n cap : Nat} {a : Option Addr} {xs : List Value} (h : w.ownsRow B 3 1 (.slice a (n + m) cap) (n + m) xs) (ha : a ≠ none) : w.ownsRow B 3 1 (.slice a n cap) n (xs.take n) := by
  obtain ⟨h0, h1⟩ := h
  refine ⟨by rw [List.length_take]; omega, ?_⟩
  rcases h1 with ⟨e, _⟩ | ⟨g', cap', cur, e, hb, hc, hnc, hcm, hsz, ht⟩
  · injection e with e _ _; exact absurd e ha
  · injection e with e _ e3
    subst e e3
    refine .inr ⟨g', cap, cur, rfl, hb, hc, by omega, hcm, hsz, ?_⟩
    rw [← ht, List.take_take]
    congr 1
    omega
section
variable {P0 w V : World} {c : Nat → Nat} {us ms : List Value} {ns : List Nat} {mv : Value} {i : Nat}
theorem WrSt.below (h : WrSt P0 c us ns mv ms i w) (hb : Below w.heap.size w V) : WrSt P0 c us ns mv ms i V := by
  refine ⟨hb.os.trans h.os, hb.tape.trans h.tape, hb.output.trans h.output, Nat.le_trans h.size hb.size, fun j hj hn => (hb.block j (Nat.lt_of_lt_of_le hj h.size)).trans (h.keep j hj hn), h.len, fun k u n hu hn => ?_, fun k m n hm hn => ?_, owns_below h.mown hb (Nat.le_refl _)⟩
  · obtain ⟨xs, k1, k2⟩ := h.left k u n hu hn
    exact ⟨xs, owns_below k1 hb (Nat.le_refl _), k2⟩
  · obtain ⟨k1, k2⟩ := h.done k m n hm hn
    exact ⟨owns_below k1 hb (Nat.le_refl _), k2⟩
/-- what a change leaves of the state, where it turns only blocks of colour i, and the new ones; item i's own rows aside -/
theorem WrSt.other (h : WrSt P0 c us ns mv ms i w) {tb : Nat} (_ : w.heap.size ≤ V.heap.size) (_ : V.os = w.os ∧ V.tape = w.tape ∧ V.output = w.output) (hk : ∀ j, j < w.heap.size → j ≠ tb → V.heap[j]? = w.heap[j]?) {k : Nat} (hck : c tb = i) (hki : k ≠ i) :
    (∀ u n, us[k]? = some u → ns[k]? = some n → ∃ xs, V.ownsRow 0 3 1 u n xs ∧ (k < i → xs = List.replicate n (vI k)) ∧ ∀ g, u.ownBlock = some g → c g = k) ∧ (∀ m n, ms[k]? = some m → ns[k]? = some n → V.ownsRow 0 3 1 m (n + 1) (List.replicate (n + 1) (vI k)) ∧ ∀ g, m.ownBlock = some g → c g = k) := by
  refine ⟨fun u n hu hn => ?_, fun m n hm hn => ?_⟩
  · obtain ⟨xs, k1, k2, k3⟩ := h.left k u n hu hn
    exact ⟨xs, owns_block k1 (fun g hg => hk g (k1.lt g hg).2 (fun e => by have := k3 g hg; rw [e, hck] at this; exact hki this.symm)), k2, k3⟩
  · obtain ⟨k1, k2⟩ := h.done k m n hm hn
    exact ⟨owns_block k1 (fun g hg => hk g (k1.lt g hg).2 (fun e => by have := k2 g hg; rw [e, hck] at this; exact hki this.symm)), k2⟩
/-- a store into item i's block -/
theorem WrSt.write (h : WrSt P0 c us ns mv ms i w) {g n cap j : Nat} (hu : us[i]? = some (.slice (some ⟨g, 0, none⟩) n cap)) (hn : ns[i]? = some n) (x : Value) : WrSt P0 c us ns mv ms i (w.setCell ⟨g, j, none⟩ x) := by
  obtain ⟨ys, k1, -, k3⟩ := h.left i _ n hu hn
  have hcg : c g = i := k3 g rfl
  obtain ⟨cur, hcur⟩ := own_typ k1 (g := g) rfl
  have hks : ∀ j', j' < w.heap.size → j' ≠ g → (w.setCell ⟨g, j, none⟩ x).heap[j']? = w.heap[j']? := fun j' _ hne => Below.heap_setCell _ _ _ _ (fun e => hne e)
  have O := fun k hk => h.other (k := k) (V := w.setCell ⟨g, j, none⟩ x) (by simp) ⟨rfl, rfl, rfl⟩ hks hcg hk
  refine ⟨h.os, h.tape, h.output, by simpa using h.size, fun j' hj hn' => (hks j' (Nat.lt_of_lt_of_le hj h.size) (fun e => hn' i _ hu (by rw [e]; rfl))).trans (h.keep j' hj hn'), h.len, fun k u n' hu' hn' => ?_, fun k m n' hm hn' => ?_, ?_⟩
  · by_cases hk : k = i
    · subst hk
      rw [hu] at hu'
      rw [hn] at hn'
      cases hu'
      cases hn'
      exact ⟨_, own_int x k1, fun h => absurd h (Nat.lt_irrefl _), k3⟩
    · exact (O k hk).1 u n' hu' hn'
  · have := (List.getElem?_eq_some_iff.1 hm).1
    have := h.len.2
    exact (O k (by omega)).2 m n' hm hn'
  · refine owns_block h.mown (fun g' hg' => hks g' (h.mown.lt g' hg').2 ?_)
    obtain ⟨cur2, hc2⟩ := own_typ h.mown hg'
    exact typ_ne hc2 hcur (by decide)
/-- the append of one more, and more's own append -/
theorem WrSt.push (h : WrSt P0 c us ns mv ms i w) {u m mv' : Value} {n : Nat} {V0 V1 V2 V3 : World} (hu : us[i]? = some u) (hn : ns[i]? = some n) (hr : w.ownsRow 0 3 1 u n (List.replicate n (vI i))) (hb : Below w.heap.size w V0) (hm : V1.ownsRow 0 3 1 m (n + 1) (List.replicate n (vI i) ++ [vI i]))
    (hc : (∃ a cap, u = .slice a n cap ∧ m = .slice a (n + 1) cap ∧ V0.grownBy V1 u.ownBlock) ∨ (m.ownBlock = some V0.heap.size ∧ V0.grownBy V1 none)) (hb2 : Below V1.heap.size V1 V2) (hg : V2.grownBy V3 mv.ownBlock) (hmv : V3.ownsRow P0.heap.size 22 1 mv' (i + 1) (ms ++ [m])) :
    ∃ c', WrSt P0 c' us ns mv' (ms ++ [m]) (i + 1) V3 := by
  obtain ⟨ys, -, -, hcu⟩ := h.left i u n hu hn
  have hz0 := hb.size
  have hz2 := hb2.size
  have hz3 := hg.size
  have hsV : V0.heap.size ≤ V1.heap.size ∧ V1.os = V0.os ∧ V1.tape = V0.tape ∧ V1.output = V0.output := by
    rcases hc with ⟨a, cap, -, -, q⟩ | ⟨-, q⟩ <;> exact ⟨q.size, q.os, q.tape, q.output⟩
  -- a block of integers of w keeps, where it is not u's
  have K : ∀ g cur, w.heap[g]? = some (.cells cur 3 (0, 0)) → u.ownBlock ≠ some g → V3.heap[g]? = w.heap[g]? := fun g cur hcur hne => by
    have hgl := (Array.getElem?_eq_some_iff.1 hcur).1
    have e1 : V1.heap[g]? = w.heap[g]? := by
      rcases hc with ⟨a, cap, -, -, q⟩ | ⟨-, q⟩
      · exact (q.block g (by omega) hne.symm).trans (hb.block g hgl)
      · exact (q.block g (by omega) (by simp)).trans (hb.block g hgl)
    have hnm : mv.ownBlock ≠ some g := fun e => by
      obtain ⟨cur2, hc2⟩ := own_typ h.mown e
      exact typ_ne hc2 hcur (by decide) rfl
    exact (hg.block g (by omega) hnm.symm).trans ((hb2.block g (by omega)).trans e1)
  have E1 : ∀ (g : Nat), g < w.heap.size → u.ownBlock ≠ some g → V1.heap[g]? = w.heap[g]? := fun g hgl hne => by
    rcases hc with ⟨a, cap, -, -, q⟩ | ⟨-, q⟩
    · exact (q.block g (by omega) hne.symm).trans (hb.block g hgl)
    · exact (q.block g (by omega) (by simp)).trans (hb.block g hgl)
  have K1 : ∀ (g : Nat) (cur : Array Value), V1.heap[g]? = some (.cells cur 3 (0, 0)) → V3.heap[g]? = V1.heap[g]? := fun g cur hcur => by
    have hgl := (Array.getElem?_eq_some_iff.1 hcur).1
    have hnm : mv.ownBlock ≠ some g := fun e => by
      obtain ⟨cur2, hc2⟩ := own_typ h.mown e
      have hu2 : u.ownBlock ≠ some g := fun e2 => by
        obtain ⟨cur3, hc3⟩ := own_typ hr e2
        exact typ_ne hc2 hc3 (by decide) rfl
      have := E1 g (h.mown.lt g e).2 hu2
      rw [hc2] at this
      rw [this] at hcur
      cases hcur
    exact (hg.block g (by omega) hnm.symm).trans (hb2.block g hgl)
  have hmi : ∀ g, m.ownBlock = some g → u.ownBlock = some g ∨ w.heap.size ≤ g := fun g e => by
    rcases hc with ⟨a, cap, e1, e2, -⟩ | ⟨e1, -⟩
    · refine .inl ?_
      subst e1 e2
      cases a <;> exact e
    · rw [e1] at e; cases e; exact .inr hz0
  have hm3 : V3.ownsRow 0 3 1 m (n + 1) (List.replicate n (vI i) ++ [vI i]) := owns_block hm (fun g e => by obtain ⟨cur, hcur⟩ := own_typ hm e; exact K1 g cur hcur)
  have hu3 : V3.ownsRow 0 3 1 u n (List.replicate n (vI i)) := by
    rcases hc with ⟨a, cap, rfl, rfl, -⟩ | ⟨-, q⟩
    · have hane : a ≠ none := fun e => by
        subst e
        rcases hm.2 with ⟨e, _⟩ | ⟨g', cap', cur, e, _⟩
        · injection e with _ e _; omega
        · cases e
      have := own_front (m := 1) hm3 hane
      rwa [List.take_left' (by simp)] at this
    · refine owns_block hr (fun g e => ?_)
      obtain ⟨cur, hcur⟩ := own_typ hr e
      have e1 : V1.heap[g]? = w.heap[g]? := (q.block g (by have := (hr.lt g e).2; omega) (by simp)).trans (hb.block g (hr.lt g e).2)
      exact (K1 g cur (e1.trans hcur)).trans e1
  have C : ∀ g k, g < w.heap.size → c g = k → k ≠ i → (if m.ownBlock = some g then i else c g) = k := fun g k hgl hgk hki => by
    rw [if_neg (fun e => ?_)]
    · exact hgk
    · rcases hmi g e with e | e
      · rw [hcu g e] at hgk; exact hki hgk.symm
      · omega
  have N : ∀ g k, c g = k → k ≠ i → u.ownBlock ≠ some g := fun g k hgk hki e => hki (by rw [← hgk]; exact hcu g e)
  have hle := h.len
  refine ⟨fun g => if m.ownBlock = some g then i else c g, hg.os.trans (hb2.os.trans (hsV.2.1.trans (hb.os.trans h.os))), hg.tape.trans (hb2.tape.trans (hsV.2.2.1.trans (hb.tape.trans h.tape))), hg.output.trans (hb2.output.trans (hsV.2.2.2.trans (hb.output.trans h.output))), by have := h.size; omega, fun j hj hn' => ?_, ⟨hle.1, by rw [List.length_append, hle.2]; rfl⟩, fun k u' n' hu' hn' => ?_, fun k m' n' hm' hn' => ?_, hmv⟩
  · have z := h.size
    have hnm : mv.ownBlock ≠ some j := fun e => by have := (h.mown.lt j e).1; omega
    exact (hg.block j (by omega) hnm.symm).trans ((hb2.block j (by omega)).trans ((E1 j (by omega) (hn' i u hu)).trans (h.keep j hj hn')))
  · by_cases hk : k = i
    · subst hk
      rw [hu] at hu'
      rw [hn] at hn'
      cases hu'
      cases hn'
      exact ⟨_, hu3, fun _ => rfl, fun g e => by
        by_cases hq : m.ownBlock = some g
        · rw [if_pos hq]
        · rw [if_neg hq]; exact hcu g e⟩
    · obtain ⟨xs, k1, k2, k3⟩ := h.left k u' n' hu' hn'
      exact ⟨xs, owns_block k1 (fun g e => by obtain ⟨cur, hcur⟩ := own_typ k1 e; exact K g cur hcur (N g k (k3 g e) hk)), fun hl => k2 (by omega), fun g e => C g k (k1.lt g e).2 (k3 g e) hk⟩
  · by_cases hk : k < i
    · rw [List.getElem?_append_left (by omega)] at hm'
      obtain ⟨k1, k3⟩ := h.done k m' n' hm' hn'
      exact ⟨owns_block k1 (fun g e => by obtain ⟨cur, hcur⟩ := own_typ k1 e; exact K g cur hcur (N g k (k3 g e) (by omega))), fun g e => C g k (k1.lt g e).2 (k3 g e) (by omega)⟩
    · have hki : k = i := by
        have := (List.getElem?_eq_some_iff.1 hm').1
        rw [List.length_append] at this
        simp at this
        omega
      subst hki
      rw [List.getElem?_append_right (by omega), hle.2, Nat.sub_self] at hm'
      rw [hn] at hn'
      cases hm'
      cases hn'
      exact ⟨by rw [List.replicate_succ']; exact hm3, fun g e => if_pos e⟩
end
end Mt
end Go.Proofs.Ytkejjiohkhlnnaa

namespace Go.Proofs.Ytkejjiohkhlnnaa
open Go.RowKit
namespace Mt

/-- the cells of rows whose lists' addresses are known -/
abbrev RowA := Row × Option Addr × Nat
def rowCells (l : List RowA) : List Value := l.flatMap fun r => [.int .i64 r.1.1, .slice r.2.1 r.1.2.length r.2.2]
theorem rowCells_length (l : List RowA) : (rowCells l).length = l.length * 2 := by
  induction l with
  | nil => rfl
  | cons t l ih => simp only [rowCells, List.flatMap_cons, List.length_append, List.length_cons, List.length_nil] at ih ⊢; omega
theorem rowCells_at (l : List RowA) (i : Nat) (h : i < l.length) : (rowCells l)[i * 2]? = some (.int .i64 l[i].1.1) ∧ (rowCells l)[i * 2 + 1]? = some (.slice l[i].2.1 l[i].1.2.length l[i].2.2) := by
  induction l generalizing i with
  | nil => simp at h
  | cons c l ih =>
    cases i with
    | zero => simp [rowCells]
    | succ i =>
      have := ih i (by simpa using h)
      have e : (i + 1) * 2 = i * 2 + 1 + 1 := by omega
      rw [e]
      simpa [rowCells] using this
theorem rowCells_one (l : List RowA) : ∀ u ∈ rowCells l, u.oneCell' = true := by
  intro u hu
  obtain ⟨r, hr, hu⟩ := List.mem_flatMap.1 hu
  simp at hu
  rcases hu with rfl | rfl <;> rfl
/-- the rows read so far, each with its list in a block that is not the row's own -/
structure RwSt (B : Nat) (rv : Value) (la : List RowA) (w : World) : Prop where
  own : w.ownsRow B 50 2 rv la.length (rowCells la)
  ints : ∀ r ∈ la, IntsZ (fun j => B ≤ j ∧ rv.ownBlock ≠ some j) w r.2.1 r.2.2 r.1.2
section
variable {B : Nat} {rv rv' : Value} {la : List RowA} {w V V0 V1 : World}
theorem RwSt.nil (B : Nat) (w : World) : RwSt B (.slice none 0 0) [] w := ⟨World.ownsRow_nil _ _ _ _, fun r hr => by cases hr⟩
theorem RwSt.below (h : RwSt B rv la w) (hb : Below w.heap.size w V) : RwSt B rv la V := ⟨owns_below h.own hb (Nat.le_refl _), fun r hr => (h.ints r hr).below hb (Nat.le_refl _)⟩
theorem RwSt.push (h : RwSt B rv la w) (hBw : B ≤ w.heap.size) (hb : Below w.heap.size w V0) {r : RowA} (hr : IntsZ (fun j => w.heap.size ≤ j) V0 r.2.1 r.2.2 r.1.2) (hg : V0.grownBy V1 rv.ownBlock) (hv : V1.ownsRow B 50 2 rv' (la.length + 1) (rowCells la ++ rowCells [r])) (ho : rv'.ownBlock = rv.ownBlock ∨ rv'.ownBlock = some V0.heap.size) : RwSt B rv' (la ++ [r]) V1 := by
  have hz := hb.size
  have hn : ∀ j, j < V0.heap.size → rv.ownBlock ≠ some j → rv'.ownBlock ≠ some j := fun j hj hne e => by
    rcases ho with ho | ho
    · rw [ho] at e; exact hne e
    · rw [ho] at e; cases e; omega
  refine ⟨by rw [List.length_append, show rowCells (la ++ [r]) = rowCells la ++ rowCells [r] by simp [rowCells]]; exact hv, fun x hx => ?_⟩
  rcases List.mem_append.1 hx with hx | hx
  · exact ((h.ints x hx).below hb (Nat.le_refl _)).keep (fun j hj hZ => hg.block j hj (fun e => hZ.2 e.symm)) (fun j hj hZ => ⟨hZ.1, hn j hj hZ.2⟩)
  · rw [List.mem_singleton] at hx
    subst hx
    have hne : ∀ j, w.heap.size ≤ j → rv.ownBlock ≠ some j := fun j hj e => by
      have := (h.own.lt j e).2
      omega
    exact hr.keep (fun j hj hZ => hg.block j hj (fun e => hne j hZ e.symm)) (fun j hj hZ => ⟨by omega, hn j hj (hne j hZ)⟩)
end
end Mt
end Go.Proofs.Ytkejjiohkhlnnaa

namespace Go.Proofs.Ytkejjiohkhlnnaa
open Go.RowKit
namespace Mt

section
variable {B C Bo : Nat} {us os : List Value} {acc : List (List Int)} {w V V0 V1 V2 P0 : World} {v v' : Value}
theorem ItemsV.lists (h : ItemsV B C us acc w) {n c : Nat} {a : Option Addr} (ho : w.ownsRow Bo 22 1 (.slice a n c) acc.length us) : ListsV w a acc := by
  rcases owns_form ho with ⟨_, h0, _⟩ | ⟨g, cap, e, _, _, _, _, _, hc, _⟩
  · exact .inl (List.eq_nil_of_length_eq_zero h0)
  · cases e
    refine .inr ⟨g, 0, rfl, fun i l hl => ?_⟩
    obtain ⟨u, k1, k2, k3⟩ := h.own i l hl
    obtain ⟨ai, ci, rfl⟩ := owns_shape' k2
    exact ⟨ai, ci, by simpa using hc i _ k1, (intsZ_of_row k2).ints⟩
theorem ItemsV.typ (h : ItemsV B C us acc w) {k g : Nat} {u : Value} (hu : us[k]? = some u) (hg : u.ownBlock = some g) : ∃ cur, w.heap[g]? = some (.cells cur 3 (0, 0)) ∧ B ≤ g ∧ g < C := by
  obtain ⟨u', k1, k2, k3⟩ := h.own k _ (List.getElem?_eq_getElem (by rw [← h.len]; exact (List.getElem?_eq_some_iff.1 hu).1))
  rw [hu] at k1
  cases k1
  obtain ⟨cur, hc⟩ := own_typ k2 hg
  exact ⟨cur, hc, (k2.lt g hg).1, k3 g hg⟩
/-- a row of one's own, as the source of an append -/
theorem own_source {e size n c : Nat} {a : Option Addr} {xs : List Value} (h : w.ownsRow Bo e size (.slice a n c) n xs) : Source w a n c xs := by
  rcases owns_form h with ⟨e, h0, h1⟩ | ⟨g, cap, e, hb, _, _, _, _, hc, _⟩
  · cases e
    exact .inl ⟨rfl, rfl, rfl, h1⟩
  · cases e
    refine .inr ⟨_, rfl, fun j u hu => ?_⟩
    have e : (⟨g, 0, none⟩ : Addr).add j = ⟨g, j, none⟩ := by unfold Addr.add; split <;> simp_all
    rw [e]
    exact hc j u hu
theorem own_empty (w : World) : (w.alloc (.cells #[] 3)).ownsRow w.heap.size 3 1 (.slice (some ⟨w.heap.size, 0, none⟩) 0 0) 0 [] :=
  ⟨rfl, .inr ⟨w.heap.size, 0, #[], rfl, Nat.le_refl _, World.alloc_heap_new w _, Nat.le_refl _, by unfold maxLen; omega, rfl, rfl⟩⟩
/-- the copies made so far -/
structure OldSt (B : Nat) (v : Value) (os : List Value) (acc : List (List Int)) (w : World) : Prop where
  own : w.ownsRow B 22 1 v acc.length os
  items : ItemsV B w.heap.size os acc w
theorem OldSt.nil (B : Nat) (w : World) : OldSt B (.slice none 0 0) [] [] w := ⟨World.ownsRow_nil _ _ _ _, rfl, fun i xs h => by simp at h, fun i j u u' _ h => by simp at h⟩
theorem OldSt.below (h : OldSt B v os acc w) (hb : Below w.heap.size w V) : OldSt B v os acc V := ⟨owns_below h.own hb (Nat.le_refl _), (h.items.below hb).low (Nat.le_refl _) hb.size⟩
theorem OldSt.push (h : OldSt B v os acc w) (hB : B ≤ w.heap.size) (hb : Below w.heap.size w V0) {y : Value} {xs : List Int} (hy : V0.ownsRow w.heap.size 3 1 y xs.length (xs.map (Value.int .i64))) (hb1 : Below V0.heap.size V0 V1) (hg : V1.grownBy V2 v.ownBlock) (hv : V2.ownsRow B 22 1 v' (acc.length + 1) (os ++ [y])) :
    OldSt B v' (os ++ [y]) (acc ++ [xs]) V2 := by
  have hz := hb.size
  have hz1 := hb1.size
  have hz2 := hg.size
  have hbV : Below w.heap.size w V1 := hb.trans (hb1.mono hz)
  have ho := owns_below h.own hbV (Nat.le_refl _)
  have hne : ∀ (j : Nat) (cur : Array Value), V1.heap[j]? = some (Obj.cells cur 3 (0, 0)) → V2.heap[j]? = V1.heap[j]? := fun j cur hc => hg.block j (Array.getElem?_eq_some_iff.1 hc).1 (fun e => by
    obtain ⟨cur2, hc2⟩ := own_typ ho e.symm
    exact typ_ne hc2 hc (by decide) rfl)
  have i1 := ((h.items.below hbV).keep (fun j cur _ _ hc => hne j cur hc))
  have i2 : ItemsV w.heap.size V0.heap.size [y] [xs] V0 := by
    refine ⟨rfl, fun i xs' hx => ?_, fun i j u u' hij hu hu' => ?_⟩
    · cases i with
      | zero => simp at hx; subst hx; exact ⟨y, rfl, hy, fun g hg => (hy.lt g hg).2⟩
      | succ i => simp at hx
    · cases j with
      | zero => omega
      | succ j => simp at hu'
  have i3 := ((i2.below hb1).keep (fun j cur _ _ hc => hne j cur hc))
  refine ⟨by rw [List.length_append]; exact hv, ?_⟩
  exact (i1.app i3 hB hz).low (Nat.le_refl _) (by omega)
/-- the copies stay where their blocks stay -/
theorem OldSt.later (h : OldSt B v os acc w) (hk : ∀ j, B ≤ j → j < w.heap.size → V.heap[j]? = w.heap[j]?) {n c : Nat} {a : Option Addr} (hv : v = .slice a n c) : ListsV V a acc := by
  subst hv
  exact (h.items.keep (fun j cur h1 h2 _ => hk j h1 h2)).lists (owns_block h.own (fun g hg => hk g (h.own.lt g hg).1 (h.own.lt g hg).2))
section
variable {c : Nat → Nat} {ns : List Nat} {mv : Value} {ms : List Value} {i : Nat}
theorem WrSt.start (h : ItemsV B C us acc P0) : ∃ c, WrSt P0 c us (acc.map List.length) (.slice none 0 0) [] 0 P0 := by
  obtain ⟨c, hc⟩ := h.colour
  refine ⟨c, rfl, rfl, rfl, Nat.le_refl _, fun _ _ _ => rfl, ⟨by rw [List.length_map]; exact h.len, rfl⟩, fun k u n hu hn => ?_, fun k m n hm => by simp at hm, World.ownsRow_nil _ _ _ _⟩
  rw [List.getElem?_map] at hn
  obtain ⟨xs, hx, rfl⟩ := Option.map_eq_some_iff.1 hn
  obtain ⟨u', k1, k2, k3⟩ := h.own k xs hx
  rw [hu] at k1
  cases k1
  exact ⟨_, owns_base k2 (Nat.zero_le _), fun hl => absurd hl (Nat.not_lt_zero _), hc k u hu⟩
theorem WrSt.off (h : WrSt P0 c us ns mv ms i w) (hit : ItemsV B C us acc P0) {j : Nat} {cur : Array Value} {ty : TypeId} (hj : P0.heap[j]? = some (.cells cur ty (0, 0))) (hty : ty ≠ 3) : w.heap[j]? = P0.heap[j]? :=
  h.keep j (Array.getElem?_eq_some_iff.1 hj).1 (fun k u hu e => by
    obtain ⟨cur2, hc, -, -⟩ := hit.typ hu e
    exact typ_ne hj hc hty rfl)
theorem WrSt.row (h : WrSt P0 c us ns mv ms i w) (hit : ItemsV B C us acc P0) {n : Nat} (ho : P0.ownsRow Bo 22 1 v n os) : w.ownsRow Bo 22 1 v n os :=
  owns_block ho (fun g hg => by
    obtain ⟨cur, hc⟩ := own_typ ho hg
    exact h.off hit hc (by decide))
theorem WrSt.lows (h : WrSt P0 c us ns mv ms i w) (hit : ItemsV B C us acc P0) {n : Nat} (h1 : n ≤ B) (h2 : n ≤ P0.heap.size) : Below n P0 w :=
  ⟨h.os, h.tape, h.output, h.size, fun j hj => h.keep j (by omega) (fun k u hu e => by
    obtain ⟨cur2, hc, _, _⟩ := hit.typ hu e
    omega)⟩
/-- more's own row while x's row is appended to -/
theorem WrSt.mid (h : WrSt P0 c us ns mv ms i w) {u m : Value} {n : Nat} {X : List Value} (hr : w.ownsRow 0 3 1 u n X) (hb : Below w.heap.size w V0)
    (hc : (∃ a cap, u = .slice a n cap ∧ m = .slice a (n + 1) cap ∧ V0.grownBy V1 u.ownBlock) ∨ (m.ownBlock = some V0.heap.size ∧ V0.grownBy V1 none)) (hb2 : Below V1.heap.size V1 V2) : V2.ownsRow P0.heap.size 22 1 mv i ms := by
  have hz := hb.size
  refine owns_block h.mown (fun g hg => ?_)
  have hgl := (h.mown.lt g hg).2
  obtain ⟨cur, hcur⟩ := own_typ h.mown hg
  have hne : u.ownBlock ≠ some g := fun e => by
    obtain ⟨cur2, hc2⟩ := own_typ hr e
    exact typ_ne hcur hc2 (by decide) rfl
  rcases hc with ⟨a, cap, -, -, q⟩ | ⟨-, q⟩
  · have := q.size
    rw [hb2.block g (by omega), q.block g (by omega) hne.symm, hb.block g hgl]
  · have := q.size
    rw [hb2.block g (by omega), q.block g (by omega) (by simp), hb.block g hgl]
/-- an item's own row, as it stands between the rounds -/
theorem WrSt.at (h : WrSt P0 c us ns mv ms i w) {k : Nat} (hk : k < us.length) : ∃ u n xs, us[k]? = some u ∧ ns[k]? = some n ∧ w.ownsRow 0 3 1 u n xs ∧ (k < i → xs = List.replicate n (vI k)) := by
  obtain ⟨xs, h1, h2, -⟩ := h.left k _ _ (List.getElem?_eq_getElem hk) (List.getElem?_eq_getElem (by rw [← h.len.1]; exact hk))
  exact ⟨_, _, xs, List.getElem?_eq_getElem hk, List.getElem?_eq_getElem (by rw [← h.len.1]; exact hk), h1, h2⟩
end
theorem fill_next {xs : List Value} {n j : Nat} {x : Value} (hl : xs.length = n) (hj : j < n) (h : xs.take j = List.replicate j x) : (xs.set j x).take (j + 1) = List.replicate (j + 1) x := by
  rw [take_snoc' (x := x) (by rw [List.getElem?_set_self (by omega)]), List.take_set_of_le (Nat.le_refl _), h, List.replicate_succ']
theorem grown_two {r r' : Option Nat} (h : w.grownBy V r) (k : V.grownBy V0 r') (hr : r' = r ∨ ∃ g, r' = some g ∧ w.heap.size ≤ g) : w.grownBy V0 r := by
  have hz := h.size
  refine ⟨k.os.trans h.os, k.tape.trans h.tape, k.output.trans h.output, Nat.le_trans h.size k.size, fun j hj hn => ?_⟩
  rw [k.block j (by omega) (fun e => by
    rcases hr with hr | ⟨g, hr, hg⟩
    · rw [hr] at e; exact hn e
    · rw [hr] at e; cases e; omega), h.block j hj hn]
theorem grown_of_below {r : Option Nat} (h : Below w.heap.size w V) : w.grownBy V r := ⟨h.os, h.tape, h.output, h.size, fun j hj _ => h.block j hj⟩
theorem grown_own {r : Option Nat} {e size n : Nat} (hg : w.grownBy V r) (ho : w.ownsRow Bo e size v n us) (hne : ∀ g, r = some g → g < Bo) : V.ownsRow Bo e size v n us :=
  owns_block ho (fun g hg' => hg.block g (ho.lt g hg').2 (fun e => by have := hne g e.symm; have := (ho.lt g hg').1; omega))
theorem own_chain {r r' r2 : Option Nat} {n m : Nat} (h : r = r' ∨ ∃ g, r = some g ∧ n ≤ g) (k : r2 = r ∨ r2 = some m) (hm : n ≤ m) : r2 = r' ∨ ∃ g, r2 = some g ∧ n ≤ g := by
  rcases k with k | k
  · rw [k]; exact h
  · exact .inr ⟨m, k, hm⟩
theorem ItemsV.one (h : ItemsV B C us acc w) : ∀ u ∈ us, u.oneCell' = true := fun u hu => by
  obtain ⟨i, hi⟩ := List.mem_iff_getElem?.1 hu
  obtain ⟨u', k1, k2, -⟩ := h.own i _ (List.getElem?_eq_getElem (by rw [← h.len]; exact (List.getElem?_eq_some_iff.1 hi).1))
  rw [hi] at k1
  cases k1
  obtain ⟨a, c, e⟩ := owns_shape' k2
  rw [e]
  rfl
end
theorem c3Cells_length (l : List C3) : (c3Cells l).length = l.length * 3 := by
  induction l with
  | nil => rfl
  | cons c l ih => simp [c3Cells] at ih ⊢; omega
theorem c3Cells_one (l : List C3) : ∀ u ∈ c3Cells l, u.oneCell' = true := by
  intro u hu
  obtain ⟨t, _, ht⟩ := List.mem_flatMap.1 hu
  simp at ht
  rcases ht with rfl | rfl | rfl <;> rfl
theorem consts_source {w : World} {a : Option Addr} {cs : List C3} (h : Consts w a cs) : SourceW w a cs.length (c3Cells cs) := by
  rcases h with rfl | ⟨b, off, rfl, h⟩
  · cases a with
    | none => exact .inl ⟨rfl, rfl, rfl⟩
    | some ad => exact .inr ⟨ad, rfl, fun j u hu => by simp [c3Cells] at hu⟩
  · refine .inr ⟨_, rfl, fun j u hu => ?_⟩
    have e : (⟨b, off, none⟩ : Addr).add j = ⟨b, off + j, none⟩ := by unfold Addr.add; split <;> simp_all
    rw [e]
    have hj := (List.getElem?_eq_some_iff.1 hu).1
    rw [c3Cells_length] at hj
    have hi : j / 3 < cs.length := by omega
    obtain ⟨h0, h1, h2⟩ := h (j / 3) hi
    obtain ⟨k0, k1, k2⟩ := c3Cells_at cs (j / 3) hi
    have hm : j % 3 = 0 ∨ j % 3 = 1 ∨ j % 3 = 2 := by omega
    rcases hm with hm | hm | hm
    · rw [show j = j / 3 * 3 by omega] at hu ⊢
      rw [k0] at hu
      cases hu
      exact h0
    · have e2 : j = j / 3 * 3 + 1 := by omega
      rw [e2, k1] at hu
      cases hu
      rw [show off + j = off + j / 3 * 3 + 1 by omega]
      exact h1
    · have e2 : j = j / 3 * 3 + 2 := by omega
      rw [e2, k2] at hu
      cases hu
      rw [show off + j = off + j / 3 * 3 + 2 by omega]
      exact h2
/-- the rule's copy, in the block b -/
def RuleK (w : World) (b : Nat) (R : RuleV) (rha rpa rta rna rva : Option Addr) (rhc rpc rtc rnc rvc : Nat) (hs : List Sl) : Prop :=
  w.heap[b]? = some (.cells #[.int .i64 R.hp, .slice rha R.hn rhc, .slice rpa R.pos.length rpc, .slice rta R.tests.length rtc, .slice rna R.neg.length rnc, .slice rva R.nv rvc, .int .i64 R.cl] 32 (0, 0)) ∧ Slots w rha hs ∧ Pats w rpa R.pos ∧ Tsts w rta R.tests ∧ Pats w rna R.neg ∧ StrsV w rva R.nv
theorem RuleK.below {w V : World} {b : Nat} {R : RuleV} {rha rpa rta rna rva : Option Addr} {rhc rpc rtc rnc rvc : Nat} {hs : List Sl} (h : RuleK w b R rha rpa rta rna rva rhc rpc rtc rnc rvc hs) (hb : Below w.heap.size w V) : RuleK V b R rha rpa rta rna rva rhc rpc rtc rnc rvc hs := by
  obtain ⟨h0, h1, h2, h3, h4, h5⟩ := h
  have l : Nat.le w.heap.size w.heap.size := Nat.le_refl _
  exact ⟨(hb.block b (Array.getElem?_eq_some_iff.1 h0).1).trans h0, h1.below hb l, h2.below hb l, h3.below hb l, h4.below hb l, h5.below hb⟩
theorem RuleK.cells {w : World} {b : Nat} {R : RuleV} {rha rpa rta rna rva : Option Addr} {rhc rpc rtc rnc rvc : Nat} {hs : List Sl} (h : RuleK w b R rha rpa rta rna rva rhc rpc rtc rnc rvc hs) : w.cell? ⟨b, 0, none⟩ = some (.int .i64 R.hp) ∧ w.cell? ⟨b, 1, none⟩ = some (.slice rha R.hn rhc) ∧ w.cell? ⟨b, 2, none⟩ = some (.slice rpa R.pos.length rpc) ∧ w.cell? ⟨b, 3, none⟩ = some (.slice rta R.tests.length rtc) ∧ w.cell? ⟨b, 4, none⟩ = some (.slice rna R.neg.length rnc) ∧ w.cell? ⟨b, 5, none⟩ = some (.slice rva R.nv rvc) ∧ w.cell? ⟨b, 6, none⟩ = some (.int .i64 R.cl) := by
  have h0 := h.1
  simp [World.cell?, h0]
section
variable {n0 n1 m sb : Nat} {ar : List Int} {rows : List Row} {w : World}
theorem len_L (h : StoreL n0 n1 m ar rows sb w) : Calls Try.prog 35 #[.pointer (some ⟨sb, 0, none⟩)] w fun e w' => e = .returned (.int .i64 rows.length) ∧ w' = w := by
  obtain ⟨σ, τ, ⟨hd, h1⟩, rfl, rfl, -⟩ := h
  exact _root_.Go.Proofs.Ytkejjiohkhlnnaa.len_any h1
theorem row_L (h : StoreL n0 n1 m ar rows sb w) (i : Nat) (r : Row) (hr : rows[i]? = some r) : Calls Try.prog 36 #[.pointer (some ⟨sb, 0, none⟩), .int .i64 i] w (RowEnd r 0 w) := by
  obtain ⟨σ, τ, ⟨hd, h1⟩, rfl, rfl, -⟩ := h
  exact _root_.Go.Proofs.Ytkejjiohkhlnnaa.row_any h1 i r hr
end
theorem ListsV.take {w : World} {a : Option Addr} {ls : List (List Int)} (h : ListsV w a ls) (n : Nat) : ListsV w a (ls.take n) := by
  rcases h with rfl | ⟨b, off, rfl, hc⟩
  · exact .inl (by simp)
  · refine .inr ⟨b, off, rfl, fun i l hl => ?_⟩
    rw [List.getElem?_take] at hl
    split at hl
    · exact hc i l hl
    · cases hl
theorem new_cell (w : World) (x : Value) (ty : TypeId) : ∀ j u, ([x] : List Value)[j]? = some u → (w.alloc (.cells #[x] ty)).cell? ((⟨w.heap.size, 0, none⟩ : Addr).add j) = some u := fun j u hu => by
  rcases source_new w [x] ty with ⟨e, _⟩ | ⟨ad, e, h⟩
  · cases e
  · cases e
    exact h j u hu
/-- a row that is not empty lies in a block -/
theorem own_some {w : World} {B e size n c : Nat} {a : Option Addr} {xs : List Value} (h : w.ownsRow B e size (.slice a n c) n xs) (hn : 0 < n) : ∃ g, a = some ⟨g, 0, none⟩ ∧ (∀ j u, xs[j]? = some u → w.cell? ⟨g, j, none⟩ = some u) ∧ ∀ j, w.frozen? ⟨g, j, none⟩ = false := by
  rcases owns_form h with ⟨_, h0, _⟩ | ⟨g, cap, e, _, _, _, _, _, hc, hf⟩
  · omega
  · cases e
    exact ⟨g, rfl, hc, hf⟩
theorem conds_own (R : RuleV) : (condsL R).length = R.pos.length + R.tests.length + R.neg.length := by
  simp [condsL]
  omega
/-- the five groups of lists, one behind the other -/
theorem join_five {a b c d e e' f g : Nat} {w : World} {u1 u2 u3 u4 u5 : List Value} {a1 a2 a3 a4 a5 : List (List Int)} (h1 : ItemsV a b u1 a1 w) (h2 : ItemsV c d u2 a2 w) (h3 : ItemsV d e u3 a3 w) (h4 : ItemsV e' f u4 a4 w) (h5 : ItemsV f g u5 a5 w)
    (l1 : a ≤ b) (l2 : b ≤ c) (l3 : c ≤ d) (l4 : d ≤ e) (l5 : e ≤ e') (l6 : e' ≤ f) (l7 : f ≤ g) :
    ItemsV a g (u1 ++ u2 ++ u3 ++ u4 ++ u5) (a1 ++ a2 ++ a3 ++ a4 ++ a5) w ∧ ∀ (k : Nat) u j, (u1 ++ u2 ++ u3 ++ u4 ++ u5)[k]? = some u → u.ownBlock = some j → j < b ∨ c ≤ j := by
  have i1 : ItemsV c g (u2 ++ u3 ++ u4 ++ u5) (a2 ++ a3 ++ a4 ++ a5) w := ((h2.app h3 l3 l4).app (h4.low l5 (Nat.le_refl _)) (by omega) (by omega)).app h5 (by omega) (by omega)
  have i2 := h1.app (i1.low l2 (Nat.le_refl _)) (by omega) (by omega)
  have e1 : u1 ++ u2 ++ u3 ++ u4 ++ u5 = u1 ++ (u2 ++ u3 ++ u4 ++ u5) := by simp only [List.append_assoc]
  have e2 : a1 ++ a2 ++ a3 ++ a4 ++ a5 = a1 ++ (a2 ++ a3 ++ a4 ++ a5) := by simp only [List.append_assoc]
  rw [e1, e2]
  refine ⟨i2, fun k u j hu hg => ?_⟩
  by_cases hk : k < u1.length
  · rw [List.getElem?_append_left hk] at hu
    obtain ⟨_, _, _, h⟩ := h1.typ hu hg
    exact .inl h
  · rw [List.getElem?_append_right (by omega)] at hu
    obtain ⟨_, _, h, _⟩ := i1.typ hu hg
    exact .inr h
/-- items stay where a row of slices grows -/
theorem ItemsV.grown {B C Bo n : Nat} {us xs : List Value} {acc : List (List Int)} {w V : World} {v : Value} (h : ItemsV B C us acc w) (ho : w.ownsRow Bo 22 1 v n xs) (hg : w.grownBy V v.ownBlock) : ItemsV B C us acc V :=
  h.keep (fun j cur _ _ hc => hg.block j (Array.getElem?_eq_some_iff.1 hc).1 (fun e => by
    obtain ⟨cur2, hc2⟩ := own_typ ho e.symm
    exact typ_ne hc2 hc (by decide) rfl))
theorem five_le {u1 u2 u3 u4 u5 : List (List Int)} {m : Nat} (h1 : ∀ x ∈ u1, x.length ≤ m) (h2 : ∀ x ∈ u2, x.length ≤ m) (h3 : ∀ x ∈ u3, x.length ≤ m) (h4 : ∀ x ∈ u4, x.length ≤ m) (h5 : ∀ x ∈ u5, x.length ≤ m) : ∀ x ∈ u1 ++ u2 ++ u3 ++ u4 ++ u5, x.length ≤ m := by
  intro x hx
  simp only [List.mem_append] at hx
  rcases hx with (((hx | hx) | hx) | hx) | hx
  · exact h1 x hx
  · exact h2 x hx
  · exact h3 x hx
  · exact h4 x hx
  · exact h5 x hx
end Mt
end Go.Proofs.Ytkejjiohkhlnnaa

namespace Go.Proofs.Ytkejjiohkhlnnaa
open Go.RowKit
namespace Mt

set_option linter.unusedSimpArgs false in
set_option maxHeartbeats 16000000 in
set_option maxRecDepth 100000 in
theorem matchOwn_any (T0 : WorldV) (hs : List Sl) (w : World) (hin : WorldIn w T0) (hhn : T0.R.hn = hs.length) (hhs : Slots w T0.R.ha hs) (hlen : hs.length * 16 ≤ 140737488351232) :
    Calls Try.prog 10 #[.agg T0.cells] w fun e w' => e = .returned (.bool true) ∧ Below w.heap.size w w' := by
  obtain ⟨W0, hW0⟩ : ∃ V, V = w.alloc (.cells T0.cells 34) := ⟨_, rfl⟩
  obtain ⟨b2, hb2⟩ : ∃ b, b = w.heap.size := ⟨_, rfl⟩
  have hb0 : Below w.heap.size w W0 := by rw [hW0]; exact (Below.refl _ _).alloc (Nat.le_refl _) _
  have hq2 : W0.heap[b2]? = some (.cells T0.cells 34 (0, 0)) := by rw [hW0, hb2]; exact World.alloc_heap_new w _
  have cT := Lib.hid (hin.below hb0).tamed
  obtain ⟨⟨x0, x1, x2⟩, ⟨x3, x4, x5, x6, x7, x8, x9⟩, x10⟩ := world_cells hq2
  have HW0 : Hid (W0 = w.alloc (.cells #[.slice T0.aa T0.ar.length T0.ac, .slice T0.ra T0.rows.length T0.rc, .slice T0.ca T0.cs.length T0.cc, .int .i64 T0.R.hp, .slice T0.R.ha T0.R.hn T0.R.hc, .slice T0.R.pa T0.R.pos.length T0.R.pc, .slice T0.R.ta T0.R.tests.length T0.R.tc, .slice T0.R.na T0.R.neg.length T0.R.nc, .slice T0.R.va T0.R.nv T0.R.vc, .int .i64 T0.R.cl, .int .i64 T0.K] 34)) := Lib.hid hW0
  have Hb2 := Lib.hid hb2
  have Hb0 := Lib.hid hb0
  have HHS := Lib.hid (And.intro hhn hhs)
  simp only [WorldV.cells] at cT ⊢
  clear hW0 hb2 hb0 hq2 hin hhn hhs
  go_enter Try.func10, Try.ntmps10
  go_upto_region 1 with fail
  rw [← HW0.out, ← Hb2.out]
  clear HW0
  go_upto_region 2 with (first | (go_at_call 11; (with_reducible refine cT.out.mono ?_); rintro e w1 ⟨T, rfl, hT, hb1, -, -, e2, e3, -⟩; simp only [WorldV.cells]; have HT1 := Lib.hid hT; have Hb1 := Lib.hid hb1; have HE := Lib.hid (And.intro e2 e3); clear hT hb1 e2 e3))
  obtain ⟨W2, hW2⟩ : ∃ V, V = w1.alloc (.cells #[.slice T.aa T.ar.length T.ac, .slice T.ra T.rows.length T.rc, .slice T.ca T.cs.length T.cc, .int .i64 T.R.hp, .slice T.R.ha T.R.hn T.R.hc, .slice T.R.pa T.R.pos.length T.R.pc, .slice T.R.ta T.R.tests.length T.R.tc, .slice T.R.na T.R.neg.length T.R.nc, .slice T.R.va T.R.nv T.R.vc, .int .i64 T.R.cl, .int .i64 T.K] 34) := ⟨_, rfl⟩
  obtain ⟨b5, hb5⟩ : ∃ b, b = w1.heap.size := ⟨_, rfl⟩
  rw [← hW2, ← hb5]
  have hbw2 : Below w1.heap.size w1 W2 := by rw [hW2]; exact (Below.refl _ _).alloc (Nat.le_refl _) _
  have hq5 : W2.heap[b5]? = some (.cells T.cells 34 (0, 0)) := by rw [hW2, hb5]; exact World.alloc_heap_new w1 _
  have HT := Lib.hid (HT1.out.below hbw2)
  have HB2 : Hid (Below w.heap.size w W2) := Lib.hid (below_chain (below_chain Hb0.out Hb1.out) hbw2)
  obtain ⟨⟨y0, y1, y2⟩, ⟨y3, y4, y5, y6, y7, y8, y9⟩, y10⟩ := world_cells hq5
  clear hW2 hb5 hbw2 hq5 HT1 Hb1 x0 x1 x2 x3 x4 x5 x6 x7 x8 x9 x10 cT
  have cF : Hid (Calls Try.prog 12 #[.agg #[.slice T.aa T.ar.length T.ac, .slice T.ra T.rows.length T.rc, .slice T.ca T.cs.length T.cc, .int .i64 T.R.hp, .slice T.R.ha T.R.hn T.R.hc, .slice T.R.pa T.R.pos.length T.R.pc, .slice T.R.ta T.R.tests.length T.R.tc, .slice T.R.na T.R.neg.length T.R.nc, .slice T.R.va T.R.nv T.R.vc, .int .i64 T.R.cl, .int .i64 T.K]] W2 (FullEnd T W2)) := Lib.hid (full_any T _ W2 HT.out)
  go_upto_region 3 with (first | (go_at_call 12; (with_reducible refine cF.out.mono ?_); rintro e V1 ⟨sb, n1, rfl, h1, hv1⟩; have HS1 := Lib.hid h1; have HB1 := Lib.hid hv1; clear h1 hv1))
  have HT1 := Lib.hid (HT.out.below HB1.out)
  have HBV1 : Hid (Below w.heap.size w V1) := Lib.hid (below_chain HB2.out HB1.out)
  obtain ⟨rows, hrows⟩ : ∃ rows, rows = joinedL [] T.rows := ⟨_, rfl⟩
  have HJ : Hid (rows.length ≤ 30 ∧ (∀ r ∈ rows, IdsIn T.cs.length r.2)) := Lib.hid (by rw [hrows]; exact ⟨by have := HT1.out.joined.1; omega, HT1.out.joined.2⟩)
  rw [← hrows] at HS1
  clear hrows
  obtain ⟨P, hP⟩ : ∃ P, P = pre rows T.cs T.R (condsL T.R).length := ⟨_, rfl⟩
  obtain ⟨Q, hQ⟩ : ∃ Q, Q = pre rows T.cs T.R (min 1 T.R.pos.length) := ⟨_, rfl⟩
  have HPs : Hid ((P.length ≤ 1000000 ∧ ∀ x ∈ P, x.length ≤ 1000000) ∧ (Q.length ≤ 1000000 ∧ ∀ x ∈ Q, x.length ≤ 1000000)) := Lib.hid (by rw [hP, hQ]; exact ⟨pre_small HJ.out.2 HT1.out.ruleOk HJ.out.1 HT1.out.lens.1 _, pre_small HJ.out.2 HT1.out.ruleOk HJ.out.1 HT1.out.lens.1 _⟩)
  have HA : Hid (∀ V, Below V1.heap.size V1 V → Calls Try.prog 14 #[.pointer (some ⟨sb, 0, none⟩), .slice T.ca T.cs.length T.cc, .agg #[.int .i64 T.R.hp, .slice T.R.ha T.R.hn T.R.hc, .slice T.R.pa T.R.pos.length T.R.pc, .slice T.R.ta T.R.tests.length T.R.tc, .slice T.R.na T.R.neg.length T.R.nc, .slice T.R.va T.R.nv T.R.vc, .int .i64 T.R.cl]] V (AllEnd P V)) := Lib.hid (fun V hV => by
    rw [hP]
    have h := HT1.out.below hV
    exact all_L HS1.out hV T.R h.rule T.ca T.cc T.cs h.con h.ruleOk h.conOk.1 HJ.out.1 h.lens.1 HJ.out.2 h.rng)
  have HPre : Hid (∀ V, Below V1.heap.size V1 V → ∀ z : Int, z = ((min 1 T.R.pos.length : Nat) : Int) → Calls Try.prog 15 #[.pointer (some ⟨sb, 0, none⟩), .slice T.ca T.cs.length T.cc, .agg #[.int .i64 T.R.hp, .slice T.R.ha T.R.hn T.R.hc, .slice T.R.pa T.R.pos.length T.R.pc, .slice T.R.ta T.R.tests.length T.R.tc, .slice T.R.na T.R.neg.length T.R.nc, .slice T.R.va T.R.nv T.R.vc, .int .i64 T.R.cl], .int .i64 z] V (AllEnd Q V)) := Lib.hid (fun V hV z hz => by
    rw [hQ, hz]
    have h := HT1.out.below hV
    exact prefix_L HS1.out hV T.R h.rule T.ca T.cc T.cs h.con h.ruleOk h.conOk.1 HJ.out.1 h.lens.1 HJ.out.2 h.rng _ (by rw [conds_own]; omega))
  have HY : Hid (∀ V, Below W2.heap.size W2 V → V.cell? ⟨b5, 2, none⟩ = some (.slice T.ca T.cs.length T.cc) ∧ V.cell? ⟨b5, 3, none⟩ = some (.int .i64 T.R.hp) ∧ V.cell? ⟨b5, 4, none⟩ = some (.slice T.R.ha T.R.hn T.R.hc) ∧ V.cell? ⟨b5, 5, none⟩ = some (.slice T.R.pa T.R.pos.length T.R.pc) ∧ V.cell? ⟨b5, 6, none⟩ = some (.slice T.R.ta T.R.tests.length T.R.tc) ∧ V.cell? ⟨b5, 7, none⟩ = some (.slice T.R.na T.R.neg.length T.R.nc) ∧ V.cell? ⟨b5, 8, none⟩ = some (.slice T.R.va T.R.nv T.R.vc) ∧ V.cell? ⟨b5, 9, none⟩ = some (.int .i64 T.R.cl)) := Lib.hid (fun V hV => ⟨on_cell hV y2, on_cell hV y3, on_cell hV y4, on_cell hV y5, on_cell hV y6, on_cell hV y7, on_cell hV y8, on_cell hV y9⟩)
  have HX : Hid (∀ V, Below V1.heap.size V1 V → Below W2.heap.size W2 V) := Lib.hid (fun V hV => below_chain HB1.out hV)
  clear cF HT hP hQ y0 y1 y2 y3 y4 y5 y6 y7 y8 y9 y10
  have cR : Hid (Calls Try.prog 34 #[.agg #[.int .i64 T.R.hp, .slice T.R.ha T.R.hn T.R.hc, .slice T.R.pa T.R.pos.length T.R.pc, .slice T.R.ta T.R.tests.length T.R.tc, .slice T.R.na T.R.neg.length T.R.nc, .slice T.R.va T.R.nv T.R.vc, .int .i64 T.R.cl]] V1 (RCopyEnd T.R hs V1)) := Lib.hid (copyRule_any T.R hs V1 HT1.out.rule (by rw [HE.out.1]; exact HHS.out.2.below HBV1.out (Nat.le_refl _)) (by rw [HE.out.2]; exact HHS.out.1) hlen (by have := HT1.out.lens; omega) (by have := HT1.out.lens; omega) (by have := HT1.out.lens; omega) (by have := HT1.out.ruleOk.vars; omega) (fun p hp => (HT1.out.ruleOk.pos p hp).2.1) (fun p hp => (HT1.out.ruleOk.neg p hp).2.1) HT1.out.vars)
  obtain ⟨y2, y3, y4, y5, y6, y7, y8, y9⟩ := HY.out V1 HB1.out
  go_upto_region 4 with (first | (go_at_call 34; (with_reducible refine cR.out.mono ?_); rintro e V2 ⟨⟨rhp, rha, rhn, rhc, rpa, rpc, rpos, rta, rtc, rtests, rna, rnc, rneg, rva, rnv, rvc, rcl⟩, rfl, r1, r2, r3, r4, e1, e2, e3, e4, e5, e6, e7⟩; simp only at e1 e2 e3 e4 e5 e6 e7; subst e1 e2 e3 e4 e5 e6 e7; simp only [RuleV.cells]; have HR1 := Lib.hid (And.intro r1 (And.intro r2 r3)); have HB4 := Lib.hid r4; clear r1 r2 r3 r4))
  clear y2 y3 y4 y5 y6 y7 y8 y9 cR
  obtain ⟨W3, hW3⟩ : ∃ V, V = V2.alloc (.cells #[.int .i64 T.R.hp, .slice rha T.R.hn rhc, .slice rpa T.R.pos.length rpc, .slice rta T.R.tests.length rtc, .slice rna T.R.neg.length rnc, .slice rva T.R.nv rvc, .int .i64 T.R.cl] 32) := ⟨_, rfl⟩
  obtain ⟨b8, hb8⟩ : ∃ b, b = V2.heap.size := ⟨_, rfl⟩
  rw [← hW3, ← hb8]
  have hbw3 : Below V2.heap.size V2 W3 := by rw [hW3]; exact (Below.refl _ _).alloc (Nat.le_refl _) _
  have HK : Hid (RuleK W3 b8 T.R rha rpa rta rna rva rhc rpc rtc rnc rvc hs) := Lib.hid (by
    obtain ⟨k1, k2, k3⟩ := HR1.out
    have l : Nat.le V2.heap.size V2.heap.size := Nat.le_refl _
    exact ⟨by rw [hW3, hb8]; exact World.alloc_heap_new V2 _, k2.below hbw3 l, k1.pos.below hbw3 l, k1.tests.below hbw3 l, k1.neg.below hbw3 l, (strs_of_row k3).below hbw3⟩)
  have HB3 : Hid (Below V1.heap.size V1 W3) := Lib.hid (below_chain HB4.out hbw3)
  clear hW3 hb8 hbw3 HR1 HB4
  obtain ⟨y2, -, -, -, -, -, -, -⟩ := HY.out W3 (HX.out W3 HB3.out)
  have hcn : T.cs.length ≤ 5 := HT1.out.conOk.2.2
  have hsrc := consts_source (HT1.out.below HB3.out).con
  obtain ⟨CN, hCN⟩ : ∃ n, n = T.cs.length := ⟨_, rfl⟩
  go_upto_region 7 with (first | (at_builtin; refine wpList_append_w elemC3 _ rfl _ _ rfl W3.heap.size (.slice none 0 0) 0 [] rfl (World.ownsRow_nil _ _ _ _) T.ca T.cs.length T.cc (c3Cells T.cs) rfl hsrc (c3Cells_length _) (c3Cells_one _) (by unfold maxLen; omega) (by omega) (Nat.le_refl _) ?_; intro v' W5 hown hgrow hblk; obtain ⟨c6, cc6, rfl⟩ := owns_shape' hown; rw [Nat.zero_add] at *; have hb5 := grown_below hgrow (fun k hk => by cases hk) (Nat.le_refl _); have HC6 := Lib.hid hown; have HB5 := Lib.hid hb5; clear hown hgrow hblk hb5))
  clear hsrc y2 hcn hCN CN
  have HBV5 : Hid (Below V1.heap.size V1 W5) := Lib.hid (below_chain HB3.out HB5.out)
  have HK5 := Lib.hid (HK.out.below HB5.out)
  have HC5 : Hid (Consts W5 c6 T.cs) := Lib.hid (by
    obtain ⟨a, c, e, h⟩ := consts_row (show W5.ownsRow W3.heap.size 65 3 (.slice c6 T.cs.length cc6) T.cs.length (c3Cells T.cs) by simpa using HC6.out)
    cases e
    exact h)
  have HS5 := Lib.hid (HS1.out.below HBV5.out)
  have HT5 := Lib.hid (HT1.out.below HBV5.out)
  clear HC6 HK HB3 HB5 HS1 HT1
  obtain ⟨RN, hRN⟩ : ∃ n, n = rows.length := ⟨_, rfl⟩
  have HRN := Lib.hid hRN
  have hRN30 : RN ≤ 30 := by rw [hRN]; exact HJ.out.1
  clear hRN
  have cL : Hid (Calls Try.prog 35 #[.pointer (some ⟨sb, 0, none⟩)] W5 fun e w' => e = .returned (.int .i64 RN) ∧ w' = W5) := Lib.hid (by rw [HRN.out]; exact len_L HS5.out)
  go_upto_block 0 with (first | (go_at_call 35; (with_reducible refine cL.out.mono ?_); rintro e w9 ⟨rfl, hw9⟩; rw [hw9]; clear hw9 w9))
  go_cut [7] (fun t w' => ∃ (xa : Option Addr) (xc : Nat) (la : List RowA), t = .slice xa RN xc ∧ Hid (RwSt W5.heap.size (.slice xa RN xc) la w') ∧ Hid (la.map (·.1) = rows) ∧ Hid (Below W5.heap.size W5 w'))
  case first => as_aux_lemma =>
    go_wp2_with fail
    go_loopw [7, 51] (fun v i wr => ∃ (k : Nat) (la : List RowA), i = .int .i64 k ∧ k ≤ RN ∧ Hid (RwSt W5.heap.size v la wr) ∧ Hid (la.map (·.1) = rows.take k) ∧ Hid (Below W5.heap.size W5 wr)) (fun _ i _ => RN - (intOf i).toNat)
    case atStart => exact ⟨0, [], rfl, Nat.zero_le _, Lib.hid (RwSt.nil _ _), Lib.hid (by simp), Lib.hid (Below.refl _ _)⟩
    case round =>
      clear cL
      obtain ⟨k, la, rfl, hk, HR, HL, HB⟩ := hrel
      obtain ⟨xa, xc, rfl⟩ := owns_shape' HR.out.own
      have hlk : la.length = k := by
        have := congrArg List.length HL.out
        rw [List.length_map, List.length_take, ← HRN.out] at this
        omega
      have Hlk := Lib.hid hlk
      by_cases hlt : k < RN
      · obtain ⟨r, hr⟩ : ∃ r, rows[k]? = some r := ⟨_, List.getElem?_eq_getElem (by rw [← HRN.out]; exact hlt)⟩
        obtain ⟨p, xs⟩ := r
        have cRow := Lib.hid (row_L (HS5.out.below HB.out) k (p, xs) hr)
        have HRk := Lib.hid hr
        have zk : (k : Int) < (RN : Int) := by omega
        clear hr hlk
        go_upto_region 11 with (first | (go_at_call 36; (with_reducible refine cRow.out.mono ?_); rintro e V6 ⟨a, c, rfl, hI6, hb6⟩; have HI6 := Lib.hid hI6; have HB6 := Lib.hid hb6; clear hI6 hb6))
        try simp only at HI6
        clear cRow
        obtain ⟨V7, hV7⟩ : ∃ V, V = V6.alloc (.cells #[.int .i64 p, .slice a xs.length c] 50) := ⟨_, rfl⟩
        obtain ⟨b9, hb9⟩ : ∃ b, b = V6.heap.size := ⟨_, rfl⟩
        rw [← hV7, ← hb9]
        have hbw7 : Below V6.heap.size V6 V7 := by rw [hV7]; exact (Below.refl _ _).alloc (Nat.le_refl _) _
        have z0 : V7.cell? ⟨b9, 0, none⟩ = some (.int .i64 p) := by rw [hV7, hb9]; simp [World.cell?_alloc_at]
        have z1 : V7.cell? ⟨b9, 1, none⟩ = some (.slice a xs.length c) := by rw [hV7, hb9]; simp [World.cell?_alloc_at]
        have hb7 : Below wr.heap.size wr V7 := below_chain HB6.out hbw7
        have hI7 : IntsZ (fun j => wr.heap.size ≤ j) V7 a c xs := HI6.out.below hbw7 (Nat.le_refl _)
        have HB7 := Lib.hid hb7
        have HI7 := Lib.hid hI7
        clear hV7 hb9 hbw7 hb7 hI7 HI6 HB6
        go_wp2_with (first | (at_builtin; refine wpList_append_any elemRow _ rfl _ _ rfl W5.heap.size _ la.length (rowCells la) rfl (owns_below HR.out.own (HB7.out.alloc HB7.out.size _) (Nat.le_refl _)) (some ⟨V7.heap.size, 0, none⟩) 1 1 [.int .i64 p, .slice a xs.length c] rfl (source_new _ _ _) rfl (by simp [Value.oneCell']) (by have := Hlk.out; unfold maxLen; omega) (by have := Hlk.out; omega) (by have := HB7.out.size; have := HB.out.size; simp; omega) ?_; intro v' w9 hown9 hgrow9 hblk9; have hb8 : Below wr.heap.size wr (V7.alloc (.cells #[.int .i64 p, .slice a xs.length c] 50)) := HB7.out.alloc HB7.out.size _; have HP9 := Lib.hid (HR.out.push HB.out.size hb8 (r := ((p, xs), a, c)) (HI7.out.below ((Below.refl _ _).alloc (Nat.le_refl _) _) (Nat.le_refl _)) hgrow9 hown9 hblk9); have HB9 : Hid (Below W5.heap.size W5 w9) := Lib.hid (by exact (HB.out.trans (hb8.mono HB.out.size)).grown hgrow9 (by have := hb8.size; have := HB.out.size; omega) (fun g hg => (HR.out.own.lt g hg).1)); clear hown9 hgrow9 hblk9 hb8))
        go_roundw
        case rel => exact ⟨k + 1, la ++ [((p, xs), a, c)], by go_num, by omega, HP9, Lib.hid (by rw [List.map_append, HL.out, take_snoc' HRk.out]; rfl), HB9⟩
        case measure => simp [intOf]; omega
      · have hke : k = RN := by omega
        subst hke
        go_wp2_with fail
        go_meet
        exact ⟨xa, xc, la, by rw [Hlk.out], by rw [← Hlk.out]; rw [Hlk.out]; have h := HR; rw [Hlk.out] at h; exact h, Lib.hid (by rw [HL.out, HRN.out, List.take_length]), HB⟩
  case rest =>
    obtain ⟨ra, rc, la, rfl, HRW, HLA, HBN⟩ := hcut
    obtain ⟨VN, rfl⟩ : ∃ V, V = wc := ⟨_, rfl⟩
    have HB1N : Hid (Below V1.heap.size V1 VN) := Lib.hid (below_chain HBV5.out HBN.out)
    have HKN := Lib.hid (HK5.out.below HBN.out)
    have HCN := Lib.hid (HC5.out.below HBN.out (Nat.le_refl _))
    have HSN := Lib.hid (HS5.out.below HBN.out)
    have HTN := Lib.hid (HT5.out.below HBN.out)
    clear HK5 HC5 HS5 HT5 cL HBN
    have HYN : Hid (∀ V, Below VN.heap.size VN V → V.cell? ⟨b5, 2, none⟩ = some (.slice T.ca T.cs.length T.cc) ∧ V.cell? ⟨b5, 3, none⟩ = some (.int .i64 T.R.hp) ∧ V.cell? ⟨b5, 4, none⟩ = some (.slice T.R.ha T.R.hn T.R.hc) ∧ V.cell? ⟨b5, 5, none⟩ = some (.slice T.R.pa T.R.pos.length T.R.pc) ∧ V.cell? ⟨b5, 6, none⟩ = some (.slice T.R.ta T.R.tests.length T.R.tc) ∧ V.cell? ⟨b5, 7, none⟩ = some (.slice T.R.na T.R.neg.length T.R.nc) ∧ V.cell? ⟨b5, 8, none⟩ = some (.slice T.R.va T.R.nv T.R.vc) ∧ V.cell? ⟨b5, 9, none⟩ = some (.int .i64 T.R.cl)) := Lib.hid (fun V hV => HY.out V (HX.out V (below_chain HB1N.out hV)))
    have HAN : Hid (∀ V, Below VN.heap.size VN V → Calls Try.prog 14 #[.pointer (some ⟨sb, 0, none⟩), .slice T.ca T.cs.length T.cc, .agg #[.int .i64 T.R.hp, .slice T.R.ha T.R.hn T.R.hc, .slice T.R.pa T.R.pos.length T.R.pc, .slice T.R.ta T.R.tests.length T.R.tc, .slice T.R.na T.R.neg.length T.R.nc, .slice T.R.va T.R.nv T.R.vc, .int .i64 T.R.cl]] V (AllEnd P V)) := Lib.hid (fun V hV => HA.out V (below_chain HB1N.out hV))
    have HPN : Hid (∀ V, Below VN.heap.size VN V → ∀ z : Int, z = ((min 1 T.R.pos.length : Nat) : Int) → Calls Try.prog 15 #[.pointer (some ⟨sb, 0, none⟩), .slice T.ca T.cs.length T.cc, .agg #[.int .i64 T.R.hp, .slice T.R.ha T.R.hn T.R.hc, .slice T.R.pa T.R.pos.length T.R.pc, .slice T.R.ta T.R.tests.length T.R.tc, .slice T.R.na T.R.neg.length T.R.nc, .slice T.R.va T.R.nv T.R.vc, .int .i64 T.R.cl], .int .i64 z] V (AllEnd Q V)) := Lib.hid (fun V hV => HPre.out V (below_chain HB1N.out hV))
    have HBwN : Hid (Below w.heap.size w VN) := Lib.hid (below_chain HBV1.out HB1N.out)
    clear HY HA HPre HX HB1N HBV5 HBV1 HB2 HB1 Hb0
    obtain ⟨PN, hPN⟩ : ∃ n, n = P.length := ⟨_, rfl⟩
    obtain ⟨QN, hQN⟩ : ∃ n, n = Q.length := ⟨_, rfl⟩
    have hPN6 : PN ≤ 1000000 := by rw [hPN]; exact HPs.out.1.1
    have hQN6 : QN ≤ 1000000 := by rw [hQN]; exact HPs.out.2.1
    have HPL := Lib.hid hPN
    have HQL := Lib.hid hQN
    clear hPN hQN
    obtain ⟨y2, y3, y4, y5, y6, y7, y8, y9⟩ := HYN.out VN (Below.refl _ _)
    have cA := Lib.hid (HAN.out VN (Below.refl _ _))
    go_upto_region 14 with (first | (go_at_call 14; (with_reducible refine cA.out.mono ?_); rintro e VL ⟨v, ob, rfl, O, hb, hob⟩; obtain ⟨usl, hul, hil⟩ := ItemsV.of_out O; obtain ⟨al, lc, rfl⟩ := owns_shape' hul; have HUL := Lib.hid (owns_base hul (show VN.heap.size ≤ ob + 1 by omega)); have HIL := Lib.hid (hil.low (show VN.heap.size ≤ ob + 1 by omega) (Nat.le_refl _)); have HBL := Lib.hid hb; clear hul hil hb hob O))
    clear y2 y3 y4 y5 y6 y7 y8 y9 cA
    rw [← HPL.out] at HUL ⊢
    go_upto_block 2 with fail
    go_cut [13] (fun t w' => ∃ (oa : Option Addr) (oc : Nat) (os : List Value), t = .slice oa PN oc ∧ Hid (OldSt VL.heap.size (.slice oa PN oc) os P w') ∧ Hid (Below VL.heap.size VL w'))
    case first => as_aux_lemma =>
      go_wp2_with fail
      go_loopw [13, 76] (fun v i wr => ∃ (k : Nat) (os : List Value), i = .int .i64 k ∧ k ≤ PN ∧ Hid (OldSt VL.heap.size v os (P.take k) wr) ∧ Hid (Below VL.heap.size VL wr)) (fun _ i _ => PN - (intOf i).toNat)
      case atStart => exact ⟨0, [], rfl, Nat.zero_le _, Lib.hid (OldSt.nil _ _), Lib.hid (Below.refl _ _)⟩
      case round =>
        obtain ⟨k, os, rfl, hk, HO, HB⟩ := hrel
        obtain ⟨va, vc, rfl⟩ := owns_shape' HO.out.own
        have hlk : (P.take k).length = k := by rw [List.length_take, ← HPL.out]; omega
        rw [hlk] at HO ⊢
        have Hlk := Lib.hid hlk
        have HO0 : Hid (wr.ownsRow VL.heap.size 22 1 (.slice va k vc) k os) := Lib.hid (by have h := HO.out.own; rw [hlk] at h; exact h)
        by_cases hlt : k < PN
        · obtain ⟨xs, hxs⟩ : ∃ xs, P[k]? = some xs := ⟨_, List.getElem?_eq_getElem (by rw [← HPL.out]; exact hlt)⟩
          obtain ⟨u, hu, hou, -⟩ := HIL.out.own k xs hxs
          obtain ⟨ua, uc, rfl⟩ := owns_shape' hou
          obtain ⟨g, rfl, hg0⟩ : ∃ g, al = some ⟨g, 0, none⟩ ∧ VL.cell? ⟨g, k, none⟩ = some (.slice ua xs.length uc) := by
            rcases owns_form HUL.out with ⟨e, h0, _⟩ | ⟨g, cap, e, hbg, _, _, _, _, hc, _⟩
            · omega
            · cases e
              exact ⟨g, rfl, hc _ _ hu⟩
          have x1 := on_cell HB.out hg0
          have hxl : xs.length ≤ 1000000 := HPs.out.1.2 xs (List.mem_of_getElem? hxs)
          have HXS := Lib.hid hxs
          have hsrc : Source (wr.alloc (.cells #[] 3)) ua xs.length uc (xs.map (Value.int .i64)) := own_source (owns_below hou (HB.out.alloc HB.out.size _) (Nat.le_refl _))
          have Hsrc := Lib.hid hsrc
          have zk : (k : Int) < (PN : Int) := by omega
          clear hxs hou hg0 hu hlk hsrc
          go_wp2_with (first | (at_builtin; refine wpList_append_any elemInt _ rfl _ _ rfl wr.heap.size (.slice (some ⟨wr.heap.size, 0, none⟩) 0 0) 0 [] rfl (own_empty wr) ua xs.length uc (xs.map (Value.int .i64)) rfl Hsrc.out (by simp) (ints_one xs) (by unfold maxLen; omega) (by omega) (by simp) ?_; intro y w6 hown6 hgrow6 hblk6; obtain ⟨ya, yc, rfl⟩ := owns_shape' hown6; rw [Nat.zero_add] at hown6 ⊢; have HO6 := Lib.hid (show w6.ownsRow wr.heap.size 3 1 (.slice ya xs.length yc) xs.length (xs.map (Value.int .i64)) by simpa using hown6); have HB6 : Hid (Below wr.heap.size wr w6) := Lib.hid (((Below.refl _ _).alloc (Nat.le_refl _) _).grown hgrow6 (by simp) (fun g hg => by have e : some wr.heap.size = some g := hg; cases e; exact Nat.le_refl _)); clear hown6 hgrow6 hblk6) | (at_builtin; refine wpList_append_any elemInts _ rfl _ _ rfl VL.heap.size (.slice va k vc) k os rfl (owns_below HO0.out (HB6.out.alloc HB6.out.size _) (Nat.le_refl _)) (some ⟨w6.heap.size, 0, none⟩) 1 1 [.slice ya xs.length yc] rfl (source_new _ _ _) rfl (by simp [Value.oneCell']) (by unfold maxLen; omega) (by omega) (by have := HB6.out.size; have := HB.out.size; simp; omega) ?_; intro v' w9 hown9 hgrow9 hblk9; have HP9 := Lib.hid (HO.out.push HB.out.size HB6.out HO6.out ((Below.refl _ _).alloc (Nat.le_refl _) _) hgrow9 (by rw [Hlk.out]; exact hown9)); have HB9 : Hid (Below VL.heap.size VL w9) := Lib.hid ((HB.out.trans ((HB6.out.alloc HB6.out.size _).mono HB.out.size)).grown hgrow9 (by have := HB6.out.size; have := HB.out.size; simp; omega) (fun g hg => (HO.out.own.lt g hg).1)); clear hown9 hgrow9 hblk9))
          go_roundw
          case rel => exact ⟨k + 1, _, by go_num, by omega, Lib.hid (by rw [take_snoc' HXS.out]; exact HP9.out), HB9⟩
          case measure => simp [intOf]; omega
        · have hke : k = PN := by omega
          subst hke
          go_wp2_with fail
          go_meet
          exact ⟨va, vc, os, rfl, Lib.hid (by have h := HO.out; rw [HPL.out, List.take_length, ← HPL.out] at h; exact h), HB⟩
    case rest =>
      obtain ⟨oa, oc, os, rfl, HOLD, HBO⟩ := hcut
      obtain ⟨VO, rfl⟩ : ∃ V, V = wc := ⟨_, rfl⟩
      have HNO : Hid (Below VN.heap.size VN VO) := Lib.hid (below_chain HBL.out HBO.out)
      obtain ⟨y2, y3, y4, y5, y6, y7, y8, y9⟩ := HYN.out VO HNO.out
      have cA := Lib.hid (HAN.out VO HNO.out)
      go_upto_region 21 with (first | (go_at_call 14; (with_reducible refine cA.out.mono ?_); rintro e VT ⟨v, ob, rfl, O, hb, hob⟩; obtain ⟨ust, hul, hil⟩ := ItemsV.of_out O; obtain ⟨ta, tc, rfl⟩ := owns_shape' hul; have HUT := Lib.hid (owns_base hul (show VO.heap.size ≤ ob + 1 by omega)); have HIT := Lib.hid (hil.low (show VO.heap.size ≤ ob + 1 by omega) (Nat.le_refl _)); have HBT := Lib.hid hb; clear hul hil hb hob O))
      clear y2 y3 y4 y5 y6 y7 y8 y9 cA
      rw [← HPL.out] at HUT ⊢
      have HNT : Hid (Below VN.heap.size VN VT) := Lib.hid (below_chain HNO.out HBT.out)
      obtain ⟨y2, y3, y4, y5, y6, y7, y8, y9⟩ := HYN.out VT HNT.out
      obtain ⟨ZN, hZN⟩ : ∃ n, n = T.R.pos.length := ⟨_, rfl⟩
      have cP := Lib.hid (HPN.out VT HNT.out (min (1 : Int) (T.R.pos.length : Int)) (by omega))
      rw [← hZN] at y5 cP
      have HZN := Lib.hid hZN
      clear hZN
      go_cut [18] (fun t w' => ∃ (fa : Option Addr) (fc : Nat) (usf : List Value), t = .slice fa QN fc ∧ Hid (w'.ownsRow VT.heap.size 22 1 (.slice fa QN fc) QN usf) ∧ Hid (ItemsV VT.heap.size w'.heap.size usf Q w') ∧ Hid (Below VT.heap.size VT w'))
      case first => as_aux_lemma =>
        go_wp2_with (first | (go_at_call 15; (with_reducible refine cP.out.mono ?_); rintro e VF ⟨v, ob, rfl, O, hb, hob⟩; obtain ⟨usf, hul, hil⟩ := ItemsV.of_out O; obtain ⟨fa, fc, rfl⟩ := owns_shape' hul; have HUF := Lib.hid (owns_base hul (show VT.heap.size ≤ ob + 1 by omega)); have HIF := Lib.hid (hil.low (show VT.heap.size ≤ ob + 1 by omega) (Nat.le_refl _)); have HBF := Lib.hid hb; clear hul hil hb hob O))
        rw [← HQL.out] at HUF
        go_meet
        exact ⟨fa, fc, usf, by rw [HQL.out], HUF, HIF, HBF⟩
      case rest =>
        obtain ⟨fa, fc, usf, rfl, HUF, HIF, HBF⟩ := hcut
        obtain ⟨VF, rfl⟩ : ∃ V, V = wc := ⟨_, rfl⟩
        clear y2 y3 y4 y5 y6 y7 y8 y9 cP
        have HNF : Hid (Below VN.heap.size VN VF) := Lib.hid (below_chain HNT.out HBF.out)
        go_upto_region 23 with fail
        obtain ⟨VG, hVG⟩ : ∃ V, V = VF.alloc (.cells #[.slice none 0 0] 38) := ⟨_, rfl⟩
        obtain ⟨eb, heb⟩ : ∃ b, b = VF.heap.size := ⟨_, rfl⟩
        rw [← hVG, ← heb]
        have hbG : Below VF.heap.size VF VG := by rw [hVG]; exact (Below.refl _ _).alloc (Nat.le_refl _) _
        have hqG : VG.heap[eb]? = some (.cells #[.slice none 0 0] 38 (0, 0)) := by rw [hVG, heb]; exact World.alloc_heap_new VF _
        have HNG : Hid (Below VN.heap.size VN VG) := Lib.hid (below_chain HNF.out hbG)
        obtain ⟨y2, y3, y4, y5, y6, y7, y8, y9⟩ := HYN.out VG HNG.out
        have cE : Hid (Calls Try.prog 37 #[.pointer (some ⟨sb, 0, none⟩), .slice T.ca T.cs.length T.cc, .agg #[.int .i64 T.R.hp, .slice T.R.ha T.R.hn T.R.hc, .slice T.R.pa T.R.pos.length T.R.pc, .slice T.R.ta T.R.tests.length T.R.tc, .slice T.R.na T.R.neg.length T.R.nc, .slice T.R.va T.R.nv T.R.vc, .int .i64 T.R.cl], .func (.func 38) #[] #[.pointer (some ⟨eb, 0, none⟩)]] VG (EachO P eb VG)) := Lib.hid (each_own T.R sb T.ca T.cs.length T.cc eb P VG (fun W hW => HAN.out W (below_chain HNG.out hW)) hqG)
        have HBG : Hid (Below VF.heap.size VF VG ∧ eb = VF.heap.size) := Lib.hid ⟨hbG, heb⟩
        clear hVG heb hbG hqG
        go_upto_region 24 with (first | (go_at_call 37; (with_reducible refine cE.out.mono ?_); rintro e VE ⟨use, ve, rfl, hie, hbx, hch⟩; have HIE := Lib.hid hie; have HBX := Lib.hid hbx; have HCE := Lib.hid hch; clear hie hbx hch))
        clear y2 y3 y4 y5 y6 y7 y8 y9 cE
        have HFE : Hid (Below VF.heap.size VF VE) := Lib.hid (HBG.out.1.trans (HCE.out.low HBG.out.1.size (by rw [HBG.out.2]; exact Nat.le_refl _) (fun g e => by cases e)))
        have HNE : Hid (Below VN.heap.size VN VE) := Lib.hid (below_chain HNF.out HFE.out)
        obtain ⟨y2, y3, y4, y5, y6, y7, y8, y9⟩ := HYN.out VE HNE.out
        have cA := Lib.hid (HAN.out VE HNE.out)
        go_upto_region 25 with (first | (go_at_call 14; (with_reducible refine cA.out.mono ?_); rintro e VD ⟨v, ob, rfl, O, hb, hob⟩; obtain ⟨usd, hul, hil⟩ := ItemsV.of_out O; obtain ⟨da, dc, rfl⟩ := owns_shape' hul; have HUD := Lib.hid (owns_base hul (show VE.heap.size ≤ ob + 1 by omega)); have HID := Lib.hid (hil.low (show VE.heap.size ≤ ob + 1 by omega) (Nat.le_refl _)); have HBD := Lib.hid hb; clear hul hil hb hob O))
        clear y2 y3 y4 y5 y6 y7 y8 y9 cA
        rw [← HPL.out] at HUD ⊢
        obtain ⟨ea, ec, rfl⟩ := owns_shape' HBX.out.own
        obtain ⟨EN, hEN⟩ : ∃ n, n = (use.take 40).length := ⟨_, rfl⟩
        have hEN2 : EN = min 40 PN := by rw [hEN, List.length_take, HIE.out.len, HPL.out]
        have HEN := Lib.hid hEN
        have HEN2 := Lib.hid hEN2
        have HUE := Lib.hid (HBX.out.own)
        rw [← hEN] at HUE
        have e0 : VD.cell? ⟨eb, 0, none⟩ = some (.slice ea EN ec) := on_cell HBD.out (by have h := HBX.out.box; rw [← hEN] at h; simp [World.cell?, h])
        have hel : eb < VE.heap.size := (Array.getElem?_eq_some_iff.1 HBX.out.box).1
        have HAL : Hid (∀ g, (Value.slice al PN lc).ownBlock = some g → VN.heap.size ≤ g ∧ g < VL.heap.size) := Lib.hid (fun g hg => HUL.out.lt g hg)
        have HBL2 : Hid (Below VL.heap.size VL VD) := Lib.hid (below_chain (below_chain (below_chain (below_chain HBO.out HBT.out) HBF.out) HFE.out) HBD.out)
        have HBO2 : Hid (Below VO.heap.size VO VD) := Lib.hid (below_chain (below_chain (below_chain HBT.out HBF.out) HFE.out) HBD.out)
        have HBT2 : Hid (Below VT.heap.size VT VD) := Lib.hid (below_chain (below_chain HBF.out HFE.out) HBD.out)
        have HBF2 : Hid (Below VF.heap.size VF VD) := Lib.hid (below_chain HFE.out HBD.out)
        have HI1 := Lib.hid (HIL.out.below HBL2.out)
        have HI2 := Lib.hid (HIT.out.below HBT2.out)
        have HI3 := Lib.hid (HIF.out.below HBF2.out)
        have HI4 := Lib.hid ((HIE.out.below HBD.out).take 40)
        have HU1 : Hid (VD.ownsRow VN.heap.size 22 1 (.slice al PN lc) PN usl) := Lib.hid (owns_below HUL.out HBL2.out (Nat.le_refl _))
        have HU2 : Hid (VD.ownsRow VO.heap.size 22 1 (.slice ta PN tc) PN ust) := Lib.hid (owns_below HUT.out HBT2.out (Nat.le_refl _))
        have HU3 : Hid (VD.ownsRow VT.heap.size 22 1 (.slice fa QN fc) QN usf) := Lib.hid (owns_below HUF.out HBF2.out (Nat.le_refl _))
        have HU4 : Hid (VD.ownsRow VG.heap.size 22 1 (.slice ea EN ec) EN (use.take 40)) := Lib.hid (owns_below HUE.out HBD.out (Nat.le_refl _))
        have HLs : Hid (ListsV VD al P ∧ ListsV VD oa P ∧ ListsV VD ta P ∧ ListsV VD da P ∧ ListsV VD ea (P.take 40)) := Lib.hid (by
          have o2 := HOLD.out.below HBO2.out
          have u1 := HU1.out
          have u2 := HU2.out
          have u5 := HUD.out
          have u4 := HU4.out
          rw [HPL.out] at u1 u2 u5
          have e4 : EN = (P.take 40).length := by rw [hEN2, List.length_take, ← HPL.out]
          rw [e4] at u4
          exact ⟨HI1.out.lists u1, o2.later (fun j _ _ => rfl) rfl, HI2.out.lists u2, HID.out.lists u5, HI4.out.lists u4⟩)
        have HSZ : Hid (VN.heap.size ≤ VL.heap.size ∧ VL.heap.size ≤ VO.heap.size ∧ VO.heap.size ≤ VT.heap.size ∧ VT.heap.size ≤ VF.heap.size ∧ VF.heap.size ≤ VG.heap.size ∧ VG.heap.size ≤ VE.heap.size ∧ VE.heap.size ≤ VD.heap.size ∧ eb = VF.heap.size) := Lib.hid ⟨HBL.out.size, HBO.out.size, HBT.out.size, HBF.out.size, HBG.out.1.size, HCE.out.size, HBD.out.size, HBG.out.2⟩
        have HOK : Hid (∀ j, VL.heap.size ≤ j → j < VO.heap.size → VD.heap[j]? = VO.heap[j]?) := Lib.hid (fun j _ hj => HBO2.out.block j hj)
        have HND : Hid (Below VN.heap.size VN VD) := Lib.hid (below_chain HNE.out HBD.out)
        clear HIL HIT HIF HIE HUL HUT HUF HUE HBX HCE HFE HNE HNF HNG HNT HNO HBL HBO HBT HBF HBG HBD HBL2 HBO2 HBT2 HBF2 hEN hEN2
        have cSa : Hid (∀ V, Below VD.heap.size VD V → Calls Try.prog 16 #[.slice al PN lc, .slice oa PN oc] V fun e w' => e = .returned (.bool true) ∧ Below V.heap.size V w') := Lib.hid (fun V hV => by
          have h := sameLists_any al oa lc oc P P V (HLs.out.1.below hV (Nat.le_refl _)) (HLs.out.2.1.below hV (Nat.le_refl _)) HPs.out.1.1 HPs.out.1.2
          rw [← HPL.out] at h
          simpa using h)
        have cSb : Hid (∀ V, Below VD.heap.size VD V → Calls Try.prog 16 #[.slice ta PN tc, .slice oa PN oc] V fun e w' => e = .returned (.bool true) ∧ Below V.heap.size V w') := Lib.hid (fun V hV => by
          have h := sameLists_any ta oa tc oc P P V (HLs.out.2.2.1.below hV (Nat.le_refl _)) (HLs.out.2.1.below hV (Nat.le_refl _)) HPs.out.1.1 HPs.out.1.2
          rw [← HPL.out] at h
          simpa using h)
        have cSc : Hid (∀ V, Below VD.heap.size VD V → Calls Try.prog 16 #[.slice da PN dc, .slice oa PN oc] V fun e w' => e = .returned (.bool true) ∧ Below V.heap.size V w') := Lib.hid (fun V hV => by
          have h := sameLists_any da oa dc oc P P V (HLs.out.2.2.2.1.below hV (Nat.le_refl _)) (HLs.out.2.1.below hV (Nat.le_refl _)) HPs.out.1.1 HPs.out.1.2
          rw [← HPL.out] at h
          simpa using h)
        have cSd : Hid (∀ V oc', Below VD.heap.size VD V → Calls Try.prog 16 #[.slice ea EN ec, .slice oa EN oc'] V fun e w' => e = .returned (.bool true) ∧ Below V.heap.size V w') := Lib.hid (fun V oc' hV => by
          have h := sameLists_any ea oa ec oc' (P.take 40) (P.take 40) V (HLs.out.2.2.2.2.below hV (Nat.le_refl _)) ((HLs.out.2.1.take 40).below hV (Nat.le_refl _)) (Nat.le_trans (List.length_take_le' _ _) HPs.out.1.1) (fun x hx => HPs.out.1.2 x (List.mem_of_mem_take hx))
          have e4 : EN = (P.take 40).length := by rw [HEN2.out, List.length_take, ← HPL.out]
          rw [← e4] at h
          simpa using h)
        go_cut [151] (fun t w' => t = .bool false ∧ Hid (Below VD.heap.size VD w'))
        case first => as_aux_lemma =>
          have HOF : Hid ((oa = none ∧ PN = 0 ∧ oc = 0) ∨ ∃ g, oa = some ⟨g, 0, none⟩ ∧ PN ≤ oc ∧ oc ≤ maxLen) := Lib.hid (by
            have h := HOLD.out.own
            rw [← HPL.out] at h
            rcases owns_form h with ⟨e, h0, _⟩ | ⟨g, cap, e, _, _, hnc, hcm, _⟩
            · cases e
              exact .inl ⟨rfl, h0, rfl⟩
            · cases e
              exact .inr ⟨g, rfl, hnc, hcm⟩)
          rcases HOF.out with ⟨rfl, hp0, rfl⟩ | ⟨g, rfl, hnc, hcm⟩
          · have hen0 : EN = 0 := by have := HEN2.out; omega
            have hmn : min (40 : Int) 0 = 0 := rfl
            subst hp0
            subst hen0
            have hbd : Below VD.heap.size VD VD.drew := (Below.refl _ _).drew
            have cS5 := Lib.hid (cSa.out VD.drew hbd)
            go_region_held3 (fun w' => w'.cell? ⟨eb, 0, none⟩ = some (.slice ea 0 ec)) (first | assumption | exact e0 | go_keep) (first
             | (go_at_call 16
                with_reducible refine cS5.out.mono ?_
                rintro e x6 ⟨rfl, hb6⟩
                have hB6 : Below VD.heap.size VD x6 := below_chain hbd hb6
                have hS6 : x6.cell? ⟨eb, 0, none⟩ = some (.slice ea 0 ec) := on_cell hB6 e0
                have cS6 := Lib.hid (cSb.out x6 hB6))
             | (go_at_call 16
                with_reducible refine cS6.out.mono ?_
                rintro e x7 ⟨rfl, hb7⟩
                have hB7 : Below VD.heap.size VD x7 := below_chain hB6 hb7
                have hS7 : x7.cell? ⟨eb, 0, none⟩ = some (.slice ea 0 ec) := on_cell hB7 e0
                have cS7 := Lib.hid (cSc.out x7 hB7))
             | (go_at_call 16
                with_reducible refine cS7.out.mono ?_
                rintro e x8 ⟨rfl, hb8⟩
                have hB8 : Below VD.heap.size VD x8 := below_chain hB7 hb8
                have hS8 : x8.cell? ⟨eb, 0, none⟩ = some (.slice ea 0 ec) := on_cell hB8 e0
                have cS8 := Lib.hid (cSd.out x8 0 hB8))
             | (go_at_call 16
                with_reducible refine cS8.out.mono ?_
                rintro e x9 ⟨rfl, hb9⟩
                have hB9 : Below VD.heap.size VD x9 := below_chain hB8 hb9
                have hS9 : x9.cell? ⟨eb, 0, none⟩ = some (.slice ea 0 ec) := on_cell hB9 e0))
            clear hS6 hS7 hS8 hS9
            go_wp2_with fail
            go_meet
            exact ⟨rfl, Lib.hid hB9⟩
          · have hmn : min (40 : Int) (PN : Int) = (EN : Int) := by have := HEN2.out; omega
            have zE0 : (0 : Int) ≤ (EN : Int) := by omega
            have zE1 : (EN : Int) ≤ (oc : Int) := by have := HEN2.out; omega
            have hbd : Below VD.heap.size VD VD.drew := (Below.refl _ _).drew
            have cS5 := Lib.hid (cSa.out VD.drew hbd)
            go_region_held3 (fun w' => w'.cell? ⟨eb, 0, none⟩ = some (.slice ea EN ec)) (first | assumption | exact e0 | go_keep) (first
             | (go_at_call 16
                with_reducible refine cS5.out.mono ?_
                rintro e x6 ⟨rfl, hb6⟩
                have hB6 : Below VD.heap.size VD x6 := below_chain hbd hb6
                have hS6 : x6.cell? ⟨eb, 0, none⟩ = some (.slice ea EN ec) := on_cell hB6 e0
                have cS6 := Lib.hid (cSb.out x6 hB6))
             | (go_at_call 16
                with_reducible refine cS6.out.mono ?_
                rintro e x7 ⟨rfl, hb7⟩
                have hB7 : Below VD.heap.size VD x7 := below_chain hB6 hb7
                have hS7 : x7.cell? ⟨eb, 0, none⟩ = some (.slice ea EN ec) := on_cell hB7 e0
                have cS7 := Lib.hid (cSc.out x7 hB7))
             | (go_at_call 16
                with_reducible refine cS7.out.mono ?_
                rintro e x8 ⟨rfl, hb8⟩
                have hB8 : Below VD.heap.size VD x8 := below_chain hB7 hb8
                have hS8 : x8.cell? ⟨eb, 0, none⟩ = some (.slice ea EN ec) := on_cell hB8 e0
                have cS8 := Lib.hid (cSd.out x8 oc hB8))
             | (go_at_call 16
                with_reducible refine cS8.out.mono ?_
                rintro e x9 ⟨rfl, hb9⟩
                have hB9 : Below VD.heap.size VD x9 := below_chain hB8 hb9
                have hS9 : x9.cell? ⟨eb, 0, none⟩ = some (.slice ea EN ec) := on_cell hB9 e0))
            clear hS6 hS7 hS8 hS9
            go_wp2_with fail
            go_meet
            exact ⟨rfl, Lib.hid hB9⟩
        case rest =>
          obtain ⟨rfl, HBR⟩ := hcut
          obtain ⟨VR, rfl⟩ : ∃ V, V = wc := ⟨_, rfl⟩
          clear cSa cSb cSc cSd HLs
          go_upto_region 27 with fail
          go_cut [11] (fun t w' => ∃ (pa : Option Addr) (pc : Nat), t = .slice pa (PN + PN + QN + EN + PN) pc ∧ Hid (w'.ownsRow VN.heap.size 22 1 (.slice pa (PN + PN + QN + EN + PN) pc) (PN + PN + QN + EN + PN) (usl ++ ust ++ usf ++ use.take 40 ++ usd)) ∧ Hid (VD.grownBy w' (Value.slice al PN lc).ownBlock))
          case first => as_aux_lemma =>
            have HNEb : Hid (some eb ≠ (Value.slice al PN lc).ownBlock) := Lib.hid (fun e => by have := HAL.out eb e.symm; have := HSZ.out; omega)
            have HLo : Hid (∀ B, VL.heap.size ≤ B → ∀ g, (Value.slice al PN lc).ownBlock = some g → g < B) := Lib.hid (fun B hB g hg => by have := HAL.out g hg; omega)
            have hEN40 : EN ≤ 40 := by have := HEN2.out; omega
            obtain ⟨X0, hX0⟩ : ∃ V, V = VR.drew := ⟨_, rfl⟩
            have hb0 : Below VD.heap.size VD X0 := by rw [hX0]; exact HBR.out.drew
            have HX0 : Hid (X0.ownsRow VN.heap.size 22 1 (.slice al PN lc) PN usl) := Lib.hid (owns_below HU1.out hb0 (Nat.le_refl _))
            have HG0 : Hid (VD.grownBy X0 (Value.slice al PN lc).ownBlock) := Lib.hid (grown_of_below hb0)
            have HQ0 : Hid ((Value.slice al PN lc).ownBlock = (Value.slice al PN lc).ownBlock ∨ ∃ g, (Value.slice al PN lc).ownBlock = some g ∧ VD.heap.size ≤ g) := Lib.hid (.inl rfl)
            have E0 : X0.cell? ⟨eb, 0, none⟩ = some (.slice ea EN ec) := on_cell hb0 e0
            have hNV : VN.heap.size ≤ VD.heap.size := HND.out.size
            clear hb0
            refine wp_region_noPanic ?_
            refine wp_region_held_drew (S := (fun w' => w'.cell? ⟨eb, 0, none⟩ = some (.slice ea EN ec))) (by kernel_rfl) ?_ (fun hHeld => ?_)
            · rw [← hX0]; exact E0
            rw [← hX0] at hHeld ⊢
            clear hX0
            refine wpAnyH_take (i := 0) (oi := ⟨some 152, _, _, _, _, _⟩) (v := ?_) rfl (by kernel_rfl) (by kernel_rfl) (by kernel_rfl) (fun _ _ _ h => h) (Or.inl ⟨by rfl, ?_⟩) (by assumption) ?_
            rotate_left 1
            · intro w hSw
              (try dsimp only at hSw)
              go_simp
              all_goals with_reducible rfl
            (try simp only [Act.put, List.setIfInBounds_toArray, List.set_cons_zero, List.set_cons_succ])
            refine wpAnyH_take (i := 1) (oi := ⟨some 153, _, _, _, _, _⟩) (v := ?_) rfl (by kernel_rfl) (by kernel_rfl) (by kernel_rfl) (fun _ _ _ h => h) (Or.inl ⟨by rfl, ?_⟩) (by assumption) ?_
            rotate_left 1
            · intro w hSw
              (try dsimp only at hSw)
              go_simp
              all_goals with_reducible rfl
            (try simp only [Act.put, List.setIfInBounds_toArray, List.set_cons_zero, List.set_cons_succ])
            refine wpAnyH_take (i := 3) (oi := ⟨some 155, _, _, _, _, _⟩) (v := ?_) rfl (by kernel_rfl) (by kernel_rfl) (by kernel_rfl) (fun _ _ _ h => h) (Or.inl ⟨by rfl, ?_⟩) (by assumption) ?_
            rotate_left 1
            · intro w hSw
              (try dsimp only at hSw)
              go_simp
              all_goals with_reducible rfl
            (try simp only [Act.put, List.setIfInBounds_toArray, List.set_cons_zero, List.set_cons_succ])
            refine wpAnyH_take (i := 5) (oi := ⟨some 157, _, _, _, _, _⟩) (v := ?_) rfl (by kernel_rfl) (by kernel_rfl) (by kernel_rfl) (fun _ _ _ h => h) (Or.inl ⟨by rfl, ?_⟩) (by assumption) ?_
            rotate_left 1
            · intro w hSw
              (try dsimp only at hSw)
              go_simp
              all_goals with_reducible rfl
            (try simp only [Act.put, List.setIfInBounds_toArray, List.set_cons_zero, List.set_cons_succ])
            refine wpAnyH_take (i := 7) (oi := ⟨some 159, _, _, _, _, _⟩) (v := ?_) rfl (by kernel_rfl) (by kernel_rfl) (by kernel_rfl) (fun _ _ _ h => h) (Or.inl ⟨by rfl, ?_⟩) (by assumption) ?_
            rotate_left 1
            · intro w hSw
              (try dsimp only at hSw)
              go_simp
              all_goals with_reducible rfl
            (try simp only [Act.put, List.setIfInBounds_toArray, List.set_cons_zero, List.set_cons_succ])
            refine wpAnyH_ready (rs := [2]) (by kernel_rfl) (by simp) ?_
            refine AllReadyH.cons (o := _) rfl (fun K hK => ?_) ?_
            · have hz1 := HG0.out.size
              refine step_append_any elemInts _ rfl _ _ rfl VN.heap.size (.slice al PN lc) PN usl rfl HX0.out ta PN tc ust rfl (own_source (grown_own HG0.out HU2.out (HLo.out _ (by have := HSZ.out; omega)))) (HU2.out.1) (HI2.out.one) (by unfold maxLen; omega) (by omega) (by omega) ?_
              intro v' X1 hown hgrow hblk
              obtain ⟨xa1, xc1, rfl⟩ := owns_shape' hown
              have HX1 := Lib.hid hown
              have HG1 := Lib.hid (grown_two HG0.out hgrow HQ0.out)
              have HQ1 := Lib.hid (own_chain HQ0.out hblk hz1)
              have E1 : X1.cell? ⟨eb, 0, none⟩ = some (.slice ea EN ec) := HG1.out.cell e0 HNEb.out
              clear hown hgrow hblk
              refine hK.out _ _ ?_ (fun hHeld => ?_)
              · exact E1
              clear hK K
              (try simp only [Act.put, List.setIfInBounds_toArray, List.set_cons_zero, List.set_cons_succ])
              refine wpAnyH_ready (rs := [4]) (by kernel_rfl) (by simp) ?_
              refine AllReadyH.cons (o := _) rfl (fun K hK => ?_) ?_
              · have hz2 := HG1.out.size
                refine step_append_any elemInts _ rfl _ _ rfl VN.heap.size (.slice xa1 (PN + PN) xc1) (PN + PN) (usl ++ ust) rfl HX1.out fa QN fc usf rfl (own_source (grown_own HG1.out HU3.out (HLo.out _ (by have := HSZ.out; omega)))) (HU3.out.1) (HI3.out.one) (by unfold maxLen; omega) (by omega) (by omega) ?_
                intro v' X2 hown hgrow hblk
                obtain ⟨xa2, xc2, rfl⟩ := owns_shape' hown
                have HX2 := Lib.hid hown
                have HG2 := Lib.hid (grown_two HG1.out hgrow HQ1.out)
                have HQ2 := Lib.hid (own_chain HQ1.out hblk hz2)
                have E2 : X2.cell? ⟨eb, 0, none⟩ = some (.slice ea EN ec) := HG2.out.cell e0 HNEb.out
                clear hown hgrow hblk
                refine hK.out _ _ ?_ (fun hHeld => ?_)
                · exact E2
                clear hK K
                (try simp only [Act.put, List.setIfInBounds_toArray, List.set_cons_zero, List.set_cons_succ])
                refine wpAnyH_ready (rs := [6]) (by kernel_rfl) (by simp) ?_
                refine AllReadyH.cons (o := _) rfl (fun K hK => ?_) ?_
                · have hz3 := HG2.out.size
                  refine step_append_any elemInts _ rfl _ _ rfl VN.heap.size (.slice xa2 (PN + PN + QN) xc2) (PN + PN + QN) (usl ++ ust ++ usf) rfl HX2.out ea EN ec (use.take 40) rfl (own_source (grown_own HG2.out HU4.out (HLo.out _ (by have := HSZ.out; omega)))) (HU4.out.1) (HI4.out.one) (by unfold maxLen; omega) (by omega) (by omega) ?_
                  intro v' X3 hown hgrow hblk
                  obtain ⟨xa3, xc3, rfl⟩ := owns_shape' hown
                  have HX3 := Lib.hid hown
                  have HG3 := Lib.hid (grown_two HG2.out hgrow HQ2.out)
                  have HQ3 := Lib.hid (own_chain HQ2.out hblk hz3)
                  have E3 : X3.cell? ⟨eb, 0, none⟩ = some (.slice ea EN ec) := HG3.out.cell e0 HNEb.out
                  clear hown hgrow hblk
                  refine hK.out _ _ ?_ (fun hHeld => ?_)
                  · exact E3
                  clear hK K
                  (try simp only [Act.put, List.setIfInBounds_toArray, List.set_cons_zero, List.set_cons_succ])
                  refine wpAnyH_ready (rs := [8]) (by kernel_rfl) (by simp) ?_
                  refine AllReadyH.cons (o := _) rfl (fun K hK => ?_) ?_
                  · have hz4 := HG3.out.size
                    refine step_append_any elemInts _ rfl _ _ rfl VN.heap.size (.slice xa3 (PN + PN + QN + EN) xc3) (PN + PN + QN + EN) (usl ++ ust ++ usf ++ use.take 40) rfl HX3.out da PN dc usd rfl (own_source (grown_own HG3.out HUD.out (HLo.out _ (by have := HSZ.out; omega)))) (HUD.out.1) (HID.out.one) (by unfold maxLen; omega) (by omega) (by omega) ?_
                    intro v' X4 hown hgrow hblk
                    obtain ⟨xa4, xc4, rfl⟩ := owns_shape' hown
                    have HX4 := Lib.hid hown
                    have HG4 := Lib.hid (grown_two HG3.out hgrow HQ3.out)
                    have HQ4 := Lib.hid (own_chain HQ3.out hblk hz4)
                    have E4 : X4.cell? ⟨eb, 0, none⟩ = some (.slice ea EN ec) := HG4.out.cell e0 HNEb.out
                    clear hown hgrow hblk
                    refine hK.out _ _ ?_ (fun hHeld => ?_)
                    · exact E4
                    clear hK K
                    (try simp only [Act.put, List.setIfInBounds_toArray, List.set_cons_zero, List.set_cons_succ])
                    refine wpAnyH_take (i := 9) (oi := ⟨some 11, _, _, _, _, _⟩) (v := ?_) rfl (by kernel_rfl) (by kernel_rfl) (by kernel_rfl) (fun _ _ _ h => h) (Or.inl ⟨by rfl, ?_⟩) (by assumption) ?_
                    rotate_left 1
                    · intro w hSw
                      (try dsimp only at hSw)
                      go_simp
                      all_goals with_reducible rfl
                    (try simp only [Act.put, List.setIfInBounds_toArray, List.set_cons_zero, List.set_cons_succ])
                    refine wpAnyH_done (by kernel_rfl) ?_ _
                    refine NoPanic.normal ?_
                    clear hHeld E0 E1 E2 E3 E4
                    go_wp2_with fail
                    go_meet
                    exact ⟨xa4, xc4, rfl, HX4, HG4⟩
                  exact AllReadyH.nil
                exact AllReadyH.nil
              exact AllReadyH.nil
            exact AllReadyH.nil
          case rest =>
            obtain ⟨pa, pc, rfl, HROW, HGP⟩ := hcut
            obtain ⟨P0, rfl⟩ : ∃ V, V = wc := ⟨_, rfl⟩
            have HJ5 : Hid (ItemsV VN.heap.size VD.heap.size (usl ++ ust ++ usf ++ use.take 40 ++ usd) (P ++ P ++ Q ++ P.take 40 ++ P) VD ∧ ∀ (k : Nat) u j, (usl ++ ust ++ usf ++ use.take 40 ++ usd)[k]? = some u → u.ownBlock = some j → j < VL.heap.size ∨ VO.heap.size ≤ j) := Lib.hid (by
              obtain ⟨l1, l2, l3, l4, l5, l6, l7, -⟩ := HSZ.out
              exact join_five HI1.out HI2.out HI3.out HI4.out HID.out l1 l2 l3 l4 l5 l6 l7)
            have HJ6 := Lib.hid (HJ5.out.1.grown HU1.out HGP.out)
            have HJ7 : Hid (∀ x ∈ P ++ P ++ Q ++ P.take 40 ++ P, x.length ≤ 1000000) := Lib.hid (five_le HPs.out.1.2 HPs.out.1.2 HPs.out.2.2 (fun x hx => HPs.out.1.2 x (List.mem_of_mem_take hx)) HPs.out.1.2)
            obtain ⟨us, hus⟩ : ∃ us, us = usl ++ ust ++ usf ++ use.take 40 ++ usd := ⟨_, rfl⟩
            obtain ⟨acc, hacc⟩ : ∃ acc, acc = P ++ P ++ Q ++ P.take 40 ++ P := ⟨_, rfl⟩
            obtain ⟨N, hN⟩ : ∃ N, N = PN + PN + QN + EN + PN := ⟨_, rfl⟩
            have HIP : Hid (ItemsV VN.heap.size VD.heap.size us acc P0) := Lib.hid (by rw [hus, hacc]; exact HJ6.out)
            have HSEP : Hid (∀ (k : Nat) u j, us[k]? = some u → u.ownBlock = some j → j < VL.heap.size ∨ VO.heap.size ≤ j) := Lib.hid (by rw [hus]; exact HJ5.out.2)
            have HAC : Hid (∀ x ∈ acc, x.length ≤ 1000000) := Lib.hid (by rw [hacc]; exact HJ7.out)
            have HUL : Hid (us.length = N) := Lib.hid (by rw [hus, hN]; exact HROW.out.1.trans (Nat.mul_one _))
            have hN5 : N ≤ 5000000 := by have := HEN2.out; omega
            have HPR : Hid (P0.ownsRow VN.heap.size 22 1 (.slice pa N pc) N us) := Lib.hid (by rw [hus, hN]; exact HROW.out)
            have HP0 : Hid (Below VN.heap.size VN P0 ∧ ∀ j, VL.heap.size ≤ j → j < VO.heap.size → P0.heap[j]? = VO.heap[j]?) := Lib.hid (by
              have hz0 := HSZ.out
              have b1 : Below VN.heap.size VD P0 := ⟨HGP.out.os, HGP.out.tape, HGP.out.output, HGP.out.size, fun j hj => HGP.out.block j (by omega) (fun e => by have := (HAL.out j e.symm).1; omega)⟩
              have hz1 := HSZ.out
              refine ⟨HND.out.trans b1, fun j h1 h2 => ?_⟩
              rw [HGP.out.block j (by omega) (fun e => by have := (HAL.out j e.symm).2; omega)]
              exact HOK.out j h1 h2)
            have HSP : Hid (VL.heap.size ≤ VO.heap.size ∧ VO.heap.size ≤ P0.heap.size ∧ VN.heap.size ≤ P0.heap.size) := Lib.hid (by have := HGP.out.size; have := HSZ.out; omega)
            rw [← hN]
            clear HROW
            have HROW := HPR
            clear HPR HJ5 HJ6 HJ7 hus hacc hN HGP HI1 HI2 HI3 HI4 HID HU1 HU2 HU3 HU4 HUD HAL HOK HND HBR HSZ e0 hel HEN2 HEN
            go_upto_block 4 with fail
            go_cut [23] (fun t w' => ∃ (ma : Option Addr) (mc : Nat) (ms : List Value) (c : Nat → Nat), t = .slice ma N mc ∧ Hid (WrSt P0 c us (acc.map List.length) (.slice ma N mc) ms N w'))
            case first => as_aux_lemma =>
              go_wp2_with fail
              go_loopw [23, 163] (fun v i wr => ∃ (k : Nat) (c : Nat → Nat) (ms : List Value), i = .int .i64 k ∧ k ≤ N ∧ Hid (WrSt P0 c us (acc.map List.length) v ms k wr)) (fun _ i _ => N - (intOf i).toNat)
              case atStart =>
                obtain ⟨c, hc⟩ := WrSt.start HIP.out
                exact ⟨0, c, [], rfl, Nat.zero_le _, Lib.hid hc⟩
              case round =>
                obtain ⟨k, c, ms, rfl, hk, HW⟩ := hrel
                obtain ⟨va, vc, rfl⟩ := owns_shape' HW.out.mown
                by_cases hlt : k < N
                · obtain ⟨u, n, xs, hu, hn, hou, -⟩ := HW.out.at (k := k) (by rw [HUL.out]; exact hlt)
                  obtain ⟨ua, uc, rfl⟩ := owns_shape' hou
                  have hn6 : n ≤ 1000000 := by
                    have h := hn
                    rw [List.getElem?_map] at h
                    obtain ⟨x, hx, rfl⟩ := Option.map_eq_some_iff.1 h
                    exact HAC.out x (List.mem_of_getElem? hx)
                  obtain ⟨g4, rfl, hg4, -⟩ := own_some (HW.out.row HIP.out HROW.out) (by omega)
                  have z0 : wr.cell? ⟨g4, k, none⟩ = some (.slice ua n uc) := hg4 k _ hu
                  have hwi : IntKind.i64.wrap (-10 - (k : Int)) = -10 - (k : Int) := IntWalk.i64_in _ (by omega)
                  have zk : (k : Int) < (N : Int) := by omega
                  have HU := Lib.hid (And.intro hu hn)
                  have HO := Lib.hid hou
                  clear hu hn hou hg4
                  go_upto_block 6 with fail
                  clear z0 zk
                  go_cut [] (fun w' => Hid (WrSt P0 c us (acc.map List.length) (.slice va k vc) ms k w') ∧ Hid (w'.ownsRow 0 3 1 (.slice ua n uc) n (List.replicate n (vI k))))
                  case first => as_aux_lemma =>
                    go_wp2_with fail
                    go_loopw [170] (fun t wx => ∃ (j : Nat) (xs' : List Value), t = .int .i64 j ∧ j ≤ n ∧ Hid (WrSt P0 c us (acc.map List.length) (.slice va k vc) ms k wx) ∧ Hid (wx.ownsRow 0 3 1 (.slice ua n uc) n xs' ∧ xs'.take j = List.replicate j (vI k))) (fun t _ => n - (intOf t).toNat)
                    case atStart => exact ⟨0, xs, rfl, Nat.zero_le _, HW, Lib.hid ⟨HO.out, by simp⟩⟩
                    case round =>
                      obtain ⟨j, xs', rfl, hj, HW2, HO2⟩ := hrel
                      by_cases hjn : j < n
                      · obtain ⟨g, rfl, hg, hf⟩ := own_some HO2.out.1 (by omega)
                        obtain ⟨x0, hx0⟩ : ∃ x, xs'[j]? = some x := ⟨_, List.getElem?_eq_getElem (by rw [HO2.out.1.1]; omega)⟩
                        have z1 := hg j _ hx0
                        have f1 := hf j
                        have zj : (j : Int) < (n : Int) := by omega
                        have HN2 : Hid (WrSt P0 c us (acc.map List.length) (.slice va k vc) ms k (wr.setCell ⟨g, j, none⟩ (.int .i64 (-10 - (k : Int)))) ∧ (wr.setCell ⟨g, j, none⟩ (.int .i64 (-10 - (k : Int)))).ownsRow 0 3 1 (.slice (some ⟨g, 0, none⟩) n uc) n (xs'.set j (vI k)) ∧ (xs'.set j (vI k)).take (j + 1) = List.replicate (j + 1) (vI k)) := Lib.hid ⟨HW2.out.write HU.out.1 HU.out.2 (vI k), own_int (vI k) HO2.out.1, fill_next (by rw [HO2.out.1.1]; omega) hjn HO2.out.2⟩
                        clear hg hf hx0
                        go_wp2_with fail
                        go_roundw
                        case rel => exact ⟨j + 1, _, by go_num, by omega, Lib.hid HN2.out.1, Lib.hid HN2.out.2⟩
                        case measure => simp [intOf]; omega
                      · have hje : j = n := by omega
                        subst hje
                        go_wp2_with fail
                        go_meet
                        refine ⟨HW2, Lib.hid ?_⟩
                        obtain ⟨h1, h2⟩ := HO2.out
                        rw [List.take_of_length_le (by rw [h1.1]; omega)] at h2
                        rw [h2] at h1
                        exact h1
                  case rest =>
                    obtain ⟨HW2, HO2⟩ := hcut
                    obtain ⟨WX, rfl⟩ : ∃ V, V = wc := ⟨_, rfl⟩
                    clear HW HO
                    have hsz0 := HW2.out.size
                    go_wp2_with (first | (at_builtin; refine wpList_append_two elemInt _ rfl _ _ rfl 0 (.slice ua n uc) n (List.replicate n (vI k)) rfl (owns_below HO2.out ((Below.refl _ _).alloc (Nat.le_refl _) _) (Nat.le_refl _)) ⟨WX.heap.size, 0, none⟩ 1 1 [vI k] rfl (new_cell WX (vI k) _) rfl (by simp [vI, Value.oneCell']) (by unfold maxLen; omega) (by omega) (Nat.zero_le _) ?_; intro m' w6 hown6 hcase6; obtain ⟨ma6, mc6, rfl⟩ := owns_shape' hown6; have HO6 := Lib.hid hown6; have HC6 := Lib.hid hcase6; have hsz6 : WX.heap.size ≤ w6.heap.size := (by rcases hcase6 with ⟨_, _, _, _, q⟩ | ⟨_, q⟩ <;> (have := q.size; simp at this; omega)); have HM6 := Lib.hid (HW2.out.mid HO2.out ((Below.refl _ _).alloc (Nat.le_refl _) _) hcase6 ((Below.refl _ _).alloc (Nat.le_refl _) (.cells #[.slice ma6 (n + 1) mc6] 22))); clear hown6 hcase6) | (at_builtin; refine wpList_append_any elemInts _ rfl _ _ rfl P0.heap.size (.slice va k vc) k ms rfl HM6.out (some ⟨w6.heap.size, 0, none⟩) 1 1 [.slice ma6 (n + 1) mc6] rfl (source_new _ _ _) rfl (by simp [Value.oneCell']) (by unfold maxLen; omega) (by omega) (by simp; omega) ?_; intro v' w9 hown9 hgrow9 hblk9; have HP9 := Lib.hid (HW2.out.push HU.out.1 HU.out.2 HO2.out ((Below.refl _ _).alloc (Nat.le_refl _) _) HO6.out HC6.out ((Below.refl _ _).alloc (Nat.le_refl _) _) hgrow9 hown9); clear hown9 hgrow9 hblk9))
                    go_roundw
                    case rel =>
                      obtain ⟨c', hc'⟩ := HP9.out
                      exact ⟨k + 1, c', _, by go_num, by omega, Lib.hid hc'⟩
                    case measure => simp [intOf]; omega
                · have hke : k = N := by omega
                  subst hke
                  go_wp2_with fail
                  go_meet
                  exact ⟨va, vc, ms, c, rfl, HW⟩
            case rest =>
              obtain ⟨ma, mc, ms, c, rfl, HW⟩ := hcut
              obtain ⟨WF, rfl⟩ : ∃ V, V = wc := ⟨_, rfl⟩
              have HMR : Hid (WF.ownsRow P0.heap.size 22 1 (.slice ma N mc) N ms) := Lib.hid HW.out.mown
              have HLR : Hid (WF.ownsRow VN.heap.size 22 1 (.slice pa N pc) N us) := Lib.hid (HW.out.row HIP.out HROW.out)
              have hloN : Below VN.heap.size P0 WF := HW.out.lows HIP.out (Nat.le_refl _) HSP.out.2.2
              have HNW : Hid (Below VN.heap.size VN WF) := Lib.hid (HP0.out.1.trans hloN)
              have HOW : Hid (ListsV WF oa P) := Lib.hid (HOLD.out.later (fun j h1 h2 => by
                rw [← HP0.out.2 j h1 h2]
                refine HW.out.keep j (by have := HSP.out; omega) (fun k u hu e => ?_)
                rcases HSEP.out k u j hu e with h | h <;> omega) rfl)
              clear hloN HSEP HP0 HROW HOLD
              go_upto_block 8 with fail
              go_cut [] (fun w' => w' = WF)
              case first => as_aux_lemma =>
                go_wp2_with fail
                go_loopw [190] (fun t wr => ∃ k : Nat, t = .int .i64 k ∧ k ≤ N ∧ wr = WF) (fun t _ => N - (intOf t).toNat)
                case atStart => exact ⟨0, rfl, Nat.zero_le _, rfl⟩
                case round =>
                  obtain ⟨k, rfl, hk, rfl⟩ := hrel
                  by_cases hlt : k < N
                  · obtain ⟨u, n, xs, hu, hn, hou, hxs⟩ := HW.out.at (k := k) (by rw [HUL.out]; exact hlt)
                    have hxs := hxs hlt
                    subst hxs
                    obtain ⟨ua, uc, rfl⟩ := owns_shape' hou
                    have hn6 : n ≤ 1000000 := by
                      have h := hn
                      rw [List.getElem?_map] at h
                      obtain ⟨x, hx, rfl⟩ := Option.map_eq_some_iff.1 h
                      exact HAC.out x (List.mem_of_getElem? hx)
                    obtain ⟨m, hm⟩ : ∃ m, ms[k]? = some m := ⟨_, List.getElem?_eq_getElem (by rw [HW.out.len.2]; exact hlt)⟩
                    obtain ⟨hom, -⟩ := HW.out.done k m n hm hn
                    obtain ⟨qa, qc, rfl⟩ := owns_shape' hom
                    obtain ⟨n1, hn1⟩ : ∃ n1, n1 = n + 1 := ⟨_, rfl⟩
                    rw [← hn1] at hom hm
                    obtain ⟨g4, rfl, hg4, -⟩ := own_some HLR.out (by omega)
                    obtain ⟨g5, rfl, hg5, -⟩ := own_some HMR.out (by omega)
                    obtain ⟨gq, rfl, hgq, -⟩ := own_some hom (by omega)
                    have HZ4 : Hid (wr.cell? ⟨g4, k, none⟩ = some (.slice ua n uc)) := Lib.hid (hg4 k _ hu)
                    have z5 : wr.cell? ⟨g5, k, none⟩ = some (.slice (some ⟨gq, 0, none⟩) n1 qc) := hg5 k _ hm
                    have HQ : Hid (∀ j, j < n1 → wr.cell? ⟨gq, j, none⟩ = some (.int .i64 (-10 - (k : Int)))) := Lib.hid (fun j hj => hgq j _ (by rw [List.getElem?_replicate, if_pos hj]; rfl))
                    have HUo := Lib.hid hou
                    have hwi : IntKind.i64.wrap (-10 - (k : Int)) = -10 - (k : Int) := IntWalk.i64_in _ (by omega)
                    have zk : (k : Int) < (N : Int) := by omega
                    clear hu hn hou hm hom hg4 hg5 hgq
                    go_upto_block 10 with fail
                    go_cut [] (fun w' => w' = wr)
                    case first => as_aux_lemma =>
                      go_wp2_with fail
                      clear z5
                      go_loopw [198] (fun t wx => ∃ j : Nat, t = .int .i64 j ∧ j ≤ n1 ∧ wx = wr) (fun t _ => n1 - (intOf t).toNat)
                      case atStart => exact ⟨0, rfl, Nat.zero_le _, rfl⟩
                      case round =>
                        obtain ⟨j, rfl, hj, rfl⟩ := hrel
                        by_cases hjn : j < n1
                        · have q1 := HQ.out j hjn
                          have zj : (j : Int) < (n1 : Int) := by omega
                          go_wp2_with fail
                          go_roundw
                          case rel => exact ⟨j + 1, by go_num, by omega, by first | rfl | trivial⟩
                          case measure => simp [intOf]; omega
                        · have hje : j = n1 := by omega
                          subst hje
                          go_wp2_with fail
                          go_meet
                          rfl
                    case rest =>
                      have hwc := hcut
                      subst hwc
                      clear z5 HQ
                      have z4 := HZ4.out
                      go_wp2_with fail
                      clear z4
                      go_loopw [212] (fun t wx => ∃ j : Nat, t = .int .i64 j ∧ j ≤ n ∧ wx = wc) (fun t _ => n - (intOf t).toNat)
                      case atStart => exact ⟨0, rfl, Nat.zero_le _, rfl⟩
                      case round =>
                        obtain ⟨j, rfl, hj, rfl⟩ := hrel
                        by_cases hjn : j < n
                        · obtain ⟨g, rfl, hg, -⟩ := own_some HUo.out (by omega)
                          have q1 : wr.cell? ⟨g, j, none⟩ = some (.int .i64 (-10 - (k : Int))) := hg j _ (by rw [List.getElem?_replicate, if_pos hjn]; rfl)
                          have zj : (j : Int) < (n : Int) := by omega
                          clear hg
                          go_wp2_with fail
                          go_roundw
                          case rel => exact ⟨j + 1, by go_num, by omega, by first | rfl | trivial⟩
                          case measure => simp [intOf]; omega
                        · have hje : j = n := by omega
                          subst hje
                          go_wp2_with fail
                          go_roundw
                          case rel => exact ⟨k + 1, by go_num, by omega, by first | rfl | trivial⟩
                          case measure => simp [intOf]; omega
                  · have hke : k = N := by omega
                    subst hke
                    go_wp2_with fail
                    go_meet
                    rfl
              case rest =>
                have hwc := hcut
                clear hcut
                subst hwc
                clear HMR HLR HW HUL HAC HIP HSP
                obtain ⟨y2, y3, y4, y5, y6, y7, y8, y9⟩ := HYN.out _ HNW.out
                have cA := Lib.hid (HAN.out _ HNW.out)
                go_upto_block 14 with (first | (go_at_call 14; (with_reducible refine cA.out.mono ?_); rintro e VA ⟨v, ob, rfl, O, hb, -⟩; obtain ⟨na, nc, rfl, hL⟩ := O.lists; have HLn := Lib.hid hL; have HNA := Lib.hid (below_chain HNW.out hb); have HOA := Lib.hid (HOW.out.below hb (Nat.le_refl _)); clear hL hb O))
                clear y2 y3 y4 y5 y6 y7 y8 y9 cA HNW HOW HAN HPN
                rw [← HPL.out]
                have HWA : Hid (Below w.heap.size w VA) := Lib.hid (below_chain HBwN.out HNA.out)
                have HKA := Lib.hid (HKN.out.below HNA.out)
                have HCA := Lib.hid (HCN.out.below HNA.out (Nat.le_refl _))
                have HTA := Lib.hid (HTN.out.below HNA.out)
                have HSA := Lib.hid (HSN.out.below HNA.out)
                have HRA := Lib.hid (HRW.out.below HNA.out)
                obtain ⟨y2a, y3a, y4a, y5a, y6a, y7a, y8a, y9a⟩ := HYN.out _ HNA.out
                have HYA := Lib.hid (And.intro y2a (And.intro y3a (And.intro y4a (And.intro y5a (And.intro y6a (And.intro y7a (And.intro y8a y9a)))))))
                clear y3a y4a y5a y6a y7a y8a y9a HBwN HKN HCN HTN HSN HRW HNA HYN
                obtain ⟨CN, hCN⟩ : ∃ n, n = T.cs.length := ⟨_, rfl⟩
                rw [← hCN] at y2a ⊢
                have hC5 : CN ≤ 5 := by rw [hCN]; exact HTA.out.conOk.2.2
                have HCNl := Lib.hid hCN
                clear hCN
                go_cut [] (fun w' => Hid (Below VA.heap.size VA w'))
                case first => as_aux_lemma =>
                  go_wp2_with fail
                  go_loopw [233] (fun t wr => ∃ k : Nat, t = .int .i64 k ∧ k ≤ CN ∧ Hid (Below VA.heap.size VA wr)) (fun t _ => CN - (intOf t).toNat)
                  case atStart => exact ⟨0, rfl, Nat.zero_le _, Lib.hid (Below.refl _ _)⟩
                  case round =>
                    obtain ⟨k, rfl, hk, HB⟩ := hrel
                    by_cases hlt : k < CN
                    · have hkl : k < T.cs.length := by rw [← HCNl.out]; exact hlt
                      obtain ⟨bc, of, hca, hcc⟩ : ∃ b off, T.ca = some ⟨b, off, none⟩ ∧ ∀ i (h : i < T.cs.length), VA.cell? ⟨b, off + i * 3, none⟩ = some (.int .i64 T.cs[i].1) ∧ VA.cell? ⟨b, off + i * 3 + 1, none⟩ = some (.int .i64 T.cs[i].2.1) ∧ VA.cell? ⟨b, off + i * 3 + 2, none⟩ = some (.string T.cs[i].2.2) := by
                        rcases HTA.out.con with h | h
                        · rw [h] at hkl; simp at hkl
                        · exact h
                      obtain ⟨bd, og, hcb, hcd⟩ : ∃ b off, c6 = some ⟨b, off, none⟩ ∧ ∀ i (h : i < T.cs.length), VA.cell? ⟨b, off + i * 3, none⟩ = some (.int .i64 T.cs[i].1) ∧ VA.cell? ⟨b, off + i * 3 + 1, none⟩ = some (.int .i64 T.cs[i].2.1) ∧ VA.cell? ⟨b, off + i * 3 + 2, none⟩ = some (.string T.cs[i].2.2) := by
                        rcases HCA.out with h | h
                        · rw [h] at hkl; simp at hkl
                        · exact h
                      obtain ⟨q0, q1, q2⟩ := hcc k hkl
                      obtain ⟨p0, p1, p2⟩ := hcd k hkl
                      generalize T.cs[k] = d at q0 q1 q2 p0 p1 p2
                      obtain ⟨d0, d1, d2⟩ := d
                      simp only at q0 q1 q2 p0 p1 p2
                      subst hcb
                      have y2 := on_cell HB.out y2a
                      rw [hca] at y2
                      have q0 := on_cell HB.out q0
                      have q1 := on_cell HB.out q1
                      have q2 := on_cell HB.out q2
                      have p0 := on_cell HB.out p0
                      have p1 := on_cell HB.out p1
                      have p2 := on_cell HB.out p2
                      have zk : (k : Int) < (CN : Int) := by omega
                      clear y2a hcc hcd hca hkl
                      go_upto_region 59 with fail
                      go_region_held3 (fun w' => w'.cell? ⟨b5, 2, none⟩ = some (.slice (some ⟨bc, of, none⟩) CN T.cc) ∧ w'.cell? ⟨bc, of + k * 3, none⟩ = some (.int .i64 d0) ∧ w'.cell? ⟨bc, of + k * 3 + 1, none⟩ = some (.int .i64 d1) ∧ w'.cell? ⟨bc, of + k * 3 + 2, none⟩ = some (.string d2) ∧ w'.cell? ⟨bd, og + k * 3, none⟩ = some (.int .i64 d0) ∧ w'.cell? ⟨bd, og + k * 3 + 1, none⟩ = some (.int .i64 d1) ∧ w'.cell? ⟨bd, og + k * 3 + 2, none⟩ = some (.string d2)) (first | assumption | exact ⟨y2, q0, q1, q2, p0, p1, p2⟩ | go_keep) (fail)
                      clear y2 q0 q1 q2 p0 p1 p2
                      go_wp2_with fail
                      go_roundw
                      case rel => exact ⟨k + 1, by go_num, by omega, by first | exact HB | exact Lib.hid HB.out.drew⟩
                      case measure => simp [intOf]; omega
                    · have hke : k = CN := by omega
                      subst hke
                      clear y2a
                      go_wp2_with fail
                      go_meet
                      exact HB
                case rest =>
                  have HB2 := hcut
                  obtain ⟨VB, rfl⟩ : ∃ V, V = wc := ⟨_, rfl⟩
                  clear y2a hC5 HCNl HCA hcut
                  have hla : la.length = RN := by rw [HRN.out, ← HLA.out, List.length_map]
                  have HLal := Lib.hid hla
                  clear hla
                  go_upto_block 16 with fail
                  go_cut [] (fun w' => Hid (Below VA.heap.size VA w'))
                  case first => as_aux_lemma =>
                    go_wp2_with fail
                    go_loopw [257] (fun t wr => ∃ k : Nat, t = .int .i64 k ∧ k ≤ RN ∧ Hid (Below VA.heap.size VA wr)) (fun t _ => RN - (intOf t).toNat)
                    case atStart => exact ⟨0, rfl, Nat.zero_le _, HB2⟩
                    case round =>
                      clear HB2
                      obtain ⟨k, rfl, hk, HB⟩ := hrel
                      by_cases hlt : k < RN
                      · obtain ⟨r, hr⟩ : ∃ r, rows[k]? = some r := ⟨_, List.getElem?_eq_getElem (by rw [← HRN.out]; exact hlt)⟩
                        have hkl : k < la.length := by rw [HLal.out]; exact hlt
                        have hlr : la[k].1 = r := by
                          have h := hr
                          rw [← HLA.out, List.getElem?_map, List.getElem?_eq_getElem hkl] at h
                          simpa using h
                        have hil := HRA.out.ints la[k] (List.getElem_mem hkl)
                        obtain ⟨k0, k1⟩ := rowCells_at la k hkl
                        have hro := HRA.out.own
                        rw [HLal.out] at hro
                        obtain ⟨g, rfl, hg, -⟩ := own_some hro (by omega)
                        have q0 := hg _ _ k0
                        have q1 := hg _ _ k1
                        obtain ⟨⟨r1, sa, sc⟩, hrk⟩ : ∃ r : RowA, la[k] = r := ⟨_, rfl⟩
                        rw [hrk] at hlr hil q0 q1
                        simp only at hlr hil q0 q1
                        subst hlr
                        obtain ⟨p, xs⟩ := r1
                        simp only at hil q0 q1
                        have hxl : xs.length ≤ 9223372036854775807 := by
                          have h := (HSA.out.sound.2.1 (p, xs) (List.mem_of_getElem? hr)).2.2.2.1
                          simp only at h
                          omega
                        have q0 := on_cell HB.out q0
                        have q1 := on_cell HB.out q1
                        have HIL := Lib.hid ((hil.ints).below HB.out)
                        have cRow := Lib.hid (row_L (HSA.out.below HB.out) k (p, xs) hr)
                        have zk : (k : Int) < (RN : Int) := by omega
                        clear hr hkl hil k0 k1 hro hg hrk
                        go_upto_region 66 with (first | (go_at_call 36; (with_reducible refine cRow.out.mono ?_); rintro e V6 ⟨a, c, rfl, hI6, hb6⟩; have HI6 := Lib.hid hI6; have HB6 := Lib.hid hb6; clear hI6 hb6; have q0 := on_cell HB6.out q0; have q1 := on_cell HB6.out q1))
                        try simp only at HI6
                        clear cRow
                        obtain ⟨V7, hV7⟩ : ∃ V, V = V6.alloc (.cells #[.int .i64 p, .slice a xs.length c] 50) := ⟨_, rfl⟩
                        obtain ⟨b9, hb9⟩ : ∃ b, b = V6.heap.size := ⟨_, rfl⟩
                        rw [← hV7, ← hb9]
                        have hbw7 : Below V6.heap.size V6 V7 := by rw [hV7]; exact (Below.refl _ _).alloc (Nat.le_refl _) _
                        have z0 : V7.cell? ⟨b9, 0, none⟩ = some (.int .i64 p) := by rw [hV7, hb9]; simp [World.cell?_alloc_at]
                        have z1 : V7.cell? ⟨b9, 1, none⟩ = some (.slice a xs.length c) := by rw [hV7, hb9]; simp [World.cell?_alloc_at]
                        have hb7 : Below wr.heap.size wr V7 := below_chain HB6.out hbw7
                        have q0 := on_cell hbw7 q0
                        have q1 := on_cell hbw7 q1
                        have HB7 : Hid (Below VA.heap.size VA V7) := Lib.hid (below_chain HB.out hb7)
                        have hbd : Below V7.heap.size V7 V7.drew := (Below.refl _ _).drew
                        have cI : Hid (Calls Try.prog 31 #[.slice a xs.length c, .slice sa xs.length sc] V7.drew fun e w' => e = .returned (.bool true) ∧ ∃ n, V7.drew.drewN n = w') := Lib.hid (by
                          have h := sameInts_any a sa c sc xs xs V7.drew ((HI6.out.ints.below hbw7).below hbd) ((HIL.out.below hb7).below hbd) hxl
                          simpa using h)
                        clear hV7 hb9 hbw7 hb7 HI6 HB6
                        go_region_held3 (fun w' => w'.cell? ⟨b9, 0, none⟩ = some (.int .i64 p) ∧ w'.cell? ⟨b9, 1, none⟩ = some (.slice a xs.length c) ∧ w'.cell? ⟨g, k * 2, none⟩ = some (.int .i64 p) ∧ w'.cell? ⟨g, k * 2 + 1, none⟩ = some (.slice sa xs.length sc)) (first | assumption | exact ⟨z0, z1, q0, q1⟩ | go_keep) (first
                          | (go_at_call 31
                             with_reducible refine cI.out.mono ?_
                             rintro e V8 ⟨rfl, nd, hV8⟩
                             have hb8 : Below V7.heap.size V7 V8 := by rw [← hV8]; exact below_drewN hbd nd
                             have hS : V8.cell? ⟨b9, 0, none⟩ = some (.int .i64 p) ∧ V8.cell? ⟨b9, 1, none⟩ = some (.slice a xs.length c) ∧ V8.cell? ⟨g, k * 2, none⟩ = some (.int .i64 p) ∧ V8.cell? ⟨g, k * 2 + 1, none⟩ = some (.slice sa xs.length sc) := ⟨on_cell hb8 z0, on_cell hb8 z1, on_cell hb8 q0, on_cell hb8 q1⟩))
                        have HB8 : Hid (Below VA.heap.size VA V8) := Lib.hid (below_chain HB7.out hb8)
                        clear hS hb8 hV8 z0 z1 q0 q1 cI
                        go_wp2_with fail
                        go_roundw
                        case rel => exact ⟨k + 1, by go_num, by omega, HB8⟩
                        case measure => simp [intOf]; omega
                      · have hke : k = RN := by omega
                        subst hke
                        go_wp2_with fail
                        go_meet
                        exact HB
                  case rest =>
                    have HB3 := hcut
                    clear hcut HB2
                    obtain ⟨VC, rfl⟩ : ∃ V, V = wc := ⟨_, rfl⟩
                    obtain ⟨y2, y3, y4, y5, y6, y7, y8, y9⟩ := HYA.out
                    have y3 := on_cell HB3.out y3
                    have y4 := on_cell HB3.out y4
                    have y5 := on_cell HB3.out y5
                    have y6 := on_cell HB3.out y6
                    have y7 := on_cell HB3.out y7
                    have y8 := on_cell HB3.out y8
                    have y9 := on_cell HB3.out y9
                    have HKC := Lib.hid (HKA.out.below HB3.out)
                    obtain ⟨v0, v1, v2, v3, v4, v5, v6⟩ := HKC.out.cells
                    have cS : Hid (Calls Try.prog 16 #[.slice oa PN oc, .slice na PN nc] VC fun e w' => e = .returned (.bool true) ∧ Below VC.heap.size VC w') := Lib.hid (by
                      have h := sameLists_any oa na oc nc P P VC (HOA.out.below HB3.out (Nat.le_refl _)) (HLn.out.below HB3.out (Nat.le_refl _)) HPs.out.1.1 HPs.out.1.2
                      rw [← HPL.out] at h
                      simpa using h)
                    have cL : Hid (∀ V, Below VC.heap.size VC V → Calls Try.prog 35 #[.pointer (some ⟨sb, 0, none⟩)] V fun e w' => e = .returned (.int .i64 RN) ∧ w' = V) := Lib.hid (fun V hV => by rw [HRN.out]; exact len_L (HSA.out.below (below_chain HB3.out hV)))
                    have cR : Hid (∀ V, Below VC.heap.size VC V → Calls Try.prog 39 #[.agg #[.int .i64 T.R.hp, .slice T.R.ha T.R.hn T.R.hc, .slice T.R.pa T.R.pos.length T.R.pc, .slice T.R.ta T.R.tests.length T.R.tc, .slice T.R.na T.R.neg.length T.R.nc, .slice T.R.va T.R.nv T.R.vc, .int .i64 T.R.cl], .agg #[.int .i64 T.R.hp, .slice rha T.R.hn rhc, .slice rpa T.R.pos.length rpc, .slice rta T.R.tests.length rtc, .slice rna T.R.neg.length rnc, .slice rva T.R.nv rvc, .int .i64 T.R.cl]] V fun e w' => e = .returned (.bool true) ∧ Below V.heap.size V w') := Lib.hid (fun V hV => by
                      have hAV : Below VA.heap.size VA V := below_chain HB3.out hV
                      have hT := HTA.out.below hAV
                      obtain ⟨-, k1, k2, k3, k4, k5⟩ := HKC.out.below hV
                      have hn : T.R.hn = hs.length := by rw [HE.out.2]; exact HHS.out.1
                      have hh : Slots V T.R.ha hs := by rw [HE.out.1]; exact HHS.out.2.below (below_chain HWA.out hAV) (Nat.le_refl _)
                      have h := sameRule_any T.R.hp T.R.cl hs T.R.pos T.R.neg T.R.tests T.R.nv T.R.ha rha T.R.pa rpa T.R.na rna T.R.ta rta T.R.va rva T.R.hc rhc T.R.pc rpc T.R.nc rnc T.R.tc rtc T.R.vc rvc V hh k1 hT.rule.pos k2 hT.rule.neg k4 hT.rule.tests k3 (strs_of_row hT.vars) k5 hlen (by have := hT.lens; omega) (by have := hT.lens; omega) (by have := hT.lens; omega) (by have := hT.ruleOk.vars; omega) (fun p hp => (hT.ruleOk.pos p hp).2.1) (fun p hp => (hT.ruleOk.neg p hp).2.1)
                      rw [← hn] at h
                      exact h)
                    have HBw : Hid (Below w.heap.size w VC) := Lib.hid (below_chain HWA.out HB3.out)
                    clear HYA y2 HKA HKC HTA HSA HRA HLA HLn HOA HB3 HWA HLal
                    go_wp2_with (first | (go_at_call 16; (with_reducible refine cS.out.mono ?_); rintro e x6 ⟨rfl, hb6⟩; have cL6 := Lib.hid (cL.out x6 hb6); have cR6 := Lib.hid (cR.out x6 hb6); have y3 := on_cell hb6 y3; have y4 := on_cell hb6 y4; have y5 := on_cell hb6 y5; have y6 := on_cell hb6 y6; have y7 := on_cell hb6 y7; have y8 := on_cell hb6 y8; have y9 := on_cell hb6 y9; have v0 := on_cell hb6 v0; have v1 := on_cell hb6 v1; have v2 := on_cell hb6 v2; have v3 := on_cell hb6 v3; have v4 := on_cell hb6 v4; have v5 := on_cell hb6 v5; have v6 := on_cell hb6 v6) | (go_at_call 35; (with_reducible refine cL6.out.mono ?_); rintro e x7 ⟨rfl, hw7⟩; rw [hw7]; clear hw7 x7) | (go_at_call 39; (with_reducible refine cR6.out.mono ?_); rintro e x8 ⟨rfl, hb8⟩; clear y3 y4 y5 y6 y7 y8 y9 v0 v1 v2 v3 v4 v5 v6) | (go_at_call 17; (with_reducible refine (taken_any _).mono ?_); rintro e x9 ⟨rfl, hb9⟩))
                    go_ret
                    exact ⟨rfl, below_chain (below_chain (below_chain HBw.out hb6) hb8) hb9⟩
end Mt
end Go.Proofs.Ytkejjiohkhlnnaa

namespace Go.Proofs.Ytkejjiohkhlnnaa.matchOwnLaw
open Go.ChangeShapes Go.WideShapes Go.ChangeAt Go.RowKit Go.Joins
open Go.ChangeMaps (open_string shut_string)

theorem own : ownKnob Try.prog.godebug = none := by kernel_rfl
theorem laidOut : laidOutB Try.prog = true := by kernel_rfl

set_option maxRecDepth 100000 in
theorem lifted (os : Os) (started : os.Started) (H : Type) (enc : TypeId × Value → H) :
    ReturnsInHanded {} Try.checked os 10 .any (Rows.matchOwnSpec.pre6 enc Try.prog Try.f10 Rows.matchOwnRow.domain false) (Rows.matchOwnSpec.post enc Try.prog Try.f10 false true false false) := by
  refine returnsInHanded_of_change_sized (C := Try.checked) own started (by kernel_rfl) Try.func10
    (ChangeSpec.witness6 (enc := enc) (C := Try.checked) false ⟨#[], #[.agg #[.slice none 0 0, .slice none 0 0, .slice none 0 0, .int .i64 0, .slice none 0 0, .slice none 0 0, .slice none 0 0, .slice none 0 0, .slice none 0 0, .int .i64 0, .int .i64 0]], []⟩ 8 (by kernel_rfl) (by kernel_rfl) (by kernel_rfl) (by kernel_rfl)) ?_
  intro W base args ds gs before hval0 hW _ hsz0 _
  have hsz : (DataW.weightsEach Try.prog (Try.f10.params.toList ++ Rows.matchOwnSpec.plain.varTypes Try.prog) (ds ++ gs)).all (· ≤ reachBytes) = true := hsz0
  clear hsz0
  have hval : ∀ (j : Nat) t v, Try.f10.params[j]? = some t → args[j]? = some v → Value.okWide Try.prog W .any base t v := hval0
  have hW' := hW
  obtain ⟨p, q, hA0, hV, rfl, hfz, hnd⟩ := hW
  have hA : DataW.TrodAll enc Try.prog W 0 (fun _ => true) true Try.f10.params.toList args.toList ds p := hA0
  rw [Try.params10] at hA hval hsz
  obtain ⟨v0, vs0, d0, ds0, p0, q0, hargs, rfl, rfl, h0, r0⟩ := trodAll_cons hA
  obtain ⟨rfl, rfl, rfl⟩ := trodAll_nil r0
  obtain rfl : args = #[v0] := by cases args; simp_all
  obtain ⟨rfl, rfl⟩ := trodVars_none hV
  have k0 := h0
  have lt0 : ∀ x ∈ p0, x.block < W.heap.size := by obtain ⟨m, hm⟩ := k0; exact DataW.trod_lt m _ _ _ hm
  obtain ⟨T0, hd0, rfl, I0, dn0, ds0', dm0, ra0⟩ := Ow.open_world (hval 0 34 v0 rfl rfl) h0
  have B0 := Ow.world_head (j := 0) hsz rfl rfl h0
  rw [dn0] at B0
  clear hA0 hval0
  simp only [List.append_nil] at hW'
  refine (Mt.matchOwn_any T0 hd0 W I0 dn0 ds0' B0).mono fun e W' ⟨he, bel⟩ => ?_
  subst he
  exact ⟨_, rfl, _, _, _, [], _, [], hW', trodAll_mk1 (shut_bool Try.underlying4 _), (trodAll_cons_mk (Below.trod laidOut (by kernel_rfl) (of_decide_eq_true (by kernel_rfl)) k0 bel lt0) trodAll_mk0), rfl, bel.frame _, fun h => by cases h⟩

theorem proved : Rows.MatchOwnSaid :=
  OpenClaim.holds_of_wide 10 Try.f10 rfl rfl rfl rfl rfl rfl rfl ⟨rfl, rfl, rfl, rfl, rfl⟩ rfl rfl rfl rfl rfl (by kernel_rfl) Try.func10 (by kernel_rfl)
    (of_decide_eq_true (by kernel_rfl)) (by unfold Func.isWrapper; first | (rw [if_pos (by decide +kernel)]; kernel_rfl) | (rw [if_neg (by decide +kernel)]; exact ⟨rfl, rfl⟩))
    (fun os started H enc _ => lifted os started H enc)
#print axioms proved
end Go.Proofs.Ytkejjiohkhlnnaa.matchOwnLaw
