/-
  The law MatchLeast is proved: for every input the call returns true, and its arguments read behind it as they read before. No condition.
-/
import Derived.Test.YtkejjiohkhlnnaaExt
import Derived.Test.YtkejjiohkhlnnaaQ5
import Derived.Test.YtkejjiohkhlnnaaGroundsLaw
import Derived.ProofKit
import Derived.OpenShut
import Derived.ShutString
import Derived.ChangeOld
import Derived.Below
import Derived.SizedLaws
import Derived.Lib.SmallJoins
import Derived.Test.YtkejjiohkhlnnaaOpen
namespace Go.Proofs.Ytkejjiohkhlnnaa
open Go.RowKit
namespace Mt

theorem ground_of {sub : List Int} {l : List (Bool × Int)} {xs : List Int} (hl : l.length = xs.length) (h : ∀ z ∈ l.zip xs, valueL z.1.1 z.1.2 sub = z.2 ∧ 0 ≤ z.2) : groundL sub l = some xs := by
  induction l generalizing xs with
  | nil =>
    cases xs with
    | nil => rfl
    | cons x xs => simp at hl
  | cons s l ih =>
    cases xs with
    | nil => simp at hl
    | cons x xs =>
      obtain ⟨h1, h2⟩ := h (s, x) (by simp)
      have := ih (xs := xs) (by simpa using hl) (fun z hz => h z (by simp [hz]))
      simp only at h1
      simp only [groundL, h1, this]
      rw [if_neg (by omega)]
      rfl
theorem ground_facts {sub : List Int} {l : List (Bool × Int)} {xs : List Int} (h : groundL sub l = some xs) : l.length = xs.length ∧ ∀ z ∈ l.zip xs, valueL z.1.1 z.1.2 sub = z.2 ∧ 0 ≤ z.2 := by
  induction l generalizing xs with
  | nil =>
    simp [groundL] at h
    subst h
    simp
  | cons s l ih =>
    simp only [groundL] at h
    split at h
    · cases h
    · rename_i hv
      rw [Option.map_eq_some_iff] at h
      obtain ⟨ys, hy, rfl⟩ := h
      obtain ⟨h1, h2⟩ := ih hy
      refine ⟨by simp [h1], fun z hz => ?_⟩
      simp only [List.zip_cons_cons, List.mem_cons] at hz
      rcases hz with rfl | hz
      · exact ⟨rfl, by simp only; omega⟩
      · exact h2 z hz
theorem value_facts {v : Bool} {n x : Int} {sub : List Int} (h : valueL v n sub = x) (hx : 0 ≤ x) : 0 ≤ n ∧ (v = true → sub[n.toNat]? = some x) ∧ (v = false → n = x) := by
  unfold valueL at h
  split at h
  · omega
  · rename_i hn
    refine ⟨by omega, fun hv => ?_, fun hv => ?_⟩
    · rw [if_pos hv] at h
      unfold boundL at h
      rw [if_neg hn] at h
      split at h
      · omega
      · rename_i y hy
        split at h
        · omega
        · rw [hy, h]
    · rw [if_neg (by simp [hv])] at h
      exact h
theorem value_var {n : Int} {x : Int} {sub : List Int} (hn : 0 ≤ n) (h : sub[n.toNat]? = some x) (hx : 0 ≤ x) : valueL true n sub = x := by
  unfold valueL
  rw [if_neg (by omega), if_pos rfl]
  unfold boundL
  rw [if_neg (by omega), h]
  simp only
  rw [if_neg (by omega)]
theorem chk_facts {m n : Nat} {zs : List Z} (h : chkL badP m zs = some n) : m ≤ n ∧ ∀ z ∈ zs, badP z = false ∧ (z.1.1 = true → z.1.2.toNat < n) := by
  induction zs generalizing m with
  | nil =>
    simp [chkL] at h
    subst h
    exact ⟨Nat.le_refl _, by simp⟩
  | cons z r ih =>
    simp only [chkL] at h
    split at h
    · cases h
    · rename_i hb
      obtain ⟨h1, h2⟩ := ih h
      refine ⟨?_, fun y hy => ?_⟩
      · split at h1 <;> omega
      · rcases List.mem_cons.1 hy with rfl | hy
        · refine ⟨by simpa using hb, fun hv => ?_⟩
          rw [if_pos hv] at h1
          omega
        · exact h2 y hy
theorem chk_is {zs : List Z} (h : ∀ z ∈ zs, badP z = false) (m : Nat) : ∃ n, chkL badP m zs = some n := by
  induction zs generalizing m with
  | nil => exact ⟨m, rfl⟩
  | cons z r ih =>
    simp only [chkL]
    rw [if_neg (by simp [h z (by simp)])]
    exact ih (fun y hy => h y (by simp [hy])) _
theorem row_is {zs : List Z} {ys : List Int} (f : Nat → Int) (hz : ∀ z ∈ zs, (z.1.1 = true → f z.1.2.toNat = z.2 ∧ z.1.2.toNat < ys.length) ∧ (z.1.1 = false → z.1.2 = z.2)) (hy : ∀ i, i < ys.length → 0 ≤ ys.getD i 0 → ys.getD i 0 = f i) : ∃ xs, rowL ys zs = some xs := by
  induction zs generalizing ys with
  | nil => exact ⟨ys, rfl⟩
  | cons z r ih =>
    obtain ⟨h1, h2⟩ := hz z (by simp)
    simp only [rowL]
    cases hv : z.1.1 with
    | true =>
      obtain ⟨h3, h4⟩ := h1 hv
      simp only [if_true]
      rw [if_neg (fun e => e.2 (by rw [hy _ h4 e.1, h3]))]
      refine ih (fun y hy' => ?_) (fun i hi h0 => ?_)
      · obtain ⟨a, b⟩ := hz y (by simp [hy'])
        exact ⟨fun e => ⟨(a e).1, by rw [List.length_set]; exact (a e).2⟩, b⟩
      · rw [List.length_set] at hi
        by_cases hij : z.1.2.toNat = i
        · subst hij
          have : (ys.set z.1.2.toNat z.2).getD z.1.2.toNat 0 = z.2 := by simp [List.getD_eq_getElem?_getD, hi]
          rw [this, h3]
        · have : (ys.set z.1.2.toNat z.2).getD i 0 = ys.getD i 0 := by simp [List.getD_eq_getElem?_getD, List.getElem?_set_ne hij]
          rw [this] at h0 ⊢
          exact hy i hi h0
    | false =>
      simp only [Bool.false_eq_true, if_false]
      rw [if_pos (h2 hv)]
      exact ih (fun y hy' => hz y (by simp [hy'])) hy
theorem row_facts {zs : List Z} {ys xs : List Int} (h : rowL ys zs = some xs) (hz : ∀ z ∈ zs, 0 ≤ z.2 ∧ (z.1.1 = true → z.1.2.toNat < ys.length)) :
    xs.length = ys.length ∧ (∀ i, i < ys.length → 0 ≤ ys.getD i 0 → xs.getD i 0 = ys.getD i 0) ∧ (∀ i, i < ys.length → xs.getD i 0 ≠ ys.getD i 0 → ∃ z ∈ zs, z.1.1 = true ∧ z.1.2.toNat = i) ∧ ∀ z ∈ zs, (z.1.1 = true → xs.getD z.1.2.toNat 0 = z.2) ∧ (z.1.1 = false → z.1.2 = z.2) := by
  induction zs generalizing ys with
  | nil =>
    simp [rowL] at h
    subst h
    exact ⟨rfl, fun _ _ _ => rfl, fun _ _ e => absurd rfl e, by simp⟩
  | cons z r ih =>
    obtain ⟨g1, g2⟩ := hz z (by simp)
    simp only [rowL] at h
    cases hv : z.1.1 with
    | true =>
      have g3 := g2 hv
      rw [if_pos hv] at h
      split at h
      · cases h
      · rename_i hc
        have hset : ∀ i, i < ys.length → (ys.set z.1.2.toNat z.2).getD i 0 = if z.1.2.toNat = i then z.2 else ys.getD i 0 := fun i hi => by
          by_cases hij : z.1.2.toNat = i
          · subst hij
            rw [if_pos rfl]
            simp [List.getD_eq_getElem?_getD, hi]
          · rw [if_neg hij]
            simp [List.getD_eq_getElem?_getD, List.getElem?_set_ne hij]
        obtain ⟨a, b, c, d⟩ := ih h (fun y hy => by
          obtain ⟨e1, e2⟩ := hz y (by simp [hy])
          exact ⟨e1, fun e => by rw [List.length_set]; exact e2 e⟩)
        rw [List.length_set] at a b c
        have b' : ∀ i, i < ys.length → 0 ≤ ys.getD i 0 → xs.getD i 0 = ys.getD i 0 := fun i hi h0 => by
          by_cases hij : z.1.2.toNat = i
          · have e : ys.getD i 0 = z.2 := by
              rw [← hij] at h0 ⊢
              exact Decidable.byContradiction fun e => hc ⟨h0, e⟩
            have := b i hi (by rw [hset i hi, if_pos hij]; exact g1)
            rw [this, hset i hi, if_pos hij, e]
          · have := b i hi (by rw [hset i hi, if_neg hij]; exact h0)
            rw [this, hset i hi, if_neg hij]
        refine ⟨a, b', fun i hi hne => ?_, fun y hy => ?_⟩
        · by_cases hij : z.1.2.toNat = i
          · exact ⟨z, by simp, hv, hij⟩
          · obtain ⟨y, hy, e1, e2⟩ := c i hi (by rw [hset i hi, if_neg hij]; exact hne)
            exact ⟨y, by simp [hy], e1, e2⟩
        · rcases List.mem_cons.1 hy with rfl | hy
          · refine ⟨fun _ => ?_, fun e => by rw [hv] at e; cases e⟩
            have := b _ g3 (by rw [hset _ g3, if_pos rfl]; exact g1)
            rw [this, hset _ g3, if_pos rfl]
          · exact d y hy
    | false =>
      rw [if_neg (by simp [hv])] at h
      split at h
      · rename_i hc
        obtain ⟨a, b, c, d⟩ := ih h (fun y hy => hz y (by simp [hy]))
        refine ⟨a, b, fun i hi hne => ?_, fun y hy => ?_⟩
        · obtain ⟨y, hy, e1, e2⟩ := c i hi hne
          exact ⟨y, by simp [hy], e1, e2⟩
        · rcases List.mem_cons.1 hy with rfl | hy
          · exact ⟨fun e => (by rw [hv] at e; cases e), fun _ => hc⟩
          · exact d y hy
      · cases h
theorem base_len (sub : List Int) (n : Nat) : (baseL sub n).length = n := by simp [baseL]
theorem base_at (sub : List Int) {n i : Nat} (h : i < n) : (baseL sub n).getD i 0 = boundL sub (i : Int) := by
  simp [baseL, List.getD_eq_getElem?_getD, h]
/-- a substitution that keeps what was bound and makes the pattern the row: then Extend has one -/
theorem least_is {l : List (Bool × Int)} {args sub more : List Int} (hg : groundL more l = some args) (keeps : ∀ i : Nat, 0 ≤ boundL sub (i : Int) → more[i]? = some (boundL sub (i : Int))) (low : ∀ s ∈ l, s.1 = true → s.2 < 16) : ∃ xs, extL l args sub = some xs := by
  obtain ⟨hl, hz⟩ := ground_facts hg
  have hok : ∀ z ∈ l.zip args, badP z = false := fun z hz' => by
    obtain ⟨h1, h2⟩ := hz z hz'
    obtain ⟨h3, -, -⟩ := value_facts h1 h2
    have hm : z.1 ∈ l := (List.of_mem_zip (a := z.1) (b := z.2) hz').1
    have h4 := low z.1 hm
    unfold badP
    cases hv : z.1.1 with
    | true =>
      have := h4 hv
      simp; omega
    | false => simp; omega
  obtain ⟨n, hn⟩ := chk_is hok sub.length
  obtain ⟨h1, h2⟩ := chk_facts hn
  unfold extL
  rw [if_pos hl, hn]
  refine row_is (fun i => more.getD i 0) (fun z hz' => ⟨fun hv => ⟨?_, ?_⟩, fun hv => ?_⟩) (fun i hi h0 => ?_)
  · obtain ⟨a, b⟩ := hz z hz'
    have := (value_facts a b).2.1 hv
    simp [List.getD_eq_getElem?_getD, this]
  · rw [base_len]
    exact (h2 z hz').2 hv
  · obtain ⟨a, b⟩ := hz z hz'
    exact (value_facts a b).2.2 hv
  · rw [base_len] at hi
    rw [base_at sub hi] at h0 ⊢
    have := keeps i h0
    simp [List.getD_eq_getElem?_getD, this]
/-- what Extend answers makes the pattern the row, keeps what was bound, and binds nothing else -/
theorem least_facts {l : List (Bool × Int)} {args sub xs : List Int} (h : extL l args sub = some xs) :
    groundL xs l = some args ∧ sub.length ≤ xs.length ∧ ∀ i, i < xs.length → (0 ≤ boundL sub (i : Int) → xs.getD i 0 = boundL sub (i : Int)) ∧ (boundL sub (i : Int) < 0 → xs.getD i 0 = -1 ∨ ∃ s ∈ l, s.1 = true ∧ s.2 = i) := by
  unfold extL at h
  split at h
  · rename_i hl
    rw [Option.bind_eq_some_iff] at h
    obtain ⟨n, hn, hr⟩ := h
    obtain ⟨h1, h2⟩ := chk_facts hn
    have hb : ∀ z ∈ l.zip args, 0 ≤ z.1.2 ∧ 0 ≤ z.2 := fun z hz => by
      have := (h2 z hz).1
      simp [badP] at this
      omega
    obtain ⟨a, b, c, d⟩ := row_facts hr (fun z hz => ⟨(hb z hz).2, fun hv => by rw [base_len]; exact (h2 z hz).2 hv⟩)
    rw [base_len] at a b c
    refine ⟨ground_of hl (fun z hz => ⟨?_, (hb z hz).2⟩), by omega, fun i hi => ⟨fun h0 => ?_, fun h0 => ?_⟩⟩
    · cases hv : z.1.1 with
      | true =>
        have e := (d z hz).1 hv
        have hlt := (h2 z hz).2 hv
        refine value_var (hb z hz).1 ?_ (hb z hz).2
        rw [List.getD_eq_getElem?_getD, List.getElem?_eq_getElem (by omega)] at e
        rw [List.getElem?_eq_getElem (by omega)]
        simpa using e
      | false =>
        have e := (d z hz).2 hv
        unfold valueL
        rw [if_neg (by have := (hb z hz).1; omega), if_neg (by simp)]
        exact e
    · have hi' : i < n := by omega
      have := b i hi' (by rw [base_at sub hi']; exact h0)
      rw [this, base_at sub hi']
    · have hi' : i < n := by omega
      by_cases he : xs.getD i 0 = (baseL sub n).getD i 0
      · left
        rw [he, base_at sub hi']
        rw [base_at sub hi'] at he
        unfold boundL at h0 ⊢
        split at h0
        · rename_i hc; rw [if_pos hc]
        · rename_i hc
          rw [if_neg hc]
          split at h0
          · rfl
          · split at h0
            · rename_i hx; simp [hx]
            · omega
      · obtain ⟨z, hz, e1, e2⟩ := c i hi' he
        right
        refine ⟨z.1, (List.of_mem_zip (a := z.1) (b := z.2) hz).1, e1, ?_⟩
        have := (hb z hz).1
        omega
  · cases h
end Mt
end Go.Proofs.Ytkejjiohkhlnnaa

namespace Go.Proofs.Ytkejjiohkhlnnaa
open Go.RowKit
namespace Mt

/-- does the variable stand in the pattern? -/
def stoodL (l : List (Bool × Int)) (v : Int) : Bool := l.any fun s => s.1 && decide (s.2 = v)
theorem stoodL_at {l : List (Bool × Int)} {v : Int} {k : Nat} {s : Bool × Int} (h : l[k]? = some s) : stoodL (l.drop k) v = ((s.1 && decide (s.2 = v)) || stoodL (l.drop (k + 1)) v) := by
  rw [drop_at h]; rfl
theorem stoodL_of {l : List (Bool × Int)} {v : Int} (h : ∃ s ∈ l, s.1 = true ∧ s.2 = v) : stoodL l v = true := by
  obtain ⟨s, hs, h1, h2⟩ := h
  unfold stoodL
  rw [List.any_eq_true]
  exact ⟨s, hs, by simp [h1, h2]⟩
set_option maxHeartbeats 4000000 in
set_option maxRecDepth 100000 in
theorem stood_any (pred : Int) (ap : Option Addr) (cp : Nat) (l : List (Bool × Int)) (v : Int) (w : World) (hp : Slots w ap l) (hl : l.length * 16 ≤ 140737488351232) :
    Calls Try.prog 32 #[.agg #[.int .i64 pred, .slice ap l.length cp], .int .i64 v] w fun e w' => e = .returned (.bool (stoodL l v)) ∧ Below w.heap.size w w' := by
  have HS := Lib.hid hp
  obtain ⟨R, hR⟩ : ∃ R, R = stoodL l v := ⟨_, rfl⟩
  have HR0 : Hid (R = stoodL (l.drop 0) v) := Lib.hid (by simpa using hR)
  rw [← hR]
  clear hp hR
  have hb0 : Below w.heap.size w (w.alloc (.cells #[.int .i64 pred, .slice ap l.length cp] 27)) := (Below.refl _ _).alloc (Nat.le_refl _) _
  go_enter Try.func32, Try.ntmps32
  go_wp2_with fail
  go_loopw [10] (fun i wr => ∃ k : Nat, k ≤ l.length ∧ i = .int .i64 k ∧ Below w.heap.size w wr ∧ Hid (R = stoodL (l.drop k) v)) (fun i _ => l.length - (intOf i).toNat)
  case atStart => exact ⟨0, Nat.zero_le _, rfl, hb0, HR0⟩
  case round =>
    clear hb0 HR0
    obtain ⟨k, hk, rfl, hbel, HK⟩ := hrel
    by_cases hlt : k < l.length
    · rcases HS.out with h | ⟨bp, op, rfl, hp⟩
      · rw [h] at hlt; simp at hlt
      · obtain ⟨v0, n0, c0, c1, HQ⟩ := slots_at hp hlt
        have e0 := (hbel.cell (World.block_lt_of_cell? _ _ c0)).trans c0
        have e1 := (hbel.cell (World.block_lt_of_cell? _ _ c1)).trans c1
        have hbe2 : Below w.heap.size w (wr.alloc (.cells #[.bool v0, .int .i64 n0] 58)) := hbel.alloc hbel.size _
        have HN : Hid (R = ((v0 && decide (n0 = v)) || stoodL (l.drop (k + 1)) v)) := Lib.hid (by rw [HK.out, stoodL_at HQ.out])
        clear hp c0 c1 HK HQ
        cases v0 with
        | true =>
          by_cases hn : n0 = v
          · subst hn
            have hRt : R = true := by rw [HN.out]; simp
            subst hRt
            go_wp2_with fail
            go_ret
            exact ⟨rfl, hbe2⟩
          · have HN2 : Hid (R = stoodL (l.drop (k + 1)) v) := Lib.hid (by rw [HN.out]; simp [hn])
            have d : (n0 == v) = false := by simpa using hn
            clear HN hn
            go_wp2_with fail
            go_roundw
            case rel => exact ⟨k + 1, by omega, by go_num, hbe2, HN2⟩
            case measure => simp [intOf]; omega
        | false =>
          have HN2 : Hid (R = stoodL (l.drop (k + 1)) v) := Lib.hid (by rw [HN.out]; simp)
          clear HN
          go_wp2_with fail
          go_roundw
          case rel => exact ⟨k + 1, by omega, by go_num, hbe2, HN2⟩
          case measure => simp [intOf]; omega
    · have hRf : R = false := by
        rw [HK.out, List.drop_of_length_le (by omega)]
        rfl
      subst hRf
      go_wp2_with fail
      go_ret
      exact ⟨rfl, hbel⟩
end Mt
end Go.Proofs.Ytkejjiohkhlnnaa

namespace Go.Proofs.Ytkejjiohkhlnnaa
open Go.RowKit
namespace Mt

theorem ground_is {l : List (Bool × Int)} {xs ys : List Int} {W : World} (h : groundL xs l = some ys) (e : Ending) (w' : World) (k : GroundEnd l xs W e w') : ∃ a c, e = .returned (.tuple #[.slice a ys.length c, .bool true]) ∧ Ints w' a ys ∧ Below W.heap.size W w' := by
  unfold GroundEnd at k
  rw [h] at k
  exact k
theorem ground_isn't {l : List (Bool × Int)} {xs : List Int} {W : World} (h : groundL xs l = none) (e : Ending) (w' : World) (k : GroundEnd l xs W e w') : ∃ a c, e = .returned (.tuple #[.slice a 0 c, .bool false]) ∧ Below W.heap.size W w' := by
  unfold GroundEnd at k
  rw [h] at k
  obtain ⟨a, c, h1, -, h3⟩ := k
  exact ⟨a, c, h1, h3⟩
/-- does a substitution keep what was bound at the first k places? -/
def keepsB (sub more : List Int) (k : Nat) : Bool := (List.range k).all fun i => decide (0 ≤ boundL sub (i : Int) → more[i]? = some (boundL sub (i : Int)))
theorem keepsB_succ (sub more : List Int) (k : Nat) : keepsB sub more (k + 1) = (keepsB sub more k && decide (0 ≤ boundL sub (k : Int) → more[k]? = some (boundL sub (k : Int)))) := by
  simp [keepsB, List.range_succ]
def lowB (l : List (Bool × Int)) (k : Nat) : Bool := (l.take k).all fun s => !s.1 || decide (s.2 < 16)
theorem lowB_succ {l : List (Bool × Int)} {k : Nat} {s : Bool × Int} (h : l[k]? = some s) : lowB l (k + 1) = (lowB l k && (!s.1 || decide (s.2 < 16))) := by
  unfold lowB
  rw [List.take_add_one, h]
  simp
theorem keeps_of {sub more : List Int} (h : true = keepsB sub more sub.length) (i : Nat) (h0 : 0 ≤ boundL sub (i : Int)) : more[i]? = some (boundL sub (i : Int)) := by
  by_cases hi : i < sub.length
  · unfold keepsB at h
    have := List.all_eq_true.1 h.symm i (List.mem_range.2 hi)
    exact (of_decide_eq_true this) h0
  · rw [boundL_out (by omega)] at h0
    omega
theorem low_of {l : List (Bool × Int)} (h : true = lowB l l.length) : ∀ s ∈ l, s.1 = true → s.2 < 16 := fun s hs h1 => by
  unfold lowB at h
  rw [List.take_of_length_le (Nat.le_refl _)] at h
  have := List.all_eq_true.1 h.symm s hs
  rw [h1] at this
  simpa using this
set_option maxHeartbeats 16000000 in
set_option maxRecDepth 100000 in
theorem matchLeast_any (pred : Int) (ap : Option Addr) (cp : Nat) (l : List (Bool × Int)) (ab : Option Addr) (cb : Nat) (sub : List Int) (aa : Option Addr) (ca : Nat) (more : List Int) (w : World) (hp : SlotSlice w ap cp l)
    (hl : l.length * 16 ≤ 140737488351232) (hb : IntSlice w ab cb sub) (hs : sub.length * 8 ≤ 140737488351232) (ha : IntSlice w aa ca more) (hm : more.length * 8 ≤ 140737488351232) :
    Calls Try.prog 8 #[.agg #[.int .i64 pred, .slice ap l.length cp], .slice ab sub.length cb, .slice aa more.length ca] w fun e w' => e = .returned (.bool true) ∧ Below w.heap.size w w' := by
  have cT := fun W => Lib.hid (taken_any W)
  have HP := Lib.hid hp.1
  have HB := Lib.hid hb.1
  have HA := Lib.hid ha.1
  clear hp hb ha
  have b0 : Below w.heap.size w (w.alloc (.cells #[.int .i64 pred, .slice ap l.length cp] 27)) := (Below.refl _ _).alloc (Nat.le_refl _) _
  cases hg : groundL more l with
  | none =>
    have cG := Lib.hid ((ground_any pred ap aa cp ca l more _ (HP.out.below b0 (Nat.le_refl _)) (HA.out.below b0) hl (by omega)).mono (ground_isn't hg))
    go_enter Try.func8, Try.ntmps8
    go_wp2_with fail
    refine cG.out.mono ?_
    rintro e w1 ⟨a, c, rfl, hb1⟩
    go_wp2_with fail
    refine (cT _).out.mono ?_
    rintro e w2 ⟨rfl, hb2⟩
    go_wp2_with fail
    go_ret
    have b1 : Below w.heap.size w w1 := b0.trans (hb1.mono (by simp))
    exact ⟨rfl, b1.trans (hb2.mono b1.size)⟩
  | some args =>
    have cG := Lib.hid ((ground_any pred ap aa cp ca l more _ (HP.out.below b0 (Nat.le_refl _)) (HA.out.below b0) hl (by omega)).mono (ground_is hg))
    have hal : args.length = l.length := (ground_facts hg).1.symm
    go_enter Try.func8, Try.ntmps8
    go_wp2_with fail
    refine cG.out.mono ?_
    rintro e w1 ⟨ga, gc, rfl, hI1, hb1⟩
    have P1 := (atP_new w 27 pred ap l.length cp).below hb1 (by simp)
    have b1 : Below w.heap.size w w1 := b0.trans (hb1.mono (by simp))
    have s1 : w.heap.size < w1.heap.size := by have := hb1.size; simp at this; omega
    have HI1 := Lib.hid hI1
    obtain ⟨p0, p1⟩ := id P1
    clear hb1 b0 cG hI1
    by_cases h64 : 64 < l.length
    · have d : decide ((64 : Int) < (l.length : Int)) = true := by simp; omega
      go_wp2_with fail
      refine (cT _).out.mono ?_
      rintro e w2 ⟨rfl, hb2⟩
      go_wp2_with fail
      go_ret
      exact ⟨rfl, b1.trans (hb2.mono b1.size)⟩
    · have d : decide ((64 : Int) < (l.length : Int)) = false := by simp; omega
      go_wp2_with fail
      go_loopw [9, 36] (fun x i wr => ∃ (k : Nat) (kb : Bool), k ≤ sub.length ∧ x = .bool kb ∧ i = .int .i64 k ∧ Below w1.heap.size w1 wr ∧ Hid (kb = keepsB sub more k)) (fun _ i _ => sub.length - (intOf i).toNat)
      case atStart => exact ⟨0, true, Nat.zero_le _, rfl, rfl, Below.refl _ _, Lib.hid rfl⟩
      case round =>
        obtain ⟨k, kb, hk, rfl, rfl, hbel, HK⟩ := hrel
        have hbw : Below w.heap.size w wr := b1.trans (hbel.mono b1.size)
        by_cases hlt : k < sub.length
        · obtain ⟨b, o, rfl, x, c1, hx⟩ := ints_some HB.out (k := k) hlt
          have e1 := below_cell hbw (Nat.le_refl _) c1
          have hbx := boundL_in hx.out
          by_cases h0 : x < 0
          · have d0 : decide (0 ≤ x) = false := by simp; omega
            have HK2 : Hid (kb = keepsB sub more (k + 1)) := Lib.hid (by rw [HK.out, keepsB_succ, hbx, if_pos h0]; simp)
            clear c1 hx hbx h0
            go_upto_region 8 with fail
            go_quiet (fail)
            have hbd : Below w1.heap.size w1 (wr.drewN nq) := below_drewN hbel _
            go_wp2_with fail
            go_roundw
            case rel => exact ⟨k + 1, kb, by omega, rfl, by go_num, hbd, HK2⟩
            case measure => simp [intOf]; omega
          · have d0 : decide (0 ≤ x) = true := by simp; omega
            by_cases hmk : more.length ≤ k
            · have d1 : decide ((more.length : Int) ≤ (k : Int)) = true := by simp; omega
              have HK2 : Hid (false = keepsB sub more (k + 1)) := Lib.hid (by rw [keepsB_succ, hbx, if_neg h0, List.getElem?_eq_none hmk]; simp; intro _; omega)
              clear c1 hx hbx h0
              go_upto_region 8 with fail
              go_quiet (fail)
              have hbd : Below w1.heap.size w1 (wr.drewN nq) := below_drewN hbel _
              go_wp2_with fail
              go_roundw
              case rel => exact ⟨k + 1, false, by omega, rfl, by go_num, hbd, HK2⟩
              case measure => simp [intOf]; omega
            · have d1 : decide ((more.length : Int) ≤ (k : Int)) = false := by simp; omega
              obtain ⟨b', o', rfl, y, c2, hy⟩ := ints_some HA.out (k := k) (by omega)
              have e2 := below_cell hbw (Nat.le_refl _) c2
              by_cases hxy : y = x
              · subst hxy
                have HK2 : Hid (kb = keepsB sub more (k + 1)) := Lib.hid (by rw [HK.out, keepsB_succ, hbx, if_neg h0, hy.out]; simp)
                clear c1 c2 hx hy hbx h0
                go_upto_region 8 with fail
                go_quiet (fail)
                have hbd : Below w1.heap.size w1 (wr.drewN nq) := below_drewN hbel _
                go_wp2_with fail
                go_roundw
                case rel => exact ⟨k + 1, kb, by omega, rfl, by go_num, hbd, HK2⟩
                case measure => simp [intOf]; omega
              · have hne : (y != x) = true := by simpa using hxy
                have HK2 : Hid (false = keepsB sub more (k + 1)) := Lib.hid (by rw [keepsB_succ, hbx, if_neg h0, hy.out]; simp [hxy]; intro _; omega)
                clear c1 c2 hx hy hbx h0 hxy
                go_upto_region 8 with fail
                go_quiet (fail)
                have hbd : Below w1.heap.size w1 (wr.drewN nq) := below_drewN hbel _
                go_wp2_with fail
                go_roundw
                case rel => exact ⟨k + 1, false, by omega, rfl, by go_num, hbd, HK2⟩
                case measure => simp [intOf]; omega
        · obtain rfl : k = sub.length := by omega
          have p0 := below_cell hbel (by omega) p0
          have p1 := below_cell hbel (by omega) p1
          have HIw := Lib.hid (Ints.old HI1.out hbel (Nat.le_refl _))
          obtain ⟨w2, hw2⟩ : ∃ v, v = wr := ⟨_, rfl⟩
          subst hw2
          have s2 : w.heap.size < w2.heap.size := Nat.lt_of_lt_of_le s1 hbel.size
          clear hbel HI1 hlt hk
          go_wp2_with fail
          go_loopw [11, 65] (fun x i wr => ∃ (k : Nat) (lb : Bool), k ≤ l.length ∧ x = .bool lb ∧ i = .int .i64 k ∧ Below w2.heap.size w2 wr ∧ Hid (lb = lowB l k)) (fun _ i _ => l.length - (intOf i).toNat)
          case atStart => exact ⟨0, true, Nat.zero_le _, rfl, rfl, Below.refl _ _, Lib.hid rfl⟩
          case round =>
            obtain ⟨k, lb, hk, rfl, rfl, hbel, HL⟩ := hrel
            have hbw3 : Below w.heap.size w wr := hbw.trans (hbel.mono hbw.size)
            by_cases hlt : k < l.length
            · rcases HP.out with h | ⟨bp, op, rfl, hp⟩
              · rw [h] at hlt; simp at hlt
              · obtain ⟨v0, n0, c0, c1, HQ⟩ := slots_at hp hlt
                have e0 := below_cell hbw3 (Nat.le_refl _) c0
                have e1 := below_cell hbw3 (Nat.le_refl _) c1
                have hbe2 : Below w2.heap.size w2 (wr.alloc (.cells #[.bool v0, .int .i64 n0] 58)) := hbel.alloc hbel.size _
                have HN := Lib.hid (lowB_succ HQ.out)
                clear hp c0 c1 HQ
                cases v0 with
                | true =>
                  by_cases hn : 16 ≤ n0
                  · have d1 : decide ((16 : Int) ≤ n0) = true := by simpa using hn
                    have HL2 : Hid (false = lowB l (k + 1)) := Lib.hid (by rw [HN.out]; simp; intro _; omega)
                    clear HN hn
                    go_wp2_with fail
                    go_roundw
                    case rel => exact ⟨k + 1, false, by omega, rfl, by go_num, hbe2, HL2⟩
                    case measure => simp [intOf]; omega
                  · have d1 : decide ((16 : Int) ≤ n0) = false := by simpa using hn
                    have HL2 : Hid (lb = lowB l (k + 1)) := Lib.hid (by rw [HN.out, HL.out]; simp; intro _; omega)
                    clear HN hn
                    go_wp2_with fail
                    go_roundw
                    case rel => exact ⟨k + 1, lb, by omega, rfl, by go_num, hbe2, HL2⟩
                    case measure => simp [intOf]; omega
                | false =>
                  have HL2 : Hid (lb = lowB l (k + 1)) := Lib.hid (by rw [HN.out, HL.out]; simp)
                  clear HN
                  go_wp2_with fail
                  go_roundw
                  case rel => exact ⟨k + 1, lb, by omega, rfl, by go_num, hbe2, HL2⟩
                  case measure => simp [intOf]; omega
            · obtain rfl : k = l.length := by omega
              have p0 := below_cell hbel (by omega) p0
              have p1 := below_cell hbel (by omega) p1
              have HI3 := Lib.hid (Ints.old HIw.out hbel (Nat.le_refl _))
              obtain ⟨w3, hw3⟩ : ∃ v, v = wr := ⟨_, rfl⟩
              subst hw3
              have s3 : w.heap.size < w3.heap.size := Nat.lt_of_lt_of_le s2 hbel.size
              clear hbel HIw hlt hk hbw
              have cE := Lib.hid (extendF_any pred ap ga ab cp gc cb l args sub w3 (HP.out.below hbw3 (Nat.le_refl _)) HI3.out (Ints.old HB.out hbw3 (Nat.le_refl _)) hl hs)
              rw [hal] at cE
              go_wp2_with fail
              refine cE.out.mono ?_
              rintro e w4 ⟨xa, xc, rfl, hX, -, -, hb4⟩
              have p0 := below_cell hb4 (Nat.le_refl _) p0
              have p1 := below_cell hb4 (Nat.le_refl _) p1
              have HI4 := Lib.hid (Ints.old HI3.out hb4 (Nat.le_refl _))
              have hbw4 : Below w.heap.size w w4 := hbw3.trans (hb4.mono hbw3.size)
              clear cE hb4 HI3 hbw3
              cases hE : extL l args sub with
              | none =>
                have hno : ¬ (kb = true ∧ lb = true) := fun e => by
                  obtain ⟨xs, hxs⟩ := least_is (sub := sub) hg (keeps_of (e.1.symm.trans HK.out)) (low_of (e.2.symm.trans HL.out))
                  rw [hE] at hxs
                  cases hxs
                simp only [hE, Option.getD_none, List.length_nil, Option.isSome_none] at hX ⊢
                clear HK HL hX
                cases kb <;> cases lb
                case true.true => exact absurd ⟨rfl, rfl⟩ hno
                all_goals
                  go_wp2_with fail
                  refine (cT _).out.mono ?_
                  rintro e w5 ⟨rfl, hb5⟩
                  go_wp2_with fail
                  go_ret
                  exact ⟨rfl, hbw4.trans (hb5.mono hbw4.size)⟩
              | some xs =>
                obtain ⟨g1, g2, g3⟩ := least_facts hE
                have hxl : xs.length ≤ max sub.length 16 := ext_length hE
                have cG2 := Lib.hid ((ground_any pred ap xa cp xc l xs w4 (HP.out.below hbw4 (Nat.le_refl _)) (by rw [hE] at hX; exact hX) hl (by omega)).mono (ground_is g1))
                rw [hal] at cG2
                have HX := Lib.hid (show Ints w4 xa xs from by rw [hE] at hX; exact hX)
                have G3 := Lib.hid g3
                have d2 : decide ((xs.length : Int) < (sub.length : Int)) = false := by simp; omega
                have d2' : ¬ xs.length < sub.length := by omega
                have d2'' : decide (xs.length < sub.length) = false := by simp; omega
                simp only [hE, Option.getD_some, Option.isSome_some] at hX ⊢
                clear HK HL hX hE g1 g3 hg
                cases kb <;> cases lb
                all_goals
                  go_wp2_with fail
                  refine cG2.out.mono ?_
                  rintro e w5 ⟨ba, bc, rfl, hBk, hb5⟩
                  have p0' := below_cell hb5 (Nat.le_refl _) p0
                  have p1' := below_cell hb5 (Nat.le_refl _) p1
                  have hbw5 : Below w.heap.size w w5 := hbw4.trans (hb5.mono hbw4.size)
                  have HX5 := Lib.hid (Ints.old HX.out hb5 (Nat.le_refl _))
                  have cS := Lib.hid (sameInts_any ba ga bc gc args args w5 hBk (Ints.old HI4.out hb5 (Nat.le_refl _)) (by omega))
                  rw [decide_eq_true (rfl : args = args), hal] at cS
                  clear hBk p0 p1 cG2 hb5
                  go_wp2_with fail
                  refine cS.out.mono ?_
                  rintro e w6 ⟨rfl, nd, hn6⟩
                  have hb6 : Below w5.heap.size w5 w6 := by rw [← hn6]; exact below_drewN (Below.refl _ _) nd
                  have q0 := below_cell hb6 (Nat.le_refl _) p0'
                  have q1 := below_cell hb6 (Nat.le_refl _) p1'
                  have HX6 := Lib.hid (Ints.old HX5.out hb6 (Nat.le_refl _))
                  have hbw6 : Below w.heap.size w w6 := hbw5.trans (hb6.mono hbw5.size)
                  clear hn6 hb6 cS p0' p1' hbw4 hbw5 HX5 HX HI4
                  go_wp2_with fail
                  go_loopw [118] (fun i wr => ∃ k : Nat, k ≤ xs.length ∧ i = .int .i64 k ∧ Below w6.heap.size w6 wr) (fun i _ => xs.length - (intOf i).toNat)
                  case atStart => exact ⟨0, Nat.zero_le _, rfl, Below.refl _ _⟩
                  case round =>
                    obtain ⟨k, hk, rfl, hbel⟩ := hrel
                    have hbw7 : Below w.heap.size w wr := hbw6.trans (hbel.mono hbw6.size)
                    by_cases hlt : k < xs.length
                    · obtain ⟨b, o, rfl, x, c1, hx⟩ := ints_some HX6.out (k := k) hlt
                      have e1 := below_cell hbel (Nat.le_refl _) c1
                      have r0 := below_cell hbel (Nat.le_refl _) q0
                      have r1 := below_cell hbel (Nat.le_refl _) q1
                      have hxk : xs.getD k 0 = x := by rw [List.getD_eq_getElem?_getD, hx.out]; rfl
                      obtain ⟨t1, t2⟩ := G3.out k hlt
                      rw [hxk] at t1 t2
                      have T1 := Lib.hid t1
                      have T2 := Lib.hid t2
                      have cD := Lib.hid (stood_any pred ap cp l k wr (HP.out.below hbw7 (Nat.le_refl _)) hl)
                      clear c1 hx hxk t1 t2
                      by_cases hks : k < sub.length
                      · have d3 : decide ((k : Int) < (sub.length : Int)) = true := by simp; omega
                        obtain ⟨b', o', rfl, y, c2, hy⟩ := ints_some HB.out (k := k) hks
                        have e2 := below_cell hbw7 (Nat.le_refl _) c2
                        have hby := boundL_in hy.out
                        by_cases hy0 : y < 0
                        · have d4 : decide (0 ≤ y) = false := by simp; omega
                          rw [if_pos hy0] at hby
                          have hst := T2.out (by rw [hby]; omega)
                          clear T1 T2 hby hy c2 hy0
                          by_cases hx1 : x = -1
                          · subst hx1
                            go_wp2_with fail
                            go_roundw
                            case rel => exact ⟨k + 1, by omega, by go_num, hbel⟩
                            case measure => simp [intOf]; omega
                          · have hne : (x != -1) = true := by simpa using hx1
                            rw [stoodL_of (hst.resolve_left hx1)] at cD
                            clear hst hx1
                            go_wp2_with fail
                            refine cD.out.mono ?_
                            rintro e w8 ⟨rfl, hb8⟩
                            have hbel8 : Below w6.heap.size w6 w8 := hbel.trans (hb8.mono hbel.size)
                            clear hb8 cD
                            go_wp2_with fail
                            go_roundw
                            case rel => exact ⟨k + 1, by omega, by go_num, hbel8⟩
                            case measure => simp [intOf]; omega
                        · have d4 : decide (0 ≤ y) = true := by simp; omega
                          have d5 : decide (y < 0) = false := by simp; omega
                          rw [if_neg hy0] at hby
                          have hxy : x = y := by rw [T1.out (by rw [hby]; omega), hby]
                          subst hxy
                          clear T1 T2 hby hy c2 hy0
                          go_wp2_with fail
                          go_roundw
                          case rel => exact ⟨k + 1, by omega, by go_num, hbel⟩
                          case measure => simp [intOf]; omega
                      · have d3 : decide ((k : Int) < (sub.length : Int)) = false := by simp; omega
                        have hst := T2.out (by rw [boundL_out (by omega)]; omega)
                        clear T1 T2
                        by_cases hx1 : x = -1
                        · subst hx1
                          go_wp2_with fail
                          go_roundw
                          case rel => exact ⟨k + 1, by omega, by go_num, hbel⟩
                          case measure => simp [intOf]; omega
                        · have hne : (x != -1) = true := by simpa using hx1
                          rw [stoodL_of (hst.resolve_left hx1)] at cD
                          clear hst hx1
                          go_wp2_with fail
                          refine cD.out.mono ?_
                          rintro e w8 ⟨rfl, hb8⟩
                          have hbel8 : Below w6.heap.size w6 w8 := hbel.trans (hb8.mono hbel.size)
                          clear hb8 cD
                          go_wp2_with fail
                          go_roundw
                          case rel => exact ⟨k + 1, by omega, by go_num, hbel8⟩
                          case measure => simp [intOf]; omega
                    · obtain rfl : k = xs.length := by omega
                      go_wp2_with fail
                      refine (cT _).out.mono ?_
                      rintro e w8 ⟨rfl, hb8⟩
                      go_wp2_with fail
                      go_ret
                      exact ⟨rfl, hbw7.trans (hb8.mono hbw7.size)⟩
end Mt
end Go.Proofs.Ytkejjiohkhlnnaa

namespace Go.Proofs.Ytkejjiohkhlnnaa.matchLeastLaw
open Go.ChangeShapes Go.WideShapes Go.ChangeAt Go.RowKit Go.Joins
open Go.ChangeMaps (open_string shut_string)

theorem own : ownKnob Try.prog.godebug = none := by kernel_rfl
theorem laidOut : laidOutB Try.prog = true := by kernel_rfl

theorem cells2 : Try.prog.cellsOf 27 = 2 := by kernel_rfl

set_option maxRecDepth 100000 in
theorem lifted (os : Os) (started : os.Started) (H : Type) (enc : TypeId × Value → H) :
    ReturnsInHanded {} Try.checked os 8 .any (Rows.matchLeastSpec.pre6 enc Try.prog Try.f8 Rows.matchLeastRow.domain false) (Rows.matchLeastSpec.post enc Try.prog Try.f8 false true false false) := by
  refine returnsInHanded_of_change_sized (C := Try.checked) own started (by kernel_rfl) Try.func8
    (ChangeSpec.witness6 (enc := enc) (C := Try.checked) false ⟨#[], #[.agg #[.int .i64 0, .slice none 0 0], .slice none 0 0, .slice none 0 0], []⟩ 8 (by kernel_rfl) (by kernel_rfl) (by kernel_rfl) (by kernel_rfl)) ?_
  intro W base args ds gs before hval0 hW _ hsz0 _
  have hsz : (DataW.weightsEach Try.prog (Try.f8.params.toList ++ Rows.matchLeastSpec.plain.varTypes Try.prog) (ds ++ gs)).all (· ≤ reachBytes) = true := hsz0
  clear hsz0
  have hval : ∀ (j : Nat) t v, Try.f8.params[j]? = some t → args[j]? = some v → Value.okWide Try.prog W .any base t v := hval0
  have hW' := hW
  obtain ⟨p, q, hA0, hV, rfl, hfz, hnd⟩ := hW
  have hA : DataW.TrodAll enc Try.prog W 0 (fun _ => true) true Try.f8.params.toList args.toList ds p := hA0
  rw [Try.params8] at hA hval hsz
  obtain ⟨v0, vs0, d0, ds0, p0, q0, hargs, rfl, rfl, h0, r0⟩ := trodAll_cons hA
  obtain ⟨v1, vs1, d1, ds1, p1, q1, rfl, rfl, rfl, h1, r1⟩ := trodAll_cons r0
  obtain ⟨v2, vs2, d2, ds2, p2, q2, rfl, rfl, rfl, h2, r2⟩ := trodAll_cons r1
  obtain ⟨rfl, rfl, rfl⟩ := trodAll_nil r2
  obtain rfl : args = #[v0, v1, v2] := by cases args; simp_all
  obtain ⟨rfl, rfl⟩ := trodVars_none hV
  have k0 := h0
  have lt0 : ∀ x ∈ p0, x.block < W.heap.size := by obtain ⟨m, hm⟩ := k0; exact DataW.trod_lt m _ _ _ hm
  have k1 := h1
  have lt1 : ∀ x ∈ p1, x.block < W.heap.size := by obtain ⟨m, hm⟩ := k1; exact DataW.trod_lt m _ _ _ hm
  have k2 := h2
  have lt2 : ∀ x ∈ p2, x.block < W.heap.size := by obtain ⟨m, hm⟩ := k2; exact DataW.trod_lt m _ _ _ hm
  obtain ⟨c0a, c0b, y0a, y0b, m0, rfl, hd0, _, e0a, e0b⟩ := open_agg2 Try.underlying27 (by kernel_rfl) cells2 (hval 0 27 v0 rfl rfl) h0
  obtain ⟨n0, g0a, _, _⟩ := DataW.trod_int Try.underlying3 e0a
  simp at g0a
  subst g0a
  obtain ⟨a0, cp0, l0, rfl, S0, F0, Z0⟩ := Mt.open_slotSlice e0b
  have B0 : l0.length * 16 ≤ 140737488351232 := by
    rcases Z0 with ⟨_, rfl⟩ | ⟨els, sp, hd, hel, hlen⟩
    · simp
    · rw [hd] at hd0
      have := Mt.sized_pattern hsz (j := 0) rfl (congrArg some hd0)
      omega
  obtain ⟨fu1, hf1⟩ := h1
  obtain ⟨ao1, av1, ac1, rfl⟩ := okWide_slice Try.underlying22 (hval 1 22 v1 rfl rfl)
  obtain ⟨a1, cp1, l1, ev1, S1, F1, Z1⟩ := Mt.open_intSlice (by simpa [Value.cells] using hf1)
  rw [ev1] at hf1 k1 hW' ⊢
  have B1 : l1.length * 8 ≤ 140737488351232 := by
    rcases Z1 with ⟨_, rfl⟩ | ⟨els, sp, hd, hel, hlen, _⟩
    · simp
    · simp only at hd
      have := sized_slice hsz (j := 1) (t := 22) (e := 3) rfl (congrArg some hd) Try.underlying22
      rw [Mt.bytesInt] at this
      simp only [reachBytes] at this
      omega
  obtain ⟨fu2, hf2⟩ := h2
  obtain ⟨ao2, av2, ac2, rfl⟩ := okWide_slice Try.underlying22 (hval 2 22 v2 rfl rfl)
  obtain ⟨a2, cp2, l2, ev2, S2, F2, Z2⟩ := Mt.open_intSlice (by simpa [Value.cells] using hf2)
  rw [ev2] at hf2 k2 hW' ⊢
  have B2 : l2.length * 8 ≤ 140737488351232 := by
    rcases Z2 with ⟨_, rfl⟩ | ⟨els, sp, hd, hel, hlen, _⟩
    · simp
    · simp only at hd
      have := sized_slice hsz (j := 2) (t := 22) (e := 3) rfl (congrArg some hd) Try.underlying22
      rw [Mt.bytesInt] at this
      simp only [reachBytes] at this
      omega
  clear hA0 hval0
  simp only [List.append_nil] at hW'
  refine (Mt.matchLeast_any n0 a0 cp0 l0 a1 cp1 l1 a2 cp2 l2 W S0 B0 S1 B1 S2 B2).mono fun e W' ⟨he, bel⟩ => ?_
  subst he
  exact ⟨_, rfl, _, _, _, [], _, [], hW', trodAll_mk1 (shut_bool Try.underlying4 _), (trodAll_cons_mk (Below.trod laidOut (by kernel_rfl) (of_decide_eq_true (by kernel_rfl)) k0 bel lt0) (trodAll_cons_mk (Below.trod laidOut (by kernel_rfl) (of_decide_eq_true (by kernel_rfl)) k1 bel lt1) (trodAll_cons_mk (Below.trod laidOut (by kernel_rfl) (of_decide_eq_true (by kernel_rfl)) k2 bel lt2) trodAll_mk0))), rfl, bel.frame _, fun h => by cases h⟩

theorem proved : Rows.MatchLeastSaid :=
  OpenClaim.holds_of_wide 8 Try.f8 rfl rfl rfl rfl rfl rfl rfl ⟨rfl, rfl, rfl, rfl, rfl⟩ rfl rfl rfl rfl rfl (by kernel_rfl) Try.func8 (by kernel_rfl)
    (of_decide_eq_true (by kernel_rfl)) (by unfold Func.isWrapper; first | (rw [if_pos (by decide +kernel)]; kernel_rfl) | (rw [if_neg (by decide +kernel)]; exact ⟨rfl, rfl⟩))
    (fun os started H enc _ => lifted os started H enc)
#print axioms proved
end Go.Proofs.Ytkejjiohkhlnnaa.matchLeastLaw
