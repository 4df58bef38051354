/-
  The law MatchEvery is proved: for every input the call returns true, and its arguments read behind it as they read before. No condition.
-/
import Derived.Test.YtkejjiohkhlnnaaZ7
import Derived.Deep.CutBlock
import Derived.Deep.RegionHeld3
import Derived.Test.YtkejjiohkhlnnaaCopies
import Derived.ProofKit
import Derived.OpenShut
import Derived.ShutString
import Derived.ChangeOld
import Derived.SizedLaws
import Derived.Lib.SmallJoins
import Derived.Deep.Slices
import Derived.Test.YtkejjiohkhlnnaaSBatch
import Derived.Below
namespace Go.Proofs.Ytkejjiohkhlnnaa
open Go.RowKit
namespace Mt

/-- a world as a law is handed it -/
structure WorldIn (w : World) (T : WorldV) : Prop where
  ars : Ints w T.aa T.ar
  rows : RowsZ (fun _ => True) w T.ra T.rc T.rows
  con : Consts w T.ca T.cs
  conOk : ∀ c ∈ T.cs, C3Ok c
  rule : RuleIn w T.R
  many : T.cs.length ≤ maxLen
theorem WorldIn.below {w V : World} {T : WorldV} (h : WorldIn w T) (hb : Below w.heap.size w V) : WorldIn V T :=
  ⟨h.ars.below hb, h.rows.keep (fun j hj _ => hb.block j hj) (fun _ _ h => h), h.con.below hb (Nat.le_refl _), h.conOk, h.rule.below hb (Nat.le_refl _), h.many⟩
theorem WorldIn.tamed {w : World} {T : WorldV} (h : WorldIn w T) : Calls Try.prog 11 #[.agg T.cells] w (TamedEnd T w) := tamed_any T w h.ars h.rows h.con h.conOk h.rule h.many
/-- a world's cells in a block -/
theorem world_cells {w : World} {b : Nat} {T : WorldV} {ty : TypeId} (h : w.heap[b]? = some (.cells T.cells ty (0, 0))) : (w.cell? ⟨b, 0, none⟩ = some (.slice T.aa T.ar.length T.ac) ∧ w.cell? ⟨b, 1, none⟩ = some (.slice T.ra T.rows.length T.rc) ∧ w.cell? ⟨b, 2, none⟩ = some (.slice T.ca T.cs.length T.cc)) ∧ (w.cell? ⟨b, 3, none⟩ = some (.int .i64 T.R.hp) ∧ w.cell? ⟨b, 4, none⟩ = some (.slice T.R.ha T.R.hn T.R.hc) ∧ w.cell? ⟨b, 5, none⟩ = some (.slice T.R.pa T.R.pos.length T.R.pc) ∧ w.cell? ⟨b, 6, none⟩ = some (.slice T.R.ta T.R.tests.length T.R.tc) ∧ w.cell? ⟨b, 7, none⟩ = some (.slice T.R.na T.R.neg.length T.R.nc) ∧ w.cell? ⟨b, 8, none⟩ = some (.slice T.R.va T.R.nv T.R.vc) ∧ w.cell? ⟨b, 9, none⟩ = some (.int .i64 T.R.cl)) ∧ w.cell? ⟨b, 10, none⟩ = some (.int .i64 T.K) := by
  refine ⟨⟨?_, ?_, ?_⟩, ⟨?_, ?_, ?_, ?_, ?_, ?_, ?_⟩, ?_⟩ <;> simp [World.cell?, h, WorldV.cells]
theorem rev_take {α : Type} {l : List α} {i j : Nat} {x : α} (h : j + i + 1 = l.length) (hx : l[j]? = some x) (hi : i < l.length) : l.reverse.take (i + 1) = l.reverse.take i ++ [x] := by
  have e : l.reverse[i]? = some x := by
    rw [List.getElem?_reverse hi]
    have : l.length - 1 - i = j := by omega
    rw [this]
    exact hx
  exact take_snoc' e
theorem joinedL_nod : ∀ (m l : List Row), l.Nodup → (joinedL l m).Nodup
  | [], l, h => h
  | r :: m, l, h => by
    have e : joinedL l (r :: m) = joinedL (if r ∈ l then l else l ++ [r]) m := rfl
    rw [e]
    refine joinedL_nod m _ ?_
    split
    · exact h
    · rename_i hn
      rw [List.nodup_append]
      exact ⟨h, by simp, fun a ha b hb => by rw [List.mem_singleton] at hb; subst hb; exact fun e => hn (e ▸ ha)⟩
theorem joinedL_nodup (m : List Row) : (joinedL [] m).Nodup := joinedL_nod m [] List.nodup_nil
theorem below_chain {w V V2 : World} (h : Below w.heap.size w V) (k : Below V.heap.size V V2) : Below w.heap.size w V2 := h.trans (k.mono h.size)
theorem joinedL_app (l a b : List Row) : joinedL l (a ++ b) = joinedL (joinedL l a) b := by
  unfold joinedL
  rw [List.foldl_append]
/-- one row in a block of its own, its list somewhere else -/
theorem rows_one {w : World} {Z1 Z : Nat → Prop} {pp : Int} {ai : Option Addr} {ci : Nat} {xs : List Int} {ty : TypeId} (hI : IntsZ Z1 w ai ci xs) (hz : ∀ j, Z1 j → Z j) (hn : Z w.heap.size) (_ : 0 ≤ w.heap.size) : RowsZ Z (w.alloc (.cells #[.int .i64 pp, .slice ai xs.length ci] ty)) (some ⟨w.heap.size, 0, none⟩) 1 [(pp, xs)] := by
  have hq := World.alloc_heap_new w (.cells #[.int .i64 pp, .slice ai xs.length ci] ty)
  have hb : Below w.heap.size w (w.alloc (.cells #[.int .i64 pp, .slice ai xs.length ci] ty)) := (Below.refl _ _).alloc (Nat.le_refl _) _
  refine ⟨.inr ⟨_, 0, rfl, hn, fun i hi => ?_⟩, fun e => by cases e⟩
  match i, hi with
  | 0, _ => exact ⟨cell_of hq rfl, ai, ci, cell_of hq rfl, hI.keep (fun j hj _ => hb.block j hj) (fun j _ h => hz j h)⟩
  | i + 1, hi => exact absurd hi (by simp)
/-- an answer of Prefix is small -/
theorem pre_small {rows : List Row} {cs : List C3} {R : RuleV} (hr : ∀ r ∈ rows, IdsIn cs.length r.2) (ok : RuleOk R cs.length) (h1 : rows.length ≤ 30) (h2 : R.pos.length ≤ 4) (k : Nat) : (pre rows cs R k).length ≤ 1000000 ∧ ∀ x ∈ pre rows cs R k, x.length ≤ 1000000 := by
  refine ⟨?_, fun x hx => ?_⟩
  · unfold pre
    rw [(srtL_perm _ _ _).length_eq]
    have := res_few (cs := cs) h1 h2 k
    omega
  · have h1 := ((pre_iff hr ok _ x).1 hx).1
    have h2 := (wid_is ok k).2
    have h3 := ok.vars
    omega
end Mt
end Go.Proofs.Ytkejjiohkhlnnaa

namespace Go.Proofs.Ytkejjiohkhlnnaa
open Go.RowKit
namespace Mt
open Sq (Oth)

set_option maxHeartbeats 4000000 in
set_option maxRecDepth 8000 in
theorem put_any {d L : Nat} (s : Sl) (a : Option Addr) (c : Nat) (x : List Int) (w : World) (hs : SlotOk L d s) (hl : L ≤ x.length) (hx : Ints w a x) :
    Calls Try.prog 52 #[.agg #[.bool s.1, .int .i64 s.2], .slice a x.length c] w fun e w' => e = .returned (.int .i64 (putL s x)) ∧ Below w.heap.size w w' := by
  obtain ⟨b, n⟩ := s
  obtain ⟨h0, h1⟩ := hs
  simp only at h0 h1
  obtain ⟨k, rfl⟩ := Int.eq_ofNat_of_zero_le h0
  unfold putL
  cases b with
  | true =>
    simp only [if_true] at h1 ⊢
    have hk : k < x.length := by omega
    obtain ⟨g, o, rfl, y, c1, HY⟩ := ints_some hx hk
    have e : x.getD (k : Int).toNat 0 = y := by rw [Int.toNat_natCast, List.getD_eq_getElem?_getD, HY.out]; rfl
    rw [e]
    obtain ⟨N, hN⟩ : ∃ N, N = x.length := ⟨_, rfl⟩
    rw [← hN] at hk ⊢
    have zk : (0 : Int) ≤ (k : Int) := by omega
    have zkN : (k : Int) < (N : Int) := by omega
    obtain ⟨W0, hW0⟩ : ∃ V, V = w.alloc (.cells #[.bool true, .int .i64 (k : Int)] 58) := ⟨_, rfl⟩
    have hb0 : Below w.heap.size w W0 := by rw [hW0]; exact (Below.refl _ _).alloc (Nat.le_refl _) _
    have c1 := on_cell hb0 c1
    have q0 : W0.cell? ⟨w.heap.size, 0, none⟩ = some (.bool true) := by rw [hW0]; simp
    have q1 : W0.cell? ⟨w.heap.size, 1, none⟩ = some (.int .i64 (k : Int)) := by rw [hW0]; simp
    have HW0 := Lib.hid hW0
    clear hx hN e h0 h1 hW0
    go_enter Try.func52, Try.ntmps52
    go_upto_region 1 with fail
    rw [← HW0.out]
    go_wp2_with fail
    go_ret
    exact ⟨rfl, hb0⟩
  | false =>
    simp only [Bool.false_eq_true, if_false]
    go_enter Try.func52, Try.ntmps52
    go_wp2_with fail
    go_ret
    exact ⟨rfl, (Below.refl _ _).alloc (Nat.le_refl _) _⟩
/-- what rowOf leaves -/
def RowOfEnd (p : Int) (xs : List Int) (w : World) (e : Ending) (w' : World) : Prop := ∃ a c, e = .returned (.agg #[.int .i64 p, .slice a xs.length c]) ∧ IntsZ (fun j => w.heap.size ≤ j) w' a c xs ∧ Below w.heap.size w w'
theorem args_take_snoc {l : List Sl} {x : List Int} {j : Nat} {s : Sl} (h : l[j]? = some s) : (argsL l x).take (j + 1) = (argsL l x).take j ++ [putL s x] := by
  apply take_snoc'
  unfold argsL
  rw [List.getElem?_map, h]
  rfl
theorem put_in {d L : Nat} {s : Sl} {x : List Int} (hs : SlotOk L d s) (hl : L ≤ x.length) (hx : IdsIn d x) : 0 ≤ putL s x ∧ putL s x < d := by
  obtain ⟨b, n⟩ := s
  obtain ⟨h0, h1⟩ := hs
  unfold putL
  cases b with
  | false => exact ⟨h0, by simpa using h1⟩
  | true =>
    simp only [if_true] at h0 h1 ⊢
    have hlt : n.toNat < x.length := by omega
    rw [List.getD_eq_getElem?_getD, List.getElem?_eq_getElem hlt]
    exact hx _ (List.getElem_mem _)
set_option linter.unusedSimpArgs false in
set_option maxHeartbeats 8000000 in
set_option maxRecDepth 100000 in
theorem rowOf_any {d L : Nat} (p : Pat) (pa a : Option Addr) (pc c : Nat) (x : List Int) (w : World) (hp : Slots w pa p.2) (hs : ∀ s ∈ p.2, SlotOk L d s) (hl : L ≤ x.length) (hi : IdsIn d x) (hx : Ints w a x) (h8 : p.2.length ≤ 8) :
    Calls Try.prog 20 #[.agg #[.int .i64 p.1, .slice pa p.2.length pc], .slice a x.length c] w (RowOfEnd p.1 (argsL p.2 x) w) := by
  obtain ⟨pr, l⟩ := p
  simp only at hp hs h8 ⊢
  have HP := Lib.hid hp
  have HS := Lib.hid hs
  have HI := Lib.hid hi
  have cP := fun s (hs : s ∈ l) W (hW : Below w.heap.size w W) => Lib.hid (put_any (d := d) (L := L) s a c x W (HS.out s hs) hl (hx.below hW))
  obtain ⟨A, hA⟩ : ∃ A, A = argsL l x := ⟨_, rfl⟩
  have HA := Lib.hid hA
  rw [← hA]
  obtain ⟨N, hN⟩ : ∃ N, N = l.length := ⟨_, rfl⟩
  have HN := Lib.hid hN
  have HAl : Hid (A.length = N) := Lib.hid (by rw [hA, hN]; simp [argsL])
  rw [← hN] at h8 ⊢
  clear hp hs hA hN hx hi
  obtain ⟨b2, hb2⟩ : ∃ b, b = w.heap.size := ⟨_, rfl⟩
  obtain ⟨b4, hb4⟩ : ∃ b, b = w.heap.size + 1 := ⟨_, rfl⟩
  obtain ⟨b5, hb5⟩ : ∃ b, b = w.heap.size + 1 + 1 := ⟨_, rfl⟩
  obtain ⟨W0, hW0⟩ : ∃ V, V = ((w.alloc (.cells #[.int .i64 pr, .slice pa N pc] 27)).alloc (.cells #[.int .i64 0, .slice none 0 0] 50)).alloc (.cells #[.int .i64 pr, .slice none 0 0] 50) := ⟨_, rfl⟩
  obtain ⟨q2, q4, q5⟩ := blk3 w (.cells #[.int .i64 pr, .slice pa N pc] 27) (.cells #[.int .i64 0, .slice none 0 0] 50) (.cells #[.int .i64 pr, .slice none 0 0] 50)
  rw [← hW0] at q2 q4 q5
  rw [← hb2] at q2
  rw [← hb4] at q4
  rw [← hb5] at q5
  have hb0 : Below w.heap.size w W0 := by rw [hW0]; exact (((Below.refl _ _).alloc (Nat.le_refl _) _).alloc (by simp) _).alloc (by simp; omega) _
  have hs0 : W0.heap.size = w.heap.size + 3 := by rw [hW0]; simp
  have y1 : W0.cell? ⟨b2, 1, none⟩ = some (.slice pa N pc) := by simp [World.cell?, q2]
  have HW0 := Lib.hid hW0
  have Hbs : Hid (b2 = w.heap.size ∧ b4 = w.heap.size + 1 ∧ b5 = w.heap.size + 1 + 1 ∧ W0.heap.size = w.heap.size + 3) := Lib.hid ⟨hb2, hb4, hb5, hs0⟩
  have HB0 := Lib.hid hb0
  have Hq4 := Lib.hid q4
  have HI0 : Hid (ISt b5 pr W0 W0 (.slice none 0 0) [] d) := Lib.hid ⟨Oth.refl _ _, q5, World.ownsRow_nil _ _ _ _, fun x hx => (by cases hx)⟩
  clear hW0 hb2 hb4 hb5 hs0 hb0 q2 q4 q5
  go_enter Try.func20, Try.ntmps20
  go_upto_region 2 with fail
  rw [← HW0.out, ← Hbs.out.2.2.1, ← Hbs.out.2.1, ← Hbs.out.1]
  go_upto_block 0 with fail
  clear y1
  go_cut [] (fun w' => ∃ (u : Value), Hid (ISt b5 pr W0 w' u A d))
  case first =>
    have y1 : W0.cell? ⟨b2, 1, none⟩ = some (.slice pa N pc) := by
      have := (blk3 w (.cells #[.int .i64 pr, .slice pa N pc] 27) (.cells #[.int .i64 0, .slice none 0 0] 50) (.cells #[.int .i64 pr, .slice none 0 0] 50)).1
      rw [← HW0.out, ← Hbs.out.1] at this
      simp [World.cell?, this]
    go_wp2_with fail
    clear y1
    go_loopw [14] (fun t w' => ∃ (j : Nat) (u : Value) (li : List Int), t = .int .i64 j ∧ j ≤ N ∧ Hid (ISt b5 pr W0 w' u li d) ∧ Hid (li = A.take j)) (fun t _ => N - (intOf t).toNat)
    case atStart => exact ⟨0, _, [], rfl, Nat.zero_le _, HI0, Lib.hid (by simp)⟩
    case round =>
      clear HI0
      obtain ⟨j, u, li, rfl, hjN, HI9, HLi⟩ := hrel
      obtain ⟨ua, uc, rfl⟩ := owns_shape' HI9.out.own
      by_cases hlt : j < N
      · obtain ⟨s, hs⟩ : ∃ s, s = l[j]'(by rw [← HN.out]; exact hlt) := ⟨_, rfl⟩
        have Hs : Hid (l[j]? = some s) := Lib.hid (by rw [hs]; exact List.getElem?_eq_getElem _)
        clear hs
        have hold : Below w.heap.size w wr := HB0.out.trans (HI9.out.oth.low (by have := Hbs.out; omega) HB0.out.size)
        rcases HP.out with h | ⟨bp, op, rfl, hpp⟩
        · rw [HN.out, h] at hlt; simp at hlt
        · obtain ⟨v0, n0, c0, c1, HQ⟩ := slots_at hpp (k := j) (by rw [← HN.out]; exact hlt)
          have hsv : s = (v0, n0) := by have := HQ.out; rw [Hs.out] at this; exact Option.some.inj this
          subst hsv
          have c0 := below_cell hold (Nat.le_refl _) c0
          have c1 := below_cell hold (Nat.le_refl _) c1
          have Hsm : Hid (SlotOk L d (v0, n0)) := Lib.hid (HS.out _ (List.mem_of_getElem? Hs.out))
          have hlle : li.length < 8 := by rw [HLi.out, List.length_take]; omega
          have Hold := Lib.hid hold
          clear hpp hold HQ
          go_upto_region 5 with fail
          obtain ⟨W1, hW1⟩ : ∃ V, V = wr.alloc (.cells #[.bool v0, .int .i64 n0] 58) := ⟨_, rfl⟩
          obtain ⟨b7, hb7⟩ : ∃ b, b = wr.heap.size := ⟨_, rfl⟩
          rw [← hW1, ← hb7]
          have hbw1 : Below wr.heap.size wr W1 := by rw [hW1]; exact (Below.refl _ _).alloc (Nat.le_refl _) _
          have z0 : W1.cell? ⟨b7, 0, none⟩ = some (.bool v0) := by rw [hW1, hb7]; simp
          have z1 : W1.cell? ⟨b7, 1, none⟩ = some (.int .i64 n0) := by rw [hW1, hb7]; simp
          have h7n : b7 ≠ b5 := by have := HI9.out.oth.size; have := Hbs.out; omega
          have HI8 := Lib.hid (HI9.out.below hbw1)
          have cP1 := fun W (hW : Below W1.heap.size W1 W) => cP (v0, n0) (List.mem_of_getElem? Hs.out) W (Hold.out.trans ((hbw1.trans (hW.mono hbw1.size)).mono Hold.out.size))
          simp only at cP1
          have h5lt : b5 < W0.heap.size := by have := Hbs.out; omega
          have h7lt : b7 < W1.heap.size := by rw [hW1, hb7]; simp
          have q1 := HI8.out.cells.2
          have Hvb : Hid (∀ g, (Value.slice ua li.length uc).ownBlock = some g → b7 ≠ g) := Lib.hid (fun g hg => by have := (HI9.out.own.lt g hg).2; omega)
          clear hW1 hb7 hbw1 HI9 c0 c1
          obtain ⟨V0, hV0⟩ : ∃ V, V = W1.drew := ⟨_, rfl⟩
          have hd1 : Below W1.heap.size W1 V0 := by rw [hV0]; exact (Below.refl _ _).drew
          have HI7 := Lib.hid (HI8.out.below hd1)
          have q1 := on_cell hd1 q1
          have z0 := on_cell hd1 z0
          have z1 := on_cell hd1 z1
          have hown := HI7.out.own
          have hlow := HI7.out.oth.size
          have hb0 := Below.refl V0.heap.size V0
          clear HI8
          refine wp_region_noPanic ?_
          refine wp_region_held_drew (S := (fun w' => w'.cell? ⟨b7, 0, none⟩ = some (.bool v0) ∧ w'.cell? ⟨b7, 1, none⟩ = some (.int .i64 n0))) (by kernel_rfl) ?_ (fun hHeld => ?_)
          · rw [← hV0]; exact ⟨z0, z1⟩
          rw [← hV0] at hHeld ⊢
          clear hV0
          refine wpAnyH_take (i := 0) (oi := ⟨some 18, _, _, _, _, _⟩) (v := ?_) rfl (by kernel_rfl) (by kernel_rfl) (by kernel_rfl) (fun _ _ _ h => h) (Or.inl ⟨by rfl, ?_⟩) (by assumption) ?_
          rotate_left 1
          · intro w hSw
            (try dsimp only at hSw)
            go_simp
            all_goals with_reducible rfl
          (try simp only [Act.put, List.setIfInBounds_toArray, List.set_cons_zero, List.set_cons_succ])
          refine wpAnyH_take (i := 2) (oi := ⟨some 20, _, _, _, _, _⟩) (v := ?_) rfl (by kernel_rfl) (by kernel_rfl) (by kernel_rfl) (fun _ _ _ h => h) (Or.inl ⟨by rfl, ?_⟩) (by assumption) ?_
          rotate_left 1
          · intro w hSw
            (try dsimp only at hSw)
            go_simp
            all_goals with_reducible rfl
          (try simp only [Act.put, List.setIfInBounds_toArray, List.set_cons_zero, List.set_cons_succ])
          refine wpAnyH_take (i := 3) (oi := ⟨some 21, _, _, _, _, _⟩) (v := ?_) rfl (by kernel_rfl) (by kernel_rfl) (by kernel_rfl) (fun _ _ _ h => h) (Or.inl ⟨by rfl, ?_⟩) (by assumption) ?_
          rotate_left 1
          · intro w hSw
            (try dsimp only at hSw)
            go_simp
            all_goals with_reducible rfl
          (try simp only [Act.put, List.setIfInBounds_toArray, List.set_cons_zero, List.set_cons_succ])
          refine wpAnyH_ready (rs := [1, 4]) (by kernel_rfl) (by simp) ?_
          refine AllReadyH.cons (o := _) rfl (fun K hK => ?_) ?_
          · have tt := on_cell hb0 q1
            go_simp
            clear tt
            refine hK.out _ _ ?_ (fun hHeld => ?_)
            · exact ⟨on_cell hb0 z0, on_cell hb0 z1⟩
            clear hK K
            (try simp only [Act.put, List.setIfInBounds_toArray, List.set_cons_zero, List.set_cons_succ])
            refine wpAnyH_ready (rs := [4]) (by kernel_rfl) (by simp) ?_
            refine AllReadyH.cons (o := _) rfl (fun K hK => ?_) ?_
            · go_simp
              with_reducible refine (cP1 _ (hd1.trans (hb0.mono hd1.size))).out.mono ?_
              rintro e V2 ⟨rfl, hb2'⟩
              have hb2 : Below V0.heap.size V0 V2 := hb0.trans (hb2'.mono hb0.size)
              clear hb2'
              refine hK.out _ _ ?_ (fun hHeld => ?_)
              · exact ⟨on_cell hb2 z0, on_cell hb2 z1⟩
              clear hK K
              (try simp only [Act.put, List.setIfInBounds_toArray, List.set_cons_zero, List.set_cons_succ])
              refine wpAnyH_ready (rs := [5]) (by kernel_rfl) (by simp) ?_
              refine AllReadyH.cons (o := _) rfl (fun K hK => ?_) ?_
              · go_simp
                obtain ⟨V3, hV3⟩ : ∃ W, W = V2.alloc (.cells #[.int .i64 (putL (v0, n0) x)] 3) := ⟨_, rfl⟩
                obtain ⟨b8, hb8⟩ : ∃ b, b = V2.heap.size := ⟨_, rfl⟩
                rw [← hV3, ← hb8]
                have hb3 : Below V0.heap.size V0 V3 := by rw [hV3]; exact hb2.alloc hb2.size _
                have src3 : Source V3 (some ⟨b8, 0, none⟩) 1 1 [.int .i64 (putL (v0, n0) x)] := by rw [hV3, hb8]; exact source_new V2 [.int .i64 (putL (v0, n0) x)] 3
                clear hV3 hb8
                refine hK.out _ _ ?_ (fun hHeld => ?_)
                · exact ⟨on_cell hb3 z0, on_cell hb3 z1⟩
                clear hK K
                (try simp only [Act.put, List.setIfInBounds_toArray, List.set_cons_zero, List.set_cons_succ])
                refine wpAnyH_ready (rs := [6]) (by kernel_rfl) (by simp) ?_
                refine AllReadyH.cons (o := _) rfl (fun K hK => ?_) ?_
                · have hz3 := hb3.size
                  refine step_append_any elemInt _ rfl _ _ rfl W0.heap.size (.slice ua li.length uc) li.length (li.map (Value.int .i64)) rfl (owns_below hown hb3 (Nat.le_refl _)) (some ⟨b8, 0, none⟩) 1 1 [.int .i64 (putL (v0, n0) x)] rfl src3 rfl (by simp [Value.oneCell']) (by unfold maxLen; omega) (by omega) (by omega) ?_
                  intro v' V4 hown4 hgrow4 hblk4
                  obtain ⟨va4, vc4, rfl⟩ := owns_shape' hown4
                  obtain ⟨p1, p2, p3⟩ := HI7.out.push h5lt hb3 hgrow4 hown4 (put_in Hsm.out hl HI.out)
                  have P1 := Lib.hid p1
                  have hS4 : V4.cell? ⟨b7, 0, none⟩ = some (.bool v0) ∧ V4.cell? ⟨b7, 1, none⟩ = some (.int .i64 n0) := ⟨hgrow4.cell (on_cell hb3 z0) (fun e => Hvb.out _ e.symm rfl), hgrow4.cell (on_cell hb3 z1) (fun e => Hvb.out _ e.symm rfl)⟩
                  clear p1 hown4 hgrow4 hblk4 src3
                  refine hK.out _ _ ?_ (fun hHeld => ?_)
                  · exact hS4
                  clear hK K
                  (try simp only [Act.put, List.setIfInBounds_toArray, List.set_cons_zero, List.set_cons_succ])
                  refine wpAnyH_take (i := 7) (oi := ⟨some 25, _, _, _, _, _⟩) (v := ?_) rfl (by kernel_rfl) (by kernel_rfl) (by kernel_rfl) (fun _ _ _ h => h) (Or.inl ⟨by rfl, ?_⟩) (by assumption) ?_
                  rotate_left 1
                  · intro w hSw
                    (try dsimp only at hSw)
                    go_simp
                    all_goals with_reducible rfl
                  (try simp only [Act.put, List.setIfInBounds_toArray, List.set_cons_zero, List.set_cons_succ])
                  refine wpAnyH_ready (rs := [8]) (by kernel_rfl) (by simp) ?_
                  refine AllReadyH.cons (o := _) rfl (fun K hK => ?_) ?_
                  · go_simp
                    refine hK.out _ _ ?_ (fun hHeld => ?_)
                    · exact ⟨(World.cell?_setCell_far _ _ _ _ (Ne.symm h7n)).trans hS4.1, (World.cell?_setCell_far _ _ _ _ (Ne.symm h7n)).trans hS4.2⟩
                    clear hK K
                    (try simp only [Act.put, List.setIfInBounds_toArray, List.set_cons_zero, List.set_cons_succ])
                    refine wpAnyH_done (by kernel_rfl) ?_ _
                    refine NoPanic.normal ?_
                    have HLX : Hid (li ++ [putL (v0, n0) x] = A.take (j + 1)) := Lib.hid (by rw [HLi.out, HA.out, args_take_snoc Hs.out])
                    clear hS4 hHeld
                    go_wp2
                    go_roundw
                    case rel => first | exact ⟨j + 1, by go_num, by omega, _, _, P1, HLX⟩ | exact ⟨j + 1, _, _, by go_num, by omega, P1, HLX⟩
                    case measure => simp [intOf]; omega
                  exact AllReadyH.nil
                exact AllReadyH.nil
              exact AllReadyH.nil
            exact AllReadyH.nil
          refine AllReadyH.cons (o := _) rfl (fun K hK => ?_) ?_
          · go_simp
            with_reducible refine (cP1 _ (hd1.trans (hb0.mono hd1.size))).out.mono ?_
            rintro e V2 ⟨rfl, hb2'⟩
            have hb2 : Below V0.heap.size V0 V2 := hb0.trans (hb2'.mono hb0.size)
            clear hb2'
            refine hK.out _ _ ?_ (fun hHeld => ?_)
            · exact ⟨on_cell hb2 z0, on_cell hb2 z1⟩
            clear hK K
            (try simp only [Act.put, List.setIfInBounds_toArray, List.set_cons_zero, List.set_cons_succ])
            refine wpAnyH_ready (rs := [1, 5]) (by kernel_rfl) (by simp) ?_
            refine AllReadyH.cons (o := _) rfl (fun K hK => ?_) ?_
            · have tt := on_cell hb2 q1
              go_simp
              clear tt
              refine hK.out _ _ ?_ (fun hHeld => ?_)
              · exact ⟨on_cell hb2 z0, on_cell hb2 z1⟩
              clear hK K
              (try simp only [Act.put, List.setIfInBounds_toArray, List.set_cons_zero, List.set_cons_succ])
              refine wpAnyH_ready (rs := [5]) (by kernel_rfl) (by simp) ?_
              refine AllReadyH.cons (o := _) rfl (fun K hK => ?_) ?_
              · go_simp
                obtain ⟨V3, hV3⟩ : ∃ W, W = V2.alloc (.cells #[.int .i64 (putL (v0, n0) x)] 3) := ⟨_, rfl⟩
                obtain ⟨b8, hb8⟩ : ∃ b, b = V2.heap.size := ⟨_, rfl⟩
                rw [← hV3, ← hb8]
                have hb3 : Below V0.heap.size V0 V3 := by rw [hV3]; exact hb2.alloc hb2.size _
                have src3 : Source V3 (some ⟨b8, 0, none⟩) 1 1 [.int .i64 (putL (v0, n0) x)] := by rw [hV3, hb8]; exact source_new V2 [.int .i64 (putL (v0, n0) x)] 3
                clear hV3 hb8
                refine hK.out _ _ ?_ (fun hHeld => ?_)
                · exact ⟨on_cell hb3 z0, on_cell hb3 z1⟩
                clear hK K
                (try simp only [Act.put, List.setIfInBounds_toArray, List.set_cons_zero, List.set_cons_succ])
                refine wpAnyH_ready (rs := [6]) (by kernel_rfl) (by simp) ?_
                refine AllReadyH.cons (o := _) rfl (fun K hK => ?_) ?_
                · have hz3 := hb3.size
                  refine step_append_any elemInt _ rfl _ _ rfl W0.heap.size (.slice ua li.length uc) li.length (li.map (Value.int .i64)) rfl (owns_below hown hb3 (Nat.le_refl _)) (some ⟨b8, 0, none⟩) 1 1 [.int .i64 (putL (v0, n0) x)] rfl src3 rfl (by simp [Value.oneCell']) (by unfold maxLen; omega) (by omega) (by omega) ?_
                  intro v' V4 hown4 hgrow4 hblk4
                  obtain ⟨va4, vc4, rfl⟩ := owns_shape' hown4
                  obtain ⟨p1, p2, p3⟩ := HI7.out.push h5lt hb3 hgrow4 hown4 (put_in Hsm.out hl HI.out)
                  have P1 := Lib.hid p1
                  have hS4 : V4.cell? ⟨b7, 0, none⟩ = some (.bool v0) ∧ V4.cell? ⟨b7, 1, none⟩ = some (.int .i64 n0) := ⟨hgrow4.cell (on_cell hb3 z0) (fun e => Hvb.out _ e.symm rfl), hgrow4.cell (on_cell hb3 z1) (fun e => Hvb.out _ e.symm rfl)⟩
                  clear p1 hown4 hgrow4 hblk4 src3
                  refine hK.out _ _ ?_ (fun hHeld => ?_)
                  · exact hS4
                  clear hK K
                  (try simp only [Act.put, List.setIfInBounds_toArray, List.set_cons_zero, List.set_cons_succ])
                  refine wpAnyH_take (i := 7) (oi := ⟨some 25, _, _, _, _, _⟩) (v := ?_) rfl (by kernel_rfl) (by kernel_rfl) (by kernel_rfl) (fun _ _ _ h => h) (Or.inl ⟨by rfl, ?_⟩) (by assumption) ?_
                  rotate_left 1
                  · intro w hSw
                    (try dsimp only at hSw)
                    go_simp
                    all_goals with_reducible rfl
                  (try simp only [Act.put, List.setIfInBounds_toArray, List.set_cons_zero, List.set_cons_succ])
                  refine wpAnyH_ready (rs := [8]) (by kernel_rfl) (by simp) ?_
                  refine AllReadyH.cons (o := _) rfl (fun K hK => ?_) ?_
                  · go_simp
                    refine hK.out _ _ ?_ (fun hHeld => ?_)
                    · exact ⟨(World.cell?_setCell_far _ _ _ _ (Ne.symm h7n)).trans hS4.1, (World.cell?_setCell_far _ _ _ _ (Ne.symm h7n)).trans hS4.2⟩
                    clear hK K
                    (try simp only [Act.put, List.setIfInBounds_toArray, List.set_cons_zero, List.set_cons_succ])
                    refine wpAnyH_done (by kernel_rfl) ?_ _
                    refine NoPanic.normal ?_
                    have HLX : Hid (li ++ [putL (v0, n0) x] = A.take (j + 1)) := Lib.hid (by rw [HLi.out, HA.out, args_take_snoc Hs.out])
                    clear hS4 hHeld
                    go_wp2
                    go_roundw
                    case rel => first | exact ⟨j + 1, by go_num, by omega, _, _, P1, HLX⟩ | exact ⟨j + 1, _, _, by go_num, by omega, P1, HLX⟩
                    case measure => simp [intOf]; omega
                  exact AllReadyH.nil
                exact AllReadyH.nil
              exact AllReadyH.nil
            refine AllReadyH.cons (o := _) rfl (fun K hK => ?_) ?_
            · go_simp
              obtain ⟨V3, hV3⟩ : ∃ W, W = V2.alloc (.cells #[.int .i64 (putL (v0, n0) x)] 3) := ⟨_, rfl⟩
              obtain ⟨b8, hb8⟩ : ∃ b, b = V2.heap.size := ⟨_, rfl⟩
              rw [← hV3, ← hb8]
              have hb3 : Below V0.heap.size V0 V3 := by rw [hV3]; exact hb2.alloc hb2.size _
              have src3 : Source V3 (some ⟨b8, 0, none⟩) 1 1 [.int .i64 (putL (v0, n0) x)] := by rw [hV3, hb8]; exact source_new V2 [.int .i64 (putL (v0, n0) x)] 3
              clear hV3 hb8
              refine hK.out _ _ ?_ (fun hHeld => ?_)
              · exact ⟨on_cell hb3 z0, on_cell hb3 z1⟩
              clear hK K
              (try simp only [Act.put, List.setIfInBounds_toArray, List.set_cons_zero, List.set_cons_succ])
              refine wpAnyH_ready (rs := [1]) (by kernel_rfl) (by simp) ?_
              refine AllReadyH.cons (o := _) rfl (fun K hK => ?_) ?_
              · have tt := on_cell hb3 q1
                go_simp
                clear tt
                refine hK.out _ _ ?_ (fun hHeld => ?_)
                · exact ⟨on_cell hb3 z0, on_cell hb3 z1⟩
                clear hK K
                (try simp only [Act.put, List.setIfInBounds_toArray, List.set_cons_zero, List.set_cons_succ])
                refine wpAnyH_ready (rs := [6]) (by kernel_rfl) (by simp) ?_
                refine AllReadyH.cons (o := _) rfl (fun K hK => ?_) ?_
                · have hz3 := hb3.size
                  refine step_append_any elemInt _ rfl _ _ rfl W0.heap.size (.slice ua li.length uc) li.length (li.map (Value.int .i64)) rfl (owns_below hown hb3 (Nat.le_refl _)) (some ⟨b8, 0, none⟩) 1 1 [.int .i64 (putL (v0, n0) x)] rfl src3 rfl (by simp [Value.oneCell']) (by unfold maxLen; omega) (by omega) (by omega) ?_
                  intro v' V4 hown4 hgrow4 hblk4
                  obtain ⟨va4, vc4, rfl⟩ := owns_shape' hown4
                  obtain ⟨p1, p2, p3⟩ := HI7.out.push h5lt hb3 hgrow4 hown4 (put_in Hsm.out hl HI.out)
                  have P1 := Lib.hid p1
                  have hS4 : V4.cell? ⟨b7, 0, none⟩ = some (.bool v0) ∧ V4.cell? ⟨b7, 1, none⟩ = some (.int .i64 n0) := ⟨hgrow4.cell (on_cell hb3 z0) (fun e => Hvb.out _ e.symm rfl), hgrow4.cell (on_cell hb3 z1) (fun e => Hvb.out _ e.symm rfl)⟩
                  clear p1 hown4 hgrow4 hblk4 src3
                  refine hK.out _ _ ?_ (fun hHeld => ?_)
                  · exact hS4
                  clear hK K
                  (try simp only [Act.put, List.setIfInBounds_toArray, List.set_cons_zero, List.set_cons_succ])
                  refine wpAnyH_take (i := 7) (oi := ⟨some 25, _, _, _, _, _⟩) (v := ?_) rfl (by kernel_rfl) (by kernel_rfl) (by kernel_rfl) (fun _ _ _ h => h) (Or.inl ⟨by rfl, ?_⟩) (by assumption) ?_
                  rotate_left 1
                  · intro w hSw
                    (try dsimp only at hSw)
                    go_simp
                    all_goals with_reducible rfl
                  (try simp only [Act.put, List.setIfInBounds_toArray, List.set_cons_zero, List.set_cons_succ])
                  refine wpAnyH_ready (rs := [8]) (by kernel_rfl) (by simp) ?_
                  refine AllReadyH.cons (o := _) rfl (fun K hK => ?_) ?_
                  · go_simp
                    refine hK.out _ _ ?_ (fun hHeld => ?_)
                    · exact ⟨(World.cell?_setCell_far _ _ _ _ (Ne.symm h7n)).trans hS4.1, (World.cell?_setCell_far _ _ _ _ (Ne.symm h7n)).trans hS4.2⟩
                    clear hK K
                    (try simp only [Act.put, List.setIfInBounds_toArray, List.set_cons_zero, List.set_cons_succ])
                    refine wpAnyH_done (by kernel_rfl) ?_ _
                    refine NoPanic.normal ?_
                    have HLX : Hid (li ++ [putL (v0, n0) x] = A.take (j + 1)) := Lib.hid (by rw [HLi.out, HA.out, args_take_snoc Hs.out])
                    clear hS4 hHeld
                    go_wp2
                    go_roundw
                    case rel => first | exact ⟨j + 1, by go_num, by omega, _, _, P1, HLX⟩ | exact ⟨j + 1, _, _, by go_num, by omega, P1, HLX⟩
                    case measure => simp [intOf]; omega
                  exact AllReadyH.nil
                exact AllReadyH.nil
              exact AllReadyH.nil
            exact AllReadyH.nil
          exact AllReadyH.nil
      · have hje : j = N := by omega
        subst hje
        have e : li = A := by rw [HLi.out, ← HAl.out, List.take_length]
        subst e
        go_wp2_with fail
        go_meet
        exact ⟨_, HI9⟩
  case rest =>
    clear HI0
    obtain ⟨u, HI9⟩ := hcut
    obtain ⟨ua, uc, rfl⟩ := owns_shape' HI9.out.own
    have q0 := HI9.out.cells.1
    have q1 := HI9.out.cells.2
    have h4 := (HI9.out.oth.keep b4 (by have := Hbs.out; omega) (by have := Hbs.out; omega)).trans Hq4.out
    have e0 : wc.cell? ⟨b4, 0, none⟩ = some (.int .i64 0) := by simp [World.cell?, h4]
    have e1 : wc.cell? ⟨b4, 1, none⟩ = some (.slice none 0 0) := by simp [World.cell?, h4]
    have f0 : wc.frozen? ⟨b4, 0, none⟩ = false := by simp [World.frozen?, h4]
    have f1 : wc.frozen? ⟨b4, 1, none⟩ = false := by simp [World.frozen?, h4]
    have HF : Hid (∀ V, V = (wc.setCell ⟨b4, 0, none⟩ (.int .i64 pr)).setCell ⟨b4, 1, none⟩ (.slice ua A.length uc) → V.cell? ⟨b4, 0, none⟩ = some (.int .i64 pr) ∧ V.cell? ⟨b4, 1, none⟩ = some (.slice ua A.length uc) ∧ RowOfEnd pr A w (.returned (.agg #[.int .i64 pr, .slice ua A.length uc])) V) := Lib.hid (fun V hV => by
      have hg : V.heap[b4]? = some (.cells #[.int .i64 pr, .slice ua A.length uc] 50 (0, 0)) := by rw [hV]; simpa using heap_setCell (j := 1) (heap_setCell (j := 0) h4 (.int .i64 pr)) (.slice ua A.length uc)
      have hlo4 : w.heap.size ≤ b4 := by have := Hbs.out; omega
      have hbw : Below w.heap.size w wc := HB0.out.trans (HI9.out.oth.low (by have := Hbs.out; omega) HB0.out.size)
      refine ⟨by simp [World.cell?, hg], by simp [World.cell?, hg], ua, uc, rfl, ?_, ?_⟩
      · have hown : V.ownsRow w.heap.size 3 1 (.slice ua A.length uc) A.length (A.map (Value.int .i64)) := by
          rw [hV]
          have hz := Hbs.out
          refine owns_base (owns_block HI9.out.own (fun g hg => ?_)) HB0.out.size
          have := (HI9.out.own.lt g hg).1
          rw [Below.heap_setCell _ _ _ _ (fun e => by have e : g = b4 := e; omega), Below.heap_setCell _ _ _ _ (fun e => by have e : g = b4 := e; omega)]
        exact intsZ_of_row hown
      · rw [hV]
        exact (hbw.setCell (p := ⟨b4, 0, none⟩) hlo4 _).setCell (p := ⟨b4, 1, none⟩) hlo4 _)
    clear h4
    go_wp2_with fail
    generalize hV : ((World.setCell wc _ _).setCell _ _) = V
    obtain ⟨k0, k1, HE⟩ := HF.out V hV.symm
    clear hV
    refine bodyPost_ret (v := .agg #[.int .i64 pr, .slice ua A.length uc]) (by simp [results, Try.results20, go_sem, k0, k1]) rfl ?_
    exact HE
set_option maxHeartbeats 4000000 in
set_option maxRecDepth 8000 in
theorem has_any (aa xa : Option Addr) (ca xc : Nat) (ls : List (List Int)) (x : List Int) (w : World) (ha : ListsV w aa ls) (hx : Ints w xa x) (hm : ls.length ≤ 1000000) (hs : ∀ y ∈ ls, y.length ≤ 1000000) (R : Bool) (hR : R = decide (x ∈ ls)) :
    Calls Try.prog 18 #[.slice aa ls.length ca, .slice xa x.length xc] w fun e w' => e = .returned (.bool R) ∧ Below w.heap.size w w' := by
  have HA := Lib.hid ha
  have HX := Lib.hid hx
  have HS := Lib.hid hs
  have HR := Lib.hid hR
  obtain ⟨n, hn⟩ : ∃ n, n = ls.length := ⟨_, rfl⟩
  obtain ⟨xl, hxl⟩ : ∃ n, n = x.length := ⟨_, rfl⟩
  rw [← hn] at hm ⊢
  have Hn := Lib.hid hn
  have Hxl := Lib.hid hxl
  rw [← hxl]
  clear ha hx hs hR hn hxl
  go_enter Try.func18, Try.ntmps18
  go_wp2_with fail
  go_loopw [8] (fun t wr => ∃ k : Nat, t = .int .i64 k ∧ k ≤ n ∧ Below w.heap.size w wr ∧ Hid (∀ y ∈ ls.take k, y ≠ x)) (fun t _ => n - (intOf t).toNat)
  case atStart => exact ⟨0, rfl, Nat.zero_le _, Below.refl _ _, Lib.hid (fun y hy => by simp at hy)⟩
  case round =>
    obtain ⟨k, rfl, hk, hbel, HK⟩ := hrel
    by_cases hlt : k < n
    · obtain ⟨b1, o1, l1, a1, c1, rfl, hy, x1, i1⟩ := lists_at HA.out (k := k) (by rw [← Hn.out]; exact hlt)
      have HY := Lib.hid hy
      have hl1 := HS.out l1 (List.mem_of_getElem? hy)
      have e1 := below_cell hbel (Nat.le_refl _) x1
      have cI := Lib.hid (sameInts_any a1 xa c1 xc l1 x wr (Ints.old i1 hbel (Nat.le_refl _)) (Ints.old HX.out hbel (Nat.le_refl _)) (by omega))
      obtain ⟨d, hd⟩ : ∃ d, d = decide (l1 = x) := ⟨_, rfl⟩
      rw [← hd, ← Hxl.out] at cI
      have Hd := Lib.hid hd
      clear hy x1 i1 hd
      cases d with
      | true =>
        have hRt : R = true := by
          rw [HR.out]
          have e : l1 = x := by simpa using Hd.out.symm
          rw [← e]
          simpa using List.mem_of_getElem? HY.out
        subst hRt
        go_wp2_with (first | (go_at_call 31; (with_reducible refine cI.out.mono ?_); rintro e V ⟨rfl, nd, hV⟩))
        go_ret
        exact ⟨rfl, by rw [← hV]; exact below_drewN hbel nd⟩
      | false =>
        have HK2 : Hid (∀ y ∈ ls.take (k + 1), y ≠ x) := Lib.hid (by
          have e : l1 ≠ x := by simpa using Hd.out.symm
          rw [take_snoc' HY.out]
          intro y hy
          rcases List.mem_append.1 hy with hy | hy
          · exact HK.out y hy
          · rw [List.mem_singleton] at hy; rw [hy]; exact e)
        clear HK
        go_upto_if 16 with (first | (go_at_call 31; (with_reducible refine cI.out.mono ?_); rintro e V ⟨rfl, nd, hV⟩; have hbV : Below w.heap.size w V := (by rw [← hV]; exact below_drewN hbel nd)))
        clear hV cI
        go_wp2_with fail
        go_roundw
        case rel => exact ⟨k + 1, by go_num, by omega, hbV, HK2⟩
        case measure => simp [intOf]; omega
    · have hRf : R = false := by
        rw [HR.out]
        have := HK.out
        rw [List.take_of_length_le (by rw [← Hn.out]; omega)] at this
        simpa using fun h => this x h rfl
      subst hRf
      go_wp2_with fail
      go_ret
      exact ⟨rfl, hbel⟩
set_option maxHeartbeats 4000000 in
set_option maxRecDepth 8000 in
theorem within_any (aa ab : Option Addr) (ca cb : Nat) (xs ys : List (List Int)) (w : World) (ha : ListsV w aa xs) (hb : ListsV w ab ys) (hm : xs.length ≤ 1000000) (hm2 : ys.length ≤ 1000000) (hs : ∀ y ∈ ys, y.length ≤ 1000000) (R : Bool) (hR : R = decide (∀ x ∈ xs, x ∈ ys)) :
    Calls Try.prog 23 #[.slice aa xs.length ca, .slice ab ys.length cb] w fun e w' => e = .returned (.bool R) ∧ Below w.heap.size w w' := by
  have HA := Lib.hid ha
  have HB := Lib.hid hb
  have HS := Lib.hid hs
  have HR := Lib.hid hR
  obtain ⟨n, hn⟩ : ∃ n, n = xs.length := ⟨_, rfl⟩
  obtain ⟨m, hm'⟩ : ∃ n, n = ys.length := ⟨_, rfl⟩
  rw [← hn] at hm ⊢
  rw [← hm'] at hm2
  rw [← hm']
  have Hn := Lib.hid hn
  have Hm := Lib.hid hm'
  clear ha hb hs hR hn hm'
  go_enter Try.func23, Try.ntmps23
  go_wp2_with fail
  go_loopw [9] (fun t wr => ∃ k : Nat, t = .int .i64 k ∧ k ≤ n ∧ Below w.heap.size w wr ∧ Hid (∀ y ∈ xs.take k, y ∈ ys)) (fun t _ => n - (intOf t).toNat)
  case atStart => exact ⟨0, rfl, Nat.zero_le _, Below.refl _ _, Lib.hid (fun y hy => by simp at hy)⟩
  case round =>
    obtain ⟨k, rfl, hk, hbel, HK⟩ := hrel
    by_cases hlt : k < n
    · obtain ⟨b1, o1, l1, a1, c1, rfl, hy, x1, i1⟩ := lists_at HA.out (k := k) (by rw [← Hn.out]; exact hlt)
      have HY := Lib.hid hy
      have e1 := below_cell hbel (Nat.le_refl _) x1
      obtain ⟨d, hd⟩ : ∃ d, d = decide (l1 ∈ ys) := ⟨_, rfl⟩
      have cI := Lib.hid (has_any ab a1 cb c1 ys l1 wr (HB.out.below hbel (Nat.le_refl _)) (Ints.old i1 hbel (Nat.le_refl _)) (by rw [← Hm.out]; exact hm2) HS.out d hd)
      rw [← Hm.out] at cI
      have Hd := Lib.hid hd
      clear hy x1 i1 hd
      cases d with
      | false =>
        have hRt : R = false := by
          rw [HR.out]
          have e : l1 ∉ ys := by simpa using Hd.out.symm
          simp only [decide_eq_false_iff_not]
          exact fun h => e (h l1 (List.mem_of_getElem? HY.out))
        subst hRt
        go_wp2_with (first | (go_at_call 18; (with_reducible refine cI.out.mono ?_); rintro e V ⟨rfl, hV⟩))
        go_ret
        exact ⟨rfl, hbel.trans (hV.mono hbel.size)⟩
      | true =>
        have HK2 : Hid (∀ y ∈ xs.take (k + 1), y ∈ ys) := Lib.hid (by
          have e : l1 ∈ ys := by simpa using Hd.out.symm
          rw [take_snoc' HY.out]
          intro y hy
          rcases List.mem_append.1 hy with hy | hy
          · exact HK.out y hy
          · rw [List.mem_singleton] at hy; rw [hy]; exact e)
        clear HK
        go_upto_if 16 with (first | (go_at_call 18; (with_reducible refine cI.out.mono ?_); rintro e V ⟨rfl, hV⟩; have hbV : Below w.heap.size w V := hbel.trans (hV.mono hbel.size)))
        clear hV cI
        go_wp2_with fail
        go_roundw
        case rel => exact ⟨k + 1, by go_num, by omega, hbV, HK2⟩
        case measure => simp [intOf]; omega
    · have hRf : R = true := by
        rw [HR.out]
        have := HK.out
        rw [List.take_of_length_le (by rw [← Hn.out]; omega)] at this
        simpa using this
      subst hRf
      go_wp2_with fail
      go_ret
      exact ⟨rfl, hbel⟩
set_option maxHeartbeats 4000000 in
set_option maxRecDepth 8000 in
theorem names_any (aa : Option Addr) (ca : Nat) (ps : List Pat) (pred : Int) (w : World) (ha : Pats w aa ps) (hm : ps.length ≤ 1000000) (R : Bool) (hR : R = decide (∃ p ∈ ps, p.1 = pred)) :
    Calls Try.prog 22 #[.slice aa ps.length ca, .int .i64 pred] w fun e w' => e = .returned (.bool R) ∧ Below w.heap.size w w' := by
  have HA := Lib.hid ha
  have HR := Lib.hid hR
  obtain ⟨n, hn⟩ : ∃ n, n = ps.length := ⟨_, rfl⟩
  rw [← hn] at hm ⊢
  have Hn := Lib.hid hn
  clear ha hR hn
  go_enter Try.func22, Try.ntmps22
  go_wp2_with fail
  go_loopw [9] (fun t wr => ∃ k : Nat, t = .int .i64 k ∧ k ≤ n ∧ Below w.heap.size w wr ∧ Hid (∀ p ∈ ps.take k, p.1 ≠ pred)) (fun t _ => n - (intOf t).toNat)
  case atStart => exact ⟨0, rfl, Nat.zero_le _, Below.refl _ _, Lib.hid (fun y hy => by simp at hy)⟩
  case round =>
    obtain ⟨k, rfl, hk, hbel, HK⟩ := hrel
    by_cases hlt : k < n
    · obtain ⟨b1, o1, rfl, hc⟩ : ∃ b off, aa = some ⟨b, off, none⟩ ∧ ∀ (i : Nat) (p : Pat), ps[i]? = some p → w.cell? ⟨b, off + i * 2, none⟩ = some (.int .i64 p.1) ∧ ∃ sa sc, w.cell? ⟨b, off + i * 2 + 1, none⟩ = some (.slice sa p.2.length sc) ∧ Slots w sa p.2 := by
        rcases HA.out with h | h
        · rw [Hn.out, h] at hlt; simp at hlt
        · exact h
      obtain ⟨p, hp⟩ : ∃ p, p = ps[k]'(by rw [← Hn.out]; exact hlt) := ⟨_, rfl⟩
      have Hp : Hid (ps[k]? = some p) := Lib.hid (by rw [hp]; exact List.getElem?_eq_getElem _)
      obtain ⟨c0, sa, sc, c1, -⟩ := hc k p Hp.out
      obtain ⟨pp, sl⟩ := p
      have c0 := below_cell hbel (Nat.le_refl _) c0
      have c1 := below_cell hbel (Nat.le_refl _) c1
      simp only at c0 c1
      clear hp hc
      obtain ⟨W1, hW1⟩ : ∃ V, V = wr.alloc (.cells #[.int .i64 pp, .slice sa sl.length sc] 27) := ⟨_, rfl⟩
      have hbw : Below w.heap.size w W1 := by rw [hW1]; exact hbel.alloc hbel.size _
      have HW1 := Lib.hid hW1
      clear hW1
      by_cases he : pp = pred
      · have hRt : R = true := by
          rw [HR.out]
          simp only [decide_eq_true_eq]
          exact ⟨_, List.mem_of_getElem? Hp.out, he⟩
        subst hRt
        have he2 : (pp == pred) = true := by simp [he]
        clear he
        go_wp2_with fail
        go_ret
        rw [← HW1.out]
        exact ⟨rfl, hbw⟩
      · have HK2 : Hid (∀ p ∈ ps.take (k + 1), p.1 ≠ pred) := Lib.hid (by
          rw [take_snoc' Hp.out]
          intro y hy
          rcases List.mem_append.1 hy with hy | hy
          · exact HK.out y hy
          · rw [List.mem_singleton] at hy; rw [hy]; exact he)
        clear HK
        have he2 : (pp == pred) = false := by simp [he]
        clear he
        go_wp2_with fail
        rw [← HW1.out]
        go_roundw
        case rel => exact ⟨k + 1, by go_num, by omega, hbw, HK2⟩
        case measure => simp [intOf]; omega
    · have hRf : R = false := by
        rw [HR.out]
        have := HK.out
        rw [List.take_of_length_le (by rw [← Hn.out]; omega)] at this
        simp only [decide_eq_false_iff_not]
        exact fun ⟨p, hp, e⟩ => this p hp e
      subst hRf
      go_wp2_with fail
      go_ret
      exact ⟨rfl, hbel⟩
end Mt
end Go.Proofs.Ytkejjiohkhlnnaa

namespace Go.Proofs.Ytkejjiohkhlnnaa
open Go.RowKit
namespace Mt

theorem conds_len (R : RuleV) : (condsL R).length = R.pos.length + R.tests.length + R.neg.length := by
  simp [condsL]
  omega
/-- lists handed out, each with its capacity -/
def ListsC (w : World) (a : Option Addr) (ls : List (List Int)) : Prop :=
  ls = [] ∨ ∃ b off, a = some ⟨b, off, none⟩ ∧ ∀ (i : Nat) l, ls[i]? = some l → ∃ ai ci, w.cell? ⟨b, off + i, none⟩ = some (.slice ai l.length ci) ∧ Ints w ai l ∧ ((ai = none ∧ l = [] ∧ ci = 0) ∨ ∃ g, ai = some ⟨g, 0, none⟩ ∧ l.length ≤ ci ∧ ci ≤ maxLen)
theorem ListsC.lists {w : World} {a : Option Addr} {ls : List (List Int)} (h : ListsC w a ls) : ListsV w a ls := by
  rcases h with h | ⟨b, off, ha, hc⟩
  · exact .inl h
  · refine .inr ⟨b, off, ha, fun i l hl => ?_⟩
    obtain ⟨ai, ci, h1, h2, -⟩ := hc i l hl
    exact ⟨ai, ci, h1, h2⟩
theorem ListsC.below {w w' : World} {B : Nat} {a : Option Addr} {ls : List (List Int)} (h : ListsC w a ls) (hb : Below B w w') (hB : w.heap.size ≤ B) : ListsC w' a ls := by
  rcases h with h | ⟨b, off, ha, hc⟩
  · exact .inl h
  · refine .inr ⟨b, off, ha, fun i l hl => ?_⟩
    obtain ⟨ai, ci, h1, h2, h3⟩ := hc i l hl
    exact ⟨ai, ci, below_cell hb hB h1, Ints.old h2 hb hB, h3⟩
theorem listsC_at {w : World} {a : Option Addr} {ls : List (List Int)} (h : ListsC w a ls) {k : Nat} (hk : k < ls.length) : ∃ b off l ai ci, a = some ⟨b, off, none⟩ ∧ ls[k]? = some l ∧ w.cell? ⟨b, off + k, none⟩ = some (.slice ai l.length ci) ∧ Ints w ai l ∧ ((ai = none ∧ l = [] ∧ ci = 0) ∨ ∃ g, ai = some ⟨g, 0, none⟩ ∧ l.length ≤ ci ∧ ci ≤ maxLen) := by
  rcases h with h | ⟨b, off, ha, hc⟩
  · rw [h] at hk; simp at hk
  · obtain ⟨ai, ci, h1, h2, h3⟩ := hc k _ (List.getElem?_eq_getElem hk)
    exact ⟨b, off, _, ai, ci, ha, List.getElem?_eq_getElem hk, h1, h2, h3⟩
theorem OutV.listsC {ob : Nat} {v : Value} {ls : List (List Int)} {w : World} (O : OutV ob v ls w) : ∃ a c, v = .slice a ls.length c ∧ ListsC w a ls := by
  obtain ⟨hs, h1, h2, h3⟩ := O.row
  rcases owns_form h1 with ⟨rfl, h, _⟩ | ⟨g, cap, rfl, hg, _, hnc, hcm, _, hc, _⟩
  · exact ⟨none, 0, by rw [h], .inl (List.eq_nil_of_length_eq_zero h)⟩
  · refine ⟨_, _, rfl, .inr ⟨g, 0, rfl, fun i l hl => ?_⟩⟩
    obtain ⟨u, a0, b0, d0⟩ := h2 i l hl
    obtain ⟨ai, ci, rfl, hI⟩ := ints_of_row b0
    refine ⟨ai, ci, by rw [Nat.zero_add]; exact hc i _ a0, hI, ?_⟩
    rcases owns_form b0 with ⟨h5, h6, h7⟩ | ⟨g', cap', h5, _, _, hnc', hcm', _, _, _⟩
    · injection h5 with e1 e2 e3
      exact .inl ⟨e1, List.eq_nil_of_length_eq_zero e2, e3⟩
    · injection h5 with e1 e2 e3
      exact .inr ⟨g', e1, by rw [e3]; exact hnc', by rw [e3]; exact hcm'⟩
theorem Ints.take {w : World} {a : Option Addr} {xs : List Int} (h : Ints w a xs) (m : Nat) : Ints w a (xs.take m) := by
  rcases h with h | ⟨b, off, ha, hc⟩
  · exact .inl (by rw [h]; simp)
  · refine .inr ⟨b, off, ha, fun i hi => ?_⟩
    rw [List.getElem_take]
    exact hc i (by rw [List.length_take] at hi; omega)
theorem slot_mono {d n L : Nat} {s : Sl} (h : SlotOk n d s) (hn : n ≤ L) : SlotOk L d s := by
  obtain ⟨h0, h1⟩ := h
  refine ⟨h0, ?_⟩
  split at h1
  · rename_i hs; rw [if_pos hs]; omega
  · rename_i hs; rw [if_neg hs]; exact h1
/-- the slots of conditions are bound behind them -/
theorem cd_slots {d : Nat} : ∀ (c : List Cd) (n L : Nat), CdOk d c n → nextC c n = some L → ∀ q ∈ c, match q with
    | .pos p => ∀ s ∈ p.2, SlotOk L d s
    | .tst t => SlotOk L d t.2.1 ∧ SlotOk L d t.2.2
    | .neg p => ∀ s ∈ p.2, SlotOk L d s
  | [], n, L, _, _, q, hq => by cases hq
  | .pos p :: c, n, L, ho, hn, q, hq => by
    simp only [nextC] at hn
    obtain ⟨k, h1, h2⟩ := Option.bind_eq_some_iff.1 hn
    obtain ⟨k', h3, h4, h5⟩ := ho
    rw [h1] at h3
    cases h3
    rcases List.mem_cons.1 hq with rfl | hq
    · exact fun s hs => slot_mono (h4 s hs) (nextC_mono _ _ _ h2)
    · exact cd_slots c k L h5 h2 q hq
  | .tst t :: c, n, L, ho, hn, q, hq => by
    simp only [nextC] at hn
    rcases List.mem_cons.1 hq with rfl | hq
    · exact ⟨slot_mono ho.1.2.2.1 (nextC_mono _ _ _ hn), slot_mono ho.1.2.2.2 (nextC_mono _ _ _ hn)⟩
    · exact cd_slots c n L ho.2 hn q hq
  | .neg p :: c, n, L, ho, hn, q, hq => by
    simp only [nextC] at hn
    rcases List.mem_cons.1 hq with rfl | hq
    · exact fun s hs => slot_mono (ho.1.2.2 s hs) (nextC_mono _ _ _ hn)
    · exact cd_slots c n L ho.2 hn q hq
theorem cd_take {rows : List Row} {cs : List C3} {d n L : Nat} {c : List Cd} (ho : CdOk d c n) (hn : nextC c n = some L) (x : List Int) {q : Cd} (hq : q ∈ c) : CdSat rows cs (x.take L) q ↔ CdSat rows cs x q := by
  have h := cd_slots c n L ho hn q hq
  cases q with
  | pos p => show (p.1, argsL p.2 (x.take L)) ∈ rows ↔ (p.1, argsL p.2 x) ∈ rows; rw [args_take x h]
  | tst t => show (holdsR cs t.1 (putL t.2.1 (x.take L)) (putL t.2.2 (x.take L))).1 = true ↔ (holdsR cs t.1 (putL t.2.1 x) (putL t.2.2 x)).1 = true; rw [put_take x h.1, put_take x h.2]
  | neg p => show (p.1, argsL p.2 (x.take L)) ∉ rows ↔ (p.1, argsL p.2 x) ∉ rows; rw [args_take x h]
theorem wid_mono {R : RuleV} {d : Nat} (ok : RuleOk R d) {j k : Nat} (hk : j ≤ k) : wid R j ≤ wid R k := by
  have h := (wid_is ok k).1
  have e : (condsL R).take k = (condsL R).take j ++ ((condsL R).take k).drop j := by
    have := List.take_append_drop j ((condsL R).take k)
    rw [List.take_take, Nat.min_eq_left hk] at this
    exact this.symm
  rw [e] at h
  obtain ⟨n, h1, h2⟩ := nextC_split _ _ _ _ h
  rw [(wid_is ok j).1] at h1
  cases h1
  exact nextC_mono _ _ _ h2
theorem wid_late {R : RuleV} {d : Nat} (ok : RuleOk R d) {k : Nat} (hk : R.pos.length ≤ k) : wid R k = R.nv := by
  have h := (wid_is ok k).1
  have e : (condsL R).take k = R.pos.map Cd.pos ++ (R.tests.map Cd.tst ++ R.neg.map Cd.neg).take (k - R.pos.length) := by
    unfold condsL
    rw [List.append_assoc, List.take_append, List.length_map, List.take_of_length_le (by simpa using hk)]
  rw [e, nextC_app _ _ 0 R.nv (by rw [nextC_pos]; exact ok.next)] at h
  rw [nextC_rest] at h
  · exact (Option.some.inj h).symm
  · intro c hc p
    have hc := List.mem_of_mem_take hc
    rcases List.mem_append.1 hc with hc | hc
    · obtain ⟨t, -, rfl⟩ := List.mem_map.1 hc; simp
    · obtain ⟨t, -, rfl⟩ := List.mem_map.1 hc; simp
theorem sat_less {rows : List Row} {cs : List C3} {R : RuleV} (ok : RuleOk R cs.length) {j k : Nat} (hk : j ≤ k) {x : List Int} (h : Sat rows cs R k x) : Sat rows cs R j (x.take (wid R j)) := by
  obtain ⟨h1, h2, h3⟩ := h
  have hm := wid_mono ok hk
  refine ⟨by rw [List.length_take]; omega, ids_take h2, fun q hq => (cd_take (conds_ok ok j) (wid_is ok j).1 x hq).2 (h3 q ?_)⟩
  have e : (condsL R).take j = ((condsL R).take k).take j := by rw [List.take_take, Nat.min_eq_left hk]
  rw [e] at hq
  exact List.mem_of_mem_take hq
theorem nodup_le {α : Type} [DecidableEq α] {a b : List α} (ha : a.Nodup) (hb : b.Nodup) (h : ∀ x ∈ a, x ∈ b) : a.length ≤ b.length := by
  have hp : a.Perm (b.filter (fun x => decide (x ∈ a))) := (List.perm_ext_iff_of_nodup ha (hb.filter _)).2 fun x => by
    rw [List.mem_filter]
    simp only [decide_eq_true_eq]
    exact ⟨fun hx => ⟨h x hx, hx⟩, fun hx => hx.2⟩
  rw [hp.length_eq]
  exact List.length_filter_le _ _
theorem grows_plain {rows : List Row} {cs : List C3} {R : RuleV} (hr : ∀ r ∈ rows, IdsIn cs.length r.2) (hd : rows.Nodup) (ok : RuleOk R cs.length) (k : Nat) :
    (∀ x ∈ pre rows cs R (k + 1), wid R k ≤ x.length ∧ x.take (wid R k) ∈ pre rows cs R k ∧ IdsIn cs.length x ∧ x.length = wid R (k + 1)) ∧ (∀ y ∈ pre rows cs R k, y.length = wid R k) ∧
    (∀ p, R.pos[k]? = some p → (∀ x ∈ pre rows cs R (k + 1), (p.1, argsL p.2 x) ∈ rows) ∧ ∀ s ∈ p.2, SlotOk (wid R (k + 1)) cs.length s) ∧ (R.pos.length ≤ k → (pre rows cs R (k + 1)).length ≤ (pre rows cs R k).length) := by
  have m1 : ∀ x ∈ pre rows cs R (k + 1), wid R k ≤ x.length ∧ x.take (wid R k) ∈ pre rows cs R k ∧ IdsIn cs.length x ∧ x.length = wid R (k + 1) := fun x hx => by
    have h := (pre_iff hr ok (k + 1) x).1 hx
    exact ⟨by rw [h.1]; exact wid_mono ok (Nat.le_succ k), (pre_iff hr ok k _).2 (sat_less ok (Nat.le_succ k) h), h.2.1, h.1⟩
  refine ⟨m1, fun y hy => ((pre_iff hr ok k y).1 hy).1, fun p hp => ?_, fun hk => ?_⟩
  · have hc : Cd.pos p ∈ (condsL R).take (k + 1) := by
      rw [List.mem_iff_getElem?]
      refine ⟨k, ?_⟩
      rw [List.getElem?_take, if_pos (Nat.lt_succ_self k)]
      unfold condsL
      have hlt := (List.getElem?_eq_some_iff.1 hp).1
      rw [List.append_assoc, List.getElem?_append_left (by simpa using hlt), List.getElem?_map, hp]
      rfl
    exact ⟨fun x hx => ((pre_iff hr ok (k + 1) x).1 hx).2.2 _ hc, cd_slots _ _ _ (conds_ok ok (k + 1)) (wid_is ok (k + 1)).1 _ hc⟩
  · refine nodup_le (pre_nodup hr hd ok _) (pre_nodup hr hd ok _) fun x hx => ?_
    obtain ⟨a, b, c, e⟩ := m1 x hx
    have h1 := wid_late ok hk
    have h2 := wid_late ok (k := k + 1) (by omega)
    rwa [List.take_of_length_le (by omega)] at b
theorem pre_zero {rows : List Row} {cs : List C3} {R : RuleV} : pre rows cs R 0 = [[]] := by
  unfold pre
  rw [srtL_small]
  · simp [resL]
  · simp [resL]
end Mt
end Go.Proofs.Ytkejjiohkhlnnaa

namespace Go.Proofs.Ytkejjiohkhlnnaa
open Go.RowKit
namespace Mt

/-- the number that some digits tell -/
def valD (d : Nat) (t : List Nat) : Nat := t.foldl (fun a x => a * d + x) 0
def decD (d : Nat) : Nat → Nat → List Nat
  | 0, _ => []
  | v + 1, k => (k / d ^ v) :: decD d v (k % d ^ v)
theorem valD_from (d : Nat) : ∀ (t : List Nat) (a : Nat), t.foldl (fun a x => a * d + x) a = a * d ^ t.length + valD d t
  | [], a => by simp [valD]
  | x :: t, a => by
    unfold valD
    simp only [List.foldl_cons, List.length_cons]
    rw [valD_from d t (a * d + x), valD_from d t (0 * d + x), Nat.zero_mul, Nat.zero_add, Nat.add_mul, Nat.mul_assoc, Nat.pow_succ, Nat.mul_comm (d ^ t.length) d]
    omega
theorem valD_cons (d x : Nat) (t : List Nat) : valD d (x :: t) = x * d ^ t.length + valD d t := by
  have := valD_from d t (0 * d + x)
  unfold valD at this ⊢
  simpa using this
theorem valD_app (d : Nat) (a b : List Nat) : valD d (a ++ b) = valD d a * d ^ b.length + valD d b := by
  unfold valD
  rw [List.foldl_append, valD_from]
  rfl
theorem valD_lt {d : Nat} : ∀ {t : List Nat}, (∀ x ∈ t, x < d) → valD d t < d ^ t.length
  | [], _ => by simp [valD]
  | x :: t, h => by
    have h1 := valD_lt (t := t) (fun y hy => h y (List.mem_cons_of_mem _ hy))
    have h2 := h x (List.mem_cons_self ..)
    rw [valD_cons, List.length_cons, Nat.pow_succ, Nat.mul_comm (d ^ t.length) d]
    have h3 : (x + 1) * d ^ t.length ≤ d * d ^ t.length := Nat.mul_le_mul_right _ h2
    rw [Nat.add_mul, Nat.one_mul] at h3
    omega
theorem dec_val {d : Nat} : ∀ {t : List Nat}, (∀ x ∈ t, x < d) → decD d t.length (valD d t) = t
  | [], _ => rfl
  | x :: t, h => by
    have h1 := valD_lt (t := t) (fun y hy => h y (List.mem_cons_of_mem _ hy))
    have hp : 0 < d ^ t.length := by omega
    rw [valD_cons, List.length_cons]
    simp only [decD]
    rw [Nat.mul_comm x, Nat.mul_add_div hp, Nat.div_eq_of_lt h1, Nat.mul_add_mod, Nat.mod_eq_of_lt h1, Nat.add_zero, dec_val (t := t) (fun y hy => h y (List.mem_cons_of_mem _ hy))]
theorem dec_len (d : Nat) : ∀ v k, (decD d v k).length = v
  | 0, k => rfl
  | v + 1, k => by simp only [decD, List.length_cons, dec_len d v]
theorem dec_lt {d : Nat} (hd : 1 ≤ d) : ∀ v k, k < d ^ v → ∀ x ∈ decD d v k, x < d
  | 0, k, _, x, hx => by cases hx
  | v + 1, k, hk, x, hx => by
    have hp : 0 < d ^ v := Nat.pow_pos hd
    simp only [decD] at hx
    rcases List.mem_cons.1 hx with rfl | hx
    · rw [Nat.pow_succ, Nat.mul_comm] at hk
      exact Nat.div_lt_of_lt_mul (by rwa [Nat.mul_comm] at hk)
    · exact dec_lt hd v _ (Nat.mod_lt _ hp) x hx
theorem val_zeros (d s : Nat) : valD d (List.replicate s 0) = 0 := by
  induction s with
  | zero => rfl
  | succ s ih => rw [List.replicate_succ, valD_cons, ih]; simp
theorem val_full {d : Nat} (hd : 1 ≤ d) (s : Nat) : valD d (List.replicate s (d - 1)) + 1 = d ^ s := by
  induction s with
  | zero => rfl
  | succ s ih =>
    rw [List.replicate_succ, valD_cons, List.length_replicate, Nat.pow_succ]
    have h : (d - 1) * d ^ s + d ^ s = d ^ s * d := by
      have : (d - 1) * d ^ s + 1 * d ^ s = (d - 1 + 1) * d ^ s := by rw [Nat.add_mul]
      rw [Nat.one_mul] at this
      rw [this, Nat.sub_add_cancel hd, Nat.mul_comm]
    omega
theorem val_succ {d : Nat} (hd : 1 ≤ d) (A : List Nat) (a s : Nat) : valD d (A ++ (a + 1) :: List.replicate s 0) = valD d (A ++ a :: List.replicate s (d - 1)) + 1 := by
  have h := val_full hd s
  rw [valD_app, valD_app, valD_cons, valD_cons, val_zeros]
  simp only [List.length_cons, List.length_replicate]
  rw [Nat.add_mul]
  omega
/-- the substitution that digits tell -/
def subD (order : List Int) (t : List Nat) : List Int := t.map fun x => order.getD x 0
def allE (order : List Int) (sat : List Int → Bool) (d v k : Nat) : List (List Int) := ((List.range k).map fun j => subD order (decD d v j)).filter sat
theorem allE_zero (order : List Int) (sat : List Int → Bool) (d v : Nat) : allE order sat d v 0 = [] := rfl
theorem allE_succ {order : List Int} {sat : List Int → Bool} {d : Nat} {t : List Nat} (ht : ∀ x ∈ t, x < d) : allE order sat d t.length (valD d t + 1) = if sat (subD order t) then allE order sat d t.length (valD d t) ++ [subD order t] else allE order sat d t.length (valD d t) := by
  unfold allE
  rw [List.range_succ, List.map_append, List.filter_append, List.map_cons, List.map_nil, dec_val ht]
  cases hs : sat (subD order t) <;> simp [hs]
/-- the ids in their constants' order -/
structure Ordered (cs : List C3) (order : List Int) : Prop where
  len : order.length = cs.length
  ids : IdsIn cs.length order
  all : ∀ x : Int, 0 ≤ x → x < cs.length → x ∈ order
  ord : order.Pairwise (fun x y => cmpK cs x y = -1)
theorem sub_ids {cs : List C3} {order : List Int} (ho : Ordered cs order) {t : List Nat} (ht : ∀ x ∈ t, x < cs.length) : IdsIn cs.length (subD order t) := fun x hx => by
  obtain ⟨k, hk, rfl⟩ := List.mem_map.1 hx
  have := ht k hk
  have hl := ho.len
  rw [List.getD_eq_getElem?_getD, List.getElem?_eq_getElem (by omega)]
  exact ho.ids _ (List.getElem_mem _)
theorem sub_less {cs : List C3} {order : List Int} (ho : Ordered cs order) (hd : 1 ≤ cs.length) : ∀ (v i j : Nat), i < j → j < cs.length ^ v → lexC cs v (subD order (decD cs.length v i)) (subD order (decD cs.length v j)) = -1
  | 0, i, j, h, hj => by simp at hj; omega
  | v + 1, i, j, h, hj => by
    have hp : 0 < cs.length ^ v := Nat.pow_pos hd
    have hl := ho.len
    simp only [decD, subD, List.map_cons]
    rw [lexC_cons]
    have hq : i / cs.length ^ v ≤ j / cs.length ^ v := Nat.div_le_div_right (Nat.le_of_lt h)
    have hjd : j / cs.length ^ v < cs.length := by
      rw [Nat.pow_succ] at hj
      exact Nat.div_lt_of_lt_mul hj
    rcases Nat.lt_or_eq_of_le hq with hq | hq
    · have hc : cmpK cs (order.getD (i / cs.length ^ v) 0) (order.getD (j / cs.length ^ v) 0) = -1 := by
        rw [List.getD_eq_getElem?_getD, List.getD_eq_getElem?_getD, List.getElem?_eq_getElem (by omega), List.getElem?_eq_getElem (by omega)]
        exact List.pairwise_iff_getElem.1 ho.ord _ _ _ _ hq
      rw [hc]
      simp
    · have hc : cmpK cs (order.getD (i / cs.length ^ v) 0) (order.getD (j / cs.length ^ v) 0) = 0 := by
        rw [hq]
        have := (three_K cs).anti (order.getD (j / cs.length ^ v) 0) (order.getD (j / cs.length ^ v) 0)
        omega
      rw [hc]
      simp only [ne_eq, not_true_eq_false, if_false]
      refine sub_less ho hd v _ _ ?_ (Nat.mod_lt _ hp)
      have e1 := Nat.div_add_mod i (cs.length ^ v)
      have e2 := Nat.div_add_mod j (cs.length ^ v)
      rw [hq] at e1
      omega
/-- of a full substitution the digits -/
theorem sub_digits {cs : List C3} {order : List Int} (ho : Ordered cs order) : ∀ {x : List Int}, IdsIn cs.length x → ∃ t : List Nat, t.length = x.length ∧ (∀ y ∈ t, y < cs.length) ∧ subD order t = x
  | [], _ => ⟨[], rfl, (fun y hy => nomatch hy), rfl⟩
  | a :: x, h => by
    obtain ⟨t, h1, h2, h3⟩ := sub_digits ho (x := x) (fun y hy => h y (List.mem_cons_of_mem _ hy))
    obtain ⟨ha1, ha2⟩ := h a (List.mem_cons_self ..)
    obtain ⟨k, hk⟩ := List.mem_iff_getElem?.1 (ho.all a ha1 ha2)
    have hl := (List.getElem?_eq_some_iff.1 hk).1
    have hlo := ho.len
    refine ⟨k :: t, by simp [h1], fun y hy => ?_, ?_⟩
    · rcases List.mem_cons.1 hy with rfl | hy
      · omega
      · exact h2 y hy
    · simp only [subD, List.map_cons] at h3 ⊢
      rw [h3, List.getD_eq_getElem?_getD, hk]
      rfl
theorem all_mem {cs : List C3} {order : List Int} {sat : List Int → Bool} (ho : Ordered cs order) (hd : 1 ≤ cs.length) (v : Nat) (x : List Int) : x ∈ allE order sat cs.length v (cs.length ^ v) ↔ x.length = v ∧ IdsIn cs.length x ∧ sat x = true := by
  unfold allE
  rw [List.mem_filter, List.mem_map]
  constructor
  · rintro ⟨⟨j, hj, rfl⟩, hs⟩
    exact ⟨by simp [subD, dec_len], sub_ids ho (dec_lt hd v j (List.mem_range.1 hj)), hs⟩
  · rintro ⟨h1, h2, h3⟩
    obtain ⟨t, t1, t2, t3⟩ := sub_digits ho h2
    have hv : t.length = v := by omega
    subst hv
    exact ⟨⟨valD cs.length t, List.mem_range.2 (valD_lt t2), by rw [dec_val t2]; exact t3⟩, h3⟩
open Classical in
noncomputable def satB (rows : List Row) (cs : List C3) (R : RuleV) (x : List Int) : Bool := decide (∀ q ∈ condsL R, CdSat rows cs x q)
theorem every_plain {rows : List Row} {cs : List C3} {R : RuleV} {order : List Int} (hr : ∀ r ∈ rows, IdsIn cs.length r.2) (hn : rows.Nodup) (ok : RuleOk R cs.length) (hc : cs.Nodup) (ho : Ordered cs order) (hd : 1 ≤ cs.length) :
    pre rows cs R (condsL R).length = allE order (satB rows cs R) cs.length R.nv (cs.length ^ R.nv) := by
  have hw : wid R (condsL R).length = R.nv := wid_all ok (Nat.le_refl _)
  have hp : (allE order (satB rows cs R) cs.length R.nv (cs.length ^ R.nv)).Pairwise (fun x y => lexC cs R.nv x y = -1) := by
    unfold allE
    refine List.Pairwise.filter _ ?_
    rw [List.pairwise_map]
    have hr : (List.range (cs.length ^ R.nv)).Pairwise (· < ·) := List.pairwise_lt_range
    refine List.Pairwise.imp_of_mem ?_ hr
    intro i j hi hj h
    exact sub_less ho hd R.nv i j h (List.mem_range.1 hj)
  refine pre_is hr hn ok hc _ _ (fun x => ?_) ?_ ?_
  · rw [all_mem ho hd]
    unfold Sat satB
    rw [hw, List.take_length]
    simp only [decide_eq_true_eq]
  · refine hp.imp fun {x y} h e => ?_
    subst e
    have := (three_lex cs R.nv).anti x x
    omega
  · rw [hw]
    refine hp.imp fun {x y} h => ?_
    unfold leC
    rw [h]
    rfl
/-- a test's answer, by the order of the constants -/
theorem holds_st {cs : List C3} (cok : ConstsOk cs) {op x y : Int} (ho : 1 ≤ op ∧ op ≤ 6) (hx : 0 ≤ x ∧ x < cs.length) (hy : 0 ≤ y ∧ y < cs.length) : (holdsR cs op x y).1 = Sym.cmpOp op (cmpK cs x y) := by
  obtain ⟨n, rfl⟩ := Int.eq_ofNat_of_zero_le hx.1
  obtain ⟨m, rfl⟩ := Int.eq_ofNat_of_zero_le hy.1
  have hn : n < cs.length := by omega
  have hm : m < cs.length := by omega
  rw [holdsR_in (by omega) (by omega) (List.getElem?_eq_getElem hn) (List.getElem?_eq_getElem hm)]
  have v1 := cok.valid _ (List.getElem_mem hn)
  have v2 := cok.valid _ (List.getElem_mem hm)
  have e : cmpK cs (n : Int) (m : Int) = Sym.cmpC cs[n].1 cs[n].2.1 cs[n].2.2.data.toList cs[m].1 cs[m].2.1 cs[m].2.2.data.toList := by
    unfold cmpK cD
    simp only [Int.toNat_natCast, List.getElem?_eq_getElem hn, List.getElem?_eq_getElem hm, Option.getD_some, ByteArray.toList_eq]
  rw [Sym.compareR_ok (by omega) v1 v2 e.symm]
end Mt
end Go.Proofs.Ytkejjiohkhlnnaa

namespace Go.Proofs.Ytkejjiohkhlnnaa
open Go.RowKit
namespace Mt
open Sq (Oth)

set_option maxHeartbeats 4000000 in
set_option maxRecDepth 8000 in
theorem stands_any (op : Int) (a b : C3) (w : World) (ho : 1 ≤ op ∧ op ≤ 6) (c : Int) (hc : c = Sym.cmpC a.1 a.2.1 a.2.2.toList b.1 b.2.1 b.2.2.toList) :
    Calls Try.prog 69 #[.int .i64 op, .agg #[.int .i64 a.1, .int .i64 a.2.1, .string a.2.2], .agg #[.int .i64 b.1, .int .i64 b.2.1, .string b.2.2]] w fun e w' => e = .returned (.bool (Sym.cmpOp op c)) ∧ Below w.heap.size w w' := by
  obtain ⟨k1, i1, s1⟩ := a
  obtain ⟨k2, i2, s2⟩ := b
  simp only at hc ⊢
  have cC := fun W => Lib.hid (Sym.compare_any k1 i1 s1 k2 i2 s2 W)
  rw [← hc] at cC
  have hr := hc ▸ Sym.cmpC_range k1 i1 s1.toList k2 i2 s2.toList
  obtain ⟨W0, hW0⟩ : ∃ V, V = (w.alloc (.cells #[.int .i64 k1, .int .i64 i1, .string s1] 65)).alloc (.cells #[.int .i64 k2, .int .i64 i2, .string s2] 65) := ⟨_, rfl⟩
  have hb0 : Below w.heap.size w W0 := by rw [hW0]; exact ((Below.refl _ _).alloc (Nat.le_refl _) _).alloc (by simp) _
  obtain ⟨b4, hb4⟩ : ∃ b, b = w.heap.size := ⟨_, rfl⟩
  obtain ⟨b5, hb5⟩ : ∃ b, b = w.heap.size + 1 := ⟨_, rfl⟩
  have y0 : W0.cell? ⟨b4, 0, none⟩ = some (.int .i64 k1) := by rw [hW0, hb4]; simp
  have y1 : W0.cell? ⟨b4, 1, none⟩ = some (.int .i64 i1) := by rw [hW0, hb4]; simp
  have y2 : W0.cell? ⟨b4, 2, none⟩ = some (.string s1) := by rw [hW0, hb4]; simp
  have z0 : W0.cell? ⟨b5, 0, none⟩ = some (.int .i64 k2) := by rw [hW0, hb5]; simp
  have z1 : W0.cell? ⟨b5, 1, none⟩ = some (.int .i64 i2) := by rw [hW0, hb5]; simp
  have z2 : W0.cell? ⟨b5, 2, none⟩ = some (.string s2) := by rw [hW0, hb5]; simp
  have HW0 := Lib.hid hW0
  have Hb4 := Lib.hid hb4
  have Hb5 := Lib.hid hb5
  clear hW0 hb4 hb5 hc
  go_enter Try.func69, Try.ntmps69
  go_upto_region 1 with fail
  rw [← HW0.out, ← Hb5.out, ← Hb4.out]
  go_upto_region 2 with (first | (go_at_call 28; (with_reducible refine (cC _).out.mono ?_); rintro e V1 ⟨rfl, hV1⟩))
  have hbV : Below w.heap.size w V1 := below_chain hb0 hV1
  clear y0 y1 y2 z0 z1 z2 hV1 cC
  have hop : op = 1 ∨ op = 2 ∨ op = 3 ∨ op = 4 ∨ op = 5 ∨ op = 6 := by omega
  rcases hop with rfl | rfl | rfl | rfl | rfl | rfl <;>
  · go_wp2_with fail
    go_ret
    refine ⟨?_, hbV⟩
    rcases hr with rfl | rfl | rfl <;> rfl
set_option linter.unusedSimpArgs false in
set_option maxHeartbeats 16000000 in
set_option maxRecDepth 100000 in
theorem satisfies_any {n0 n1 m sb B : Nat} (T : WorldV) (rows : List Row) (x : List Int) (xa : Option Addr) (xc : Nat) (w : World) (hS : StoreL n0 n1 m T.ar rows sb w) (hT : TameW B w T) (hx : Ints w xa x) (hl : x.length = T.R.nv) (hi : IdsIn T.cs.length x) (R : Bool) (hR : R = satB rows T.cs T.R x) :
    Calls Try.prog 43 #[.pointer (some ⟨sb, 0, none⟩), .agg T.cells, .slice xa x.length xc] w fun e w' => e = .returned (.bool R) ∧ Below w.heap.size w w' := by
  obtain ⟨W0, hW0⟩ : ∃ V, V = w.alloc (.cells T.cells 34) := ⟨_, rfl⟩
  obtain ⟨b4, hb4⟩ : ∃ b, b = w.heap.size := ⟨_, rfl⟩
  have hb0 : Below w.heap.size w W0 := by rw [hW0]; exact (Below.refl _ _).alloc (Nat.le_refl _) _
  have hq4 : W0.heap[b4]? = some (.cells T.cells 34 (0, 0)) := by rw [hW0, hb4]; exact World.alloc_heap_new w _
  have hv16 : x.length ≤ 16 := by have := hT.ruleOk.vars; omega
  -- a row of a pattern, and whether the store has it
  have cR := fun (p : Pat) (pa : Option Addr) (pc : Nat) (hp : p ∈ T.R.pos ∨ p ∈ T.R.neg) W (hW : Below w.heap.size w W) (hSl : Slots W pa p.2) => Lib.hid (rowOf_any (d := T.cs.length) (L := T.R.nv) p pa xa pc xc x W hSl (by rcases hp with h | h; exact (hT.ruleOk.pos p h).2.2; exact (hT.ruleOk.neg p h).2.2) (by omega) hi (hx.below hW) (by rcases hp with h | h; exact (hT.ruleOk.pos p h).2.1; exact (hT.ruleOk.neg p h).2.1))
  have cH := fun (p : Pat) (hp : p ∈ T.R.pos ∨ p ∈ T.R.neg) (b : Bool) (hb : b = true ↔ (p.1, argsL p.2 x) ∈ rows) V (hV : Below w.heap.size w V) (N : Nat) a c (hI : IntsZ (fun j => N ≤ j) V a c (argsL p.2 x)) => Lib.hid (has_L hS hV p.1 a c (argsL p.2 x) hI (by rcases hp with h | h; exact hT.rng.1 p h; exact hT.rng.2 p h) (fun v hv => by
    obtain ⟨s, hs, rfl⟩ := List.mem_map.1 hv
    have := put_in (d := T.cs.length) (L := T.R.nv) (x := x) (by rcases hp with h | h; exact (hT.ruleOk.pos p h).2.2 s hs; exact (hT.ruleOk.neg p h).2.2 s hs) (by omega) hi
    have := hT.conOk.2.2
    unfold Rng
    omega) (by unfold argsL; rw [List.length_map]; have : p.2.length ≤ 8 := (by rcases hp with h | h; exact (hT.ruleOk.pos p h).2.1; exact (hT.ruleOk.neg p h).2.1); omega) b hb)
  have cP := fun (s : Sl) (hs : SlotOk T.R.nv T.cs.length s) W (hW : Below w.heap.size w W) => Lib.hid (put_any (d := T.cs.length) (L := T.R.nv) s xa xc x W hs (by omega) (hx.below hW))
  have HcR := Lib.hid cR
  have HcH := Lib.hid cH
  have HcP := Lib.hid cP
  have HT := Lib.hid hT
  have HI := Lib.hid hi
  have HL := Lib.hid hl
  have HR : Hid ((R = true → (∀ p ∈ T.R.pos, (p.1, argsL p.2 x) ∈ rows) ∧ (∀ t ∈ T.R.tests, CdSat rows T.cs x (.tst t)) ∧ ∀ p ∈ T.R.neg, (p.1, argsL p.2 x) ∉ rows) ∧ ((∀ p ∈ T.R.pos, (p.1, argsL p.2 x) ∈ rows) ∧ (∀ t ∈ T.R.tests, CdSat rows T.cs x (.tst t)) ∧ (∀ p ∈ T.R.neg, (p.1, argsL p.2 x) ∉ rows) → R = true)) := Lib.hid (by
    rw [hR]
    unfold satB
    simp only [decide_eq_true_eq]
    have hc : ∀ q, q ∈ condsL T.R ↔ (∃ p ∈ T.R.pos, q = .pos p) ∨ (∃ t ∈ T.R.tests, q = .tst t) ∨ ∃ p ∈ T.R.neg, q = .neg p := fun q => by
      unfold condsL
      simp only [List.mem_append, List.mem_map]
      constructor
      · rintro ((⟨p, h, rfl⟩ | ⟨p, h, rfl⟩) | ⟨p, h, rfl⟩)
        · exact .inl ⟨p, h, rfl⟩
        · exact .inr (.inl ⟨p, h, rfl⟩)
        · exact .inr (.inr ⟨p, h, rfl⟩)
      · rintro (⟨p, h, rfl⟩ | ⟨p, h, rfl⟩ | ⟨p, h, rfl⟩)
        · exact .inl (.inl ⟨p, h, rfl⟩)
        · exact .inl (.inr ⟨p, h, rfl⟩)
        · exact .inr ⟨p, h, rfl⟩
    refine ⟨fun h => ⟨fun p hp => h _ ((hc _).2 (.inl ⟨p, hp, rfl⟩)), fun t ht => h _ ((hc _).2 (.inr (.inl ⟨t, ht, rfl⟩))), fun p hp => h _ ((hc _).2 (.inr (.inr ⟨p, hp, rfl⟩)))⟩, fun ⟨h1, h2, h3⟩ q hq => ?_⟩
    rcases (hc q).1 hq with ⟨p, hp, rfl⟩ | ⟨t, ht, rfl⟩ | ⟨p, hp, rfl⟩
    · exact h1 p hp
    · exact h2 t ht
    · exact h3 p hp)
  obtain ⟨⟨y0, y1, y2⟩, ⟨y3, y4, y5, y6, y7, y8, y9⟩, y10⟩ := world_cells hq4
  have HW0 : Hid (W0 = w.alloc (.cells #[.slice T.aa T.ar.length T.ac, .slice T.ra T.rows.length T.rc, .slice T.ca T.cs.length T.cc, .int .i64 T.R.hp, .slice T.R.ha T.R.hn T.R.hc, .slice T.R.pa T.R.pos.length T.R.pc, .slice T.R.ta T.R.tests.length T.R.tc, .slice T.R.na T.R.neg.length T.R.nc, .slice T.R.va T.R.nv T.R.vc, .int .i64 T.R.cl, .int .i64 T.K] 34)) := Lib.hid hW0
  have Hb4 := Lib.hid hb4
  have Hb0 := Lib.hid hb0
  obtain ⟨PL, hPL⟩ : ∃ n, n = T.R.pos.length := ⟨_, rfl⟩
  obtain ⟨TL, hTL⟩ : ∃ n, n = T.R.tests.length := ⟨_, rfl⟩
  obtain ⟨GL, hGL⟩ : ∃ n, n = T.R.neg.length := ⟨_, rfl⟩
  obtain ⟨CN, hCN⟩ : ∃ n, n = T.cs.length := ⟨_, rfl⟩
  obtain ⟨xl, hxl⟩ : ∃ n, n = x.length := ⟨_, rfl⟩
  have hPL4 : PL ≤ 4 := by rw [hPL]; exact hT.lens.1
  have hTL3 : TL ≤ 3 := by rw [hTL]; exact hT.lens.2.1
  have hGL3 : GL ≤ 3 := by rw [hGL]; exact hT.lens.2.2
  have hCN5 : CN ≤ 5 := by rw [hCN]; exact hT.conOk.2.2
  obtain ⟨PA, hPA⟩ : ∃ n, n = T.R.pa := ⟨_, rfl⟩
  obtain ⟨TA, hTA⟩ : ∃ n, n = T.R.ta := ⟨_, rfl⟩
  obtain ⟨NA, hNA⟩ : ∃ n, n = T.R.na := ⟨_, rfl⟩
  obtain ⟨CA, hCA⟩ : ∃ n, n = T.ca := ⟨_, rfl⟩
  rw [← hPA] at y5 HW0
  rw [← hTA] at y6 HW0
  rw [← hNA] at y7 HW0
  rw [← hCA] at y2 HW0
  rw [← hPL] at y5 HW0
  rw [← hTL] at y6 HW0
  rw [← hGL] at y7 HW0
  rw [← hCN] at y2 HW0
  simp only [WorldV.cells]
  rw [← hPL, ← hTL, ← hGL, ← hCN, ← hxl, ← hPA, ← hTA, ← hNA, ← hCA]
  have HPA := Lib.hid hPA
  have HTA := Lib.hid hTA
  have HNA := Lib.hid hNA
  have HCA := Lib.hid hCA
  clear hPA hTA hNA hCA
  have HPL := Lib.hid hPL
  have HTL := Lib.hid hTL
  have HGL := Lib.hid hGL
  have HCN := Lib.hid hCN
  have HXL := Lib.hid hxl
  have HY2 := Lib.hid y2
  have HY6 := Lib.hid y6
  have HY7 := Lib.hid y7
  clear hW0 hb4 hb0 hq4 hR hPL hTL hGL hCN hxl hT hx hl hi cR cH cP hv16 hS y0 y1 y3 y4 y8 y9 y10 y2 y6 y7
  go_enter Try.func43, Try.ntmps43
  go_upto_region 1 with fail
  rw [← HW0.out, ← Hb4.out]
  have y5a := y5
  go_upto_block 0 with fail
  clear y5
  -- each way out of a loop with the answer no is taken where R = false
  go_cut [] (fun w' => Hid (Below W0.heap.size W0 w') ∧ Hid (∀ p ∈ T.R.pos, (p.1, argsL p.2 x) ∈ rows))
  case first =>
    have y5 := y5a
    go_wp2_with fail
    clear y5
    go_loopw [17] (fun t w' => ∃ (k : Nat), t = .int .i64 k ∧ k ≤ PL ∧ Hid (Below W0.heap.size W0 w') ∧ Hid (∀ p ∈ T.R.pos.take k, (p.1, argsL p.2 x) ∈ rows)) (fun t _ => PL - (intOf t).toNat)
    case atStart => exact ⟨0, rfl, Nat.zero_le _, Lib.hid (Below.refl _ _), Lib.hid (fun p hp => by simp at hp)⟩
    case round =>
      obtain ⟨k, rfl, hkP, HBr, HK⟩ := hrel
      by_cases hlt : k < PL
      · obtain ⟨bp, op, hpa, hc⟩ : ∃ b off, PA = some ⟨b, off, none⟩ ∧ ∀ (i : Nat) (p : Pat), T.R.pos[i]? = some p → w.cell? ⟨b, off + i * 2, none⟩ = some (.int .i64 p.1) ∧ ∃ sa sc, w.cell? ⟨b, off + i * 2 + 1, none⟩ = some (.slice sa p.2.length sc) ∧ Slots w sa p.2 := by
          rw [HPA.out]
          rcases HT.out.rule.pos with h | h
          · have := HPL.out; rw [h] at this; simp at this; omega
          · exact h
        subst hpa
        obtain ⟨p, hp⟩ : ∃ p, p = T.R.pos[k]'(by rw [← HPL.out]; exact hlt) := ⟨_, rfl⟩
        have Hp : Hid (T.R.pos[k]? = some p) := Lib.hid (by rw [hp]; exact List.getElem?_eq_getElem _)
        obtain ⟨c0, pa, pc, c1, hSl⟩ := hc k p Hp.out
        have hmem := List.mem_of_getElem? Hp.out
        have hbw : Below w.heap.size w wr := below_chain Hb0.out HBr.out
        have c0 := below_cell hbw (Nat.le_refl _) c0
        have c1 := below_cell hbw (Nat.le_refl _) c1
        obtain ⟨W1, hW1⟩ : ∃ V, V = wr.alloc (.cells #[.int .i64 p.1, .slice pa p.2.length pc] 27) := ⟨_, rfl⟩
        have hbw1 : Below wr.heap.size wr W1 := by rw [hW1]; exact (Below.refl _ _).alloc (Nat.le_refl _) _
        have cR1 := HcR.out p pa pc (.inl hmem) W1 (below_chain hbw hbw1) (hSl.below (below_chain hbw hbw1) (Nat.le_refl _))
        rw [← HXL.out] at cR1
        have HW1 := Lib.hid hW1
        have HBw1 : Hid (Below w.heap.size w W1) := Lib.hid (below_chain hbw hbw1)
        have HBr1 : Hid (Below W0.heap.size W0 W1) := Lib.hid (below_chain HBr.out hbw1)
        have r0 : W1.cell? ⟨wr.heap.size, 0, none⟩ = some (.int .i64 p.1) := by rw [hW1]; simp
        have r1 : W1.cell? ⟨wr.heap.size, 1, none⟩ = some (.slice pa p.2.length pc) := by rw [hW1]; simp
        obtain ⟨bh, hbh⟩ : ∃ b, b = @decide ((p.1, argsL p.2 x) ∈ rows) (Classical.propDecidable _) := ⟨_, rfl⟩
        have cH1 := fun V hV N a c hI => HcH.out p (.inl hmem) bh (by rw [hbh]; simp) V hV N a c hI
        have Hbh := Lib.hid hbh
        have HcH1 := Lib.hid cH1
        obtain ⟨pp, sl⟩ := p
        simp only at c0 c1 cR1 HcH1 Hbh HW1 r0 r1
        clear hp hc hSl hmem hbw hW1 hbw1 hbh cH1
        go_upto_region 4 with fail
        rw [← HW1.out]
        clear c0 c1
        cases bh with
        | true =>
          have HK2 : Hid (∀ p ∈ T.R.pos.take (k + 1), (p.1, argsL p.2 x) ∈ rows) := Lib.hid (by
            rw [take_snoc' Hp.out]
            intro y hy
            rcases List.mem_append.1 hy with hy | hy
            · exact HK.out y hy
            · rw [List.mem_singleton] at hy; rw [hy]; simpa using Hbh.out)
          clear HK
          go_upto_if 26 with (first | (go_at_call 20; (with_reducible refine cR1.out.mono ?_); rintro e V5 ⟨a5, c5, rfl, hI5, hV5⟩; have cH5 := HcH1.out V5 (below_chain HBw1.out hV5) _ a5 c5 hI5) | (go_at_call 19; (with_reducible refine cH5.out.mono ?_); rintro e V6 ⟨rfl, hV6⟩; have HB6 : Hid (Below W0.heap.size W0 V6) := Lib.hid (below_chain (below_chain HBr1.out hV5) hV6)))
          clear cR1 cH5 hV5 hI5 hV6 HcH1
          go_wp2_with fail
          go_roundw
          case rel => exact ⟨k + 1, by go_num, by omega, HB6, HK2⟩
          case measure => simp [intOf]; omega
        | false =>
          have hRf : R = false := by
            cases R with
            | false => rfl
            | true =>
              have h := (HR.out.1 rfl).1 _ (List.mem_of_getElem? Hp.out)
              have h2 : ¬ (pp, argsL sl x) ∈ rows := by simpa using Hbh.out
              exact absurd h h2
          subst hRf
          go_wp2_with (first | (go_at_call 20; (with_reducible refine cR1.out.mono ?_); rintro e V5 ⟨a5, c5, rfl, hI5, hV5⟩; have cH5 := HcH1.out V5 (below_chain HBw1.out hV5) _ a5 c5 hI5) | (go_at_call 19; (with_reducible refine cH5.out.mono ?_); rintro e V6 ⟨rfl, hV6⟩; have HB6 : Hid (Below W0.heap.size W0 V6) := Lib.hid (below_chain (below_chain HBr1.out hV5) hV6)))
          go_ret
          exact ⟨rfl, below_chain Hb0.out HB6.out⟩
      · have hke : k = PL := by omega
        subst hke
        have HK2 : Hid (∀ p ∈ T.R.pos, (p.1, argsL p.2 x) ∈ rows) := Lib.hid (by
          have := HK.out
          rwa [List.take_of_length_le (by rw [← HPL.out]; exact Nat.le_refl _)] at this)
        go_wp2_with fail
        go_meet
        exact ⟨HBr, HK2⟩
  case rest =>
    obtain ⟨HBr, HP⟩ := hcut
    obtain ⟨Wp, hWp⟩ : ∃ V, V = wc := ⟨_, rfl⟩
    subst hWp
    have y6 := on_cell HBr.out HY6.out
    go_upto_block 2 with fail
    clear y6
    go_cut [] (fun w' => Hid (Below W0.heap.size W0 w') ∧ Hid (∀ t ∈ T.R.tests, CdSat rows T.cs x (.tst t)))
    case first =>
      have y6 := on_cell HBr.out HY6.out
      go_wp2_with fail
      clear y6
      go_loopw [32] (fun t w' => ∃ (k : Nat), t = .int .i64 k ∧ k ≤ TL ∧ Hid (Below W0.heap.size W0 w') ∧ Hid (∀ t ∈ T.R.tests.take k, CdSat rows T.cs x (.tst t))) (fun t _ => TL - (intOf t).toNat)
      case atStart => exact ⟨0, rfl, Nat.zero_le _, HBr, Lib.hid (fun p hp => by simp at hp)⟩
      case round =>
        clear HBr
        obtain ⟨k, rfl, hkP, HBr, HK⟩ := hrel
        by_cases hlt : k < TL
        · obtain ⟨bp, op, hpa, hc⟩ : ∃ b off, TA = some ⟨b, off, none⟩ ∧ ∀ (i : Nat) (t : Tst), T.R.tests[i]? = some t → w.cell? ⟨b, off + i * 5, none⟩ = some (.int .i64 t.1) ∧ w.cell? ⟨b, off + i * 5 + 1, none⟩ = some (.bool t.2.1.1) ∧ w.cell? ⟨b, off + i * 5 + 2, none⟩ = some (.int .i64 t.2.1.2) ∧ w.cell? ⟨b, off + i * 5 + 3, none⟩ = some (.bool t.2.2.1) ∧ w.cell? ⟨b, off + i * 5 + 4, none⟩ = some (.int .i64 t.2.2.2) := by
            rw [HTA.out]
            rcases HT.out.rule.tests with h | h
            · have := HTL.out; rw [h] at this; simp at this; omega
            · exact h
          subst hpa
          obtain ⟨t, ht⟩ : ∃ t, t = T.R.tests[k]'(by rw [← HTL.out]; exact hlt) := ⟨_, rfl⟩
          have Ht : Hid (T.R.tests[k]? = some t) := Lib.hid (by rw [ht]; exact List.getElem?_eq_getElem _)
          obtain ⟨e0, e1, e2, e3, e4⟩ := hc k t Ht.out
          have hmem := List.mem_of_getElem? Ht.out
          obtain ⟨to1, to2, ts1, ts2⟩ := HT.out.ruleOk.tests t hmem
          have hbw : Below w.heap.size w wr := below_chain Hb0.out HBr.out
          have e0 := below_cell hbw (Nat.le_refl _) e0
          have e1 := below_cell hbw (Nat.le_refl _) e1
          have e2 := below_cell hbw (Nat.le_refl _) e2
          have e3 := below_cell hbw (Nat.le_refl _) e3
          have e4 := below_cell hbw (Nat.le_refl _) e4
          have hp1 := put_in (x := x) ts1 (by rw [HL.out]; exact Nat.le_refl _) HI.out
          have hp2 := put_in (x := x) ts2 (by rw [HL.out]; exact Nat.le_refl _) HI.out
          obtain ⟨i1, hi1⟩ := Int.eq_ofNat_of_zero_le hp1.1
          obtain ⟨i2, hi2⟩ := Int.eq_ofNat_of_zero_le hp2.1
          have cP1 := fun W (hW : Below w.heap.size w W) => HcP.out _ ts1 W hW
          have cP2 := fun W (hW : Below w.heap.size w W) => HcP.out _ ts2 W hW
          rw [hi1, ← HXL.out] at cP1
          rw [hi2, ← HXL.out] at cP2
          have hi1l : i1 < CN := by rw [HCN.out]; omega
          have hi2l : i2 < CN := by rw [HCN.out]; omega
          obtain ⟨bc, oc, hca, hcc⟩ : ∃ b off, CA = some ⟨b, off, none⟩ ∧ ∀ i (h : i < T.cs.length), w.cell? ⟨b, off + i * 3, none⟩ = some (.int .i64 T.cs[i].1) ∧ w.cell? ⟨b, off + i * 3 + 1, none⟩ = some (.int .i64 T.cs[i].2.1) ∧ w.cell? ⟨b, off + i * 3 + 2, none⟩ = some (.string T.cs[i].2.2) := by
            rw [HCA.out]
            rcases HT.out.con with h | h
            · have := HCN.out; rw [h] at this; simp at this; omega
            · exact h
          subst hca
          obtain ⟨c0, c1, c2⟩ := hcc i1 (by rw [← HCN.out]; exact hi1l)
          obtain ⟨d0, d1, d2⟩ := hcc i2 (by rw [← HCN.out]; exact hi2l)
          obtain ⟨ca1, hca1⟩ : ∃ c, c = T.cs[i1]'(by rw [← HCN.out]; exact hi1l) := ⟨_, rfl⟩
          obtain ⟨ca2, hca2⟩ : ∃ c, c = T.cs[i2]'(by rw [← HCN.out]; exact hi2l) := ⟨_, rfl⟩
          rw [← hca1] at c0 c1 c2
          rw [← hca2] at d0 d1 d2
          have c0 := below_cell hbw (Nat.le_refl _) c0
          have c1 := below_cell hbw (Nat.le_refl _) c1
          have c2 := below_cell hbw (Nat.le_refl _) c2
          have d0 := below_cell hbw (Nat.le_refl _) d0
          have d1 := below_cell hbw (Nat.le_refl _) d1
          have d2 := below_cell hbw (Nat.le_refl _) d2
          have hkk : cmpK T.cs (i1 : Int) (i2 : Int) = Sym.cmpC ca1.1 ca1.2.1 ca1.2.2.toList ca2.1 ca2.2.1 ca2.2.2.toList := by
            unfold cmpK cD
            simp only [Int.toNat_natCast]
            rw [List.getElem?_eq_getElem (by rw [← HCN.out]; exact hi1l), List.getElem?_eq_getElem (by rw [← HCN.out]; exact hi2l), hca1, hca2]
            rfl
          have cS := fun W => Lib.hid (stands_any t.1 ca1 ca2 W ⟨to1, to2⟩ _ hkk)
          obtain ⟨bb, hbb⟩ : ∃ b, b = Sym.cmpOp t.1 (cmpK T.cs (i1 : Int) (i2 : Int)) := ⟨_, rfl⟩
          rw [← hbb] at cS
          have Hbb : Hid (CdSat rows T.cs x (.tst t) ↔ bb = true) := Lib.hid (by
            show (holdsR T.cs t.1 (putL t.2.1 x) (putL t.2.2 x)).1 = true ↔ _
            rw [hi1, hi2, holds_st HT.out.conOk.1 ⟨to1, to2⟩ ⟨by omega, by rw [← HCN.out]; omega⟩ ⟨by omega, by rw [← HCN.out]; omega⟩, hbb])
          have y2 := on_cell HBr.out HY2.out
          obtain ⟨W1, hW1⟩ : ∃ V, V = wr.alloc (.cells #[.int .i64 t.1, .bool t.2.1.1, .int .i64 t.2.1.2, .bool t.2.2.1, .int .i64 t.2.2.2] 60) := ⟨_, rfl⟩
          obtain ⟨b10, hb10⟩ : ∃ b, b = wr.heap.size := ⟨_, rfl⟩
          have hbw1 : Below wr.heap.size wr W1 := by rw [hW1]; exact (Below.refl _ _).alloc (Nat.le_refl _) _
          have q0 : W1.cell? ⟨b10, 0, none⟩ = some (.int .i64 t.1) := by rw [hW1, hb10]; simp
          have q1 : W1.cell? ⟨b10, 1, none⟩ = some (.bool t.2.1.1) := by rw [hW1, hb10]; simp
          have q2 : W1.cell? ⟨b10, 2, none⟩ = some (.int .i64 t.2.1.2) := by rw [hW1, hb10]; simp
          have q3 : W1.cell? ⟨b10, 3, none⟩ = some (.bool t.2.2.1) := by rw [hW1, hb10]; simp
          have q4 : W1.cell? ⟨b10, 4, none⟩ = some (.int .i64 t.2.2.2) := by rw [hW1, hb10]; simp
          have y2 := on_cell hbw1 y2
          have c0 := on_cell hbw1 c0
          have c1 := on_cell hbw1 c1
          have c2 := on_cell hbw1 c2
          have d0 := on_cell hbw1 d0
          have d1 := on_cell hbw1 d1
          have d2 := on_cell hbw1 d2
          have HW1 := Lib.hid hW1
          have Hb10 := Lib.hid hb10
          have HBw1 : Hid (Below w.heap.size w W1) := Lib.hid (below_chain hbw hbw1)
          have HBr1 : Hid (Below W0.heap.size W0 W1) := Lib.hid (below_chain HBr.out hbw1)
          have cP1 := Lib.hid (fun W (hW : Below W1.heap.size W1 W) => (cP1 W (below_chain HBw1.out hW)).out)
          have cP2 := Lib.hid (fun W (hW : Below W1.heap.size W1 W) => (cP2 W (below_chain HBw1.out hW)).out)
          obtain ⟨t0, ⟨t1, t2⟩, t3, t4⟩ := t
          obtain ⟨ka, ia, sa⟩ := ca1
          obtain ⟨kb, ib, sb'⟩ := ca2
          simp only at e0 e1 e2 e3 e4 q0 q1 q2 q3 q4 c0 c1 c2 d0 d1 d2 cP1 cP2 cS HW1
          have zi1 : (0 : Int) ≤ (i1 : Int) := by omega
          have zi2 : (0 : Int) ≤ (i2 : Int) := by omega
          have zi1l : (i1 : Int) < (CN : Int) := by omega
          have zi2l : (i2 : Int) < (CN : Int) := by omega
          have HKt : Hid (bb = true → ∀ t ∈ T.R.tests.take (k + 1), CdSat rows T.cs x (.tst t)) := Lib.hid (fun hb => by
            rw [take_snoc' Ht.out]
            intro y hy
            rcases List.mem_append.1 hy with hy | hy
            · exact HK.out y hy
            · rw [List.mem_singleton] at hy; rw [hy]; exact Hbb.out.2 hb)
          clear hc ht hmem to1 to2 ts1 ts2 hbw hp1 hp2 hi1 hi2 hcc hca1 hca2 hkk hbb hW1 hb10 hbw1 HK
          go_upto_region 10 with fail
          rw [← HW1.out, ← Hb10.out]
          clear e0 e1 e2 e3 e4
          have hd1 : Below W1.heap.size W1 W1.drew := (Below.refl _ _).drew
          go_region_held3 (fun w' => w'.cell? ⟨b10, 0, none⟩ = some (.int .i64 t0) ∧ w'.cell? ⟨b10, 1, none⟩ = some (.bool t1) ∧ w'.cell? ⟨b10, 2, none⟩ = some (.int .i64 t2) ∧ w'.cell? ⟨b10, 3, none⟩ = some (.bool t3) ∧ w'.cell? ⟨b10, 4, none⟩ = some (.int .i64 t4) ∧ w'.cell? ⟨b4, 2, none⟩ = some (.slice (some ⟨bc, oc, none⟩) CN T.cc) ∧ w'.cell? ⟨bc, oc + i1 * 3, none⟩ = some (.int .i64 ka) ∧ w'.cell? ⟨bc, oc + i1 * 3 + 1, none⟩ = some (.int .i64 ia) ∧ w'.cell? ⟨bc, oc + i1 * 3 + 2, none⟩ = some (.string sa) ∧ w'.cell? ⟨bc, oc + i2 * 3, none⟩ = some (.int .i64 kb) ∧ w'.cell? ⟨bc, oc + i2 * 3 + 1, none⟩ = some (.int .i64 ib) ∧ w'.cell? ⟨bc, oc + i2 * 3 + 2, none⟩ = some (.string sb')) (first | assumption | go_keep) (first
            | (go_at_call 52
               with_reducible refine (cP1.out _ hd1).mono ?_
               rintro e V1 ⟨rfl, hv1⟩
               have hB1 : Below W1.heap.size W1 V1 := below_chain hd1 hv1
               have hSV1 : V1.cell? ⟨b10, 0, none⟩ = some (.int .i64 t0) ∧ V1.cell? ⟨b10, 1, none⟩ = some (.bool t1) ∧ V1.cell? ⟨b10, 2, none⟩ = some (.int .i64 t2) ∧ V1.cell? ⟨b10, 3, none⟩ = some (.bool t3) ∧ V1.cell? ⟨b10, 4, none⟩ = some (.int .i64 t4) ∧ V1.cell? ⟨b4, 2, none⟩ = some (.slice (some ⟨bc, oc, none⟩) CN T.cc) ∧ V1.cell? ⟨bc, oc + i1 * 3, none⟩ = some (.int .i64 ka) ∧ V1.cell? ⟨bc, oc + i1 * 3 + 1, none⟩ = some (.int .i64 ia) ∧ V1.cell? ⟨bc, oc + i1 * 3 + 2, none⟩ = some (.string sa) ∧ V1.cell? ⟨bc, oc + i2 * 3, none⟩ = some (.int .i64 kb) ∧ V1.cell? ⟨bc, oc + i2 * 3 + 1, none⟩ = some (.int .i64 ib) ∧ V1.cell? ⟨bc, oc + i2 * 3 + 2, none⟩ = some (.string sb') := ⟨on_cell hB1 q0, on_cell hB1 q1, on_cell hB1 q2, on_cell hB1 q3, on_cell hB1 q4, on_cell hB1 y2, on_cell hB1 c0, on_cell hB1 c1, on_cell hB1 c2, on_cell hB1 d0, on_cell hB1 d1, on_cell hB1 d2⟩)
            | (go_at_call 52
               with_reducible refine (cP2.out _ hB1).mono ?_
               rintro e V2 ⟨rfl, hv2⟩
               have hB2 : Below W1.heap.size W1 V2 := below_chain hB1 hv2
               have hSV2 : V2.cell? ⟨b10, 0, none⟩ = some (.int .i64 t0) ∧ V2.cell? ⟨b10, 1, none⟩ = some (.bool t1) ∧ V2.cell? ⟨b10, 2, none⟩ = some (.int .i64 t2) ∧ V2.cell? ⟨b10, 3, none⟩ = some (.bool t3) ∧ V2.cell? ⟨b10, 4, none⟩ = some (.int .i64 t4) ∧ V2.cell? ⟨b4, 2, none⟩ = some (.slice (some ⟨bc, oc, none⟩) CN T.cc) ∧ V2.cell? ⟨bc, oc + i1 * 3, none⟩ = some (.int .i64 ka) ∧ V2.cell? ⟨bc, oc + i1 * 3 + 1, none⟩ = some (.int .i64 ia) ∧ V2.cell? ⟨bc, oc + i1 * 3 + 2, none⟩ = some (.string sa) ∧ V2.cell? ⟨bc, oc + i2 * 3, none⟩ = some (.int .i64 kb) ∧ V2.cell? ⟨bc, oc + i2 * 3 + 1, none⟩ = some (.int .i64 ib) ∧ V2.cell? ⟨bc, oc + i2 * 3 + 2, none⟩ = some (.string sb') := ⟨on_cell hB2 q0, on_cell hB2 q1, on_cell hB2 q2, on_cell hB2 q3, on_cell hB2 q4, on_cell hB2 y2, on_cell hB2 c0, on_cell hB2 c1, on_cell hB2 c2, on_cell hB2 d0, on_cell hB2 d1, on_cell hB2 d2⟩)
            | (go_at_call 69
               with_reducible refine (cS _).out.mono ?_
               rintro e V3 ⟨rfl, hv3⟩
               have hB3 : Below W1.heap.size W1 V3 := below_chain hB2 hv3
               have hSV3 : V3.cell? ⟨b10, 0, none⟩ = some (.int .i64 t0) ∧ V3.cell? ⟨b10, 1, none⟩ = some (.bool t1) ∧ V3.cell? ⟨b10, 2, none⟩ = some (.int .i64 t2) ∧ V3.cell? ⟨b10, 3, none⟩ = some (.bool t3) ∧ V3.cell? ⟨b10, 4, none⟩ = some (.int .i64 t4) ∧ V3.cell? ⟨b4, 2, none⟩ = some (.slice (some ⟨bc, oc, none⟩) CN T.cc) ∧ V3.cell? ⟨bc, oc + i1 * 3, none⟩ = some (.int .i64 ka) ∧ V3.cell? ⟨bc, oc + i1 * 3 + 1, none⟩ = some (.int .i64 ia) ∧ V3.cell? ⟨bc, oc + i1 * 3 + 2, none⟩ = some (.string sa) ∧ V3.cell? ⟨bc, oc + i2 * 3, none⟩ = some (.int .i64 kb) ∧ V3.cell? ⟨bc, oc + i2 * 3 + 1, none⟩ = some (.int .i64 ib) ∧ V3.cell? ⟨bc, oc + i2 * 3 + 2, none⟩ = some (.string sb') := ⟨on_cell hB3 q0, on_cell hB3 q1, on_cell hB3 q2, on_cell hB3 q3, on_cell hB3 q4, on_cell hB3 y2, on_cell hB3 c0, on_cell hB3 c1, on_cell hB3 c2, on_cell hB3 d0, on_cell hB3 d1, on_cell hB3 d2⟩))
          have HB3 : Hid (Below W0.heap.size W0 V3) := Lib.hid (below_chain HBr1.out hB3)
          clear hSV1 hSV2 hSV3 hB1 hB2 hB3 hv1 hv2 hv3 cP1 cP2 cS hd1 q0 q1 q2 q3 q4 c0 c1 c2 d0 d1 d2 y2
          cases bb with
          | true =>
            have HK2 := Lib.hid (HKt.out rfl)
            go_wp2_with fail
            go_roundw
            case rel => exact ⟨k + 1, by go_num, by omega, HB3, HK2⟩
            case measure => simp [intOf]; omega
          | false =>
            have hRf : R = false := by
              cases R with
              | false => rfl
              | true =>
                have h := (HR.out.1 rfl).2.1 _ (List.mem_of_getElem? Ht.out)
                have h2 := Hbb.out.1 h
                cases h2
            subst hRf
            go_wp2_with fail
            go_ret
            exact ⟨rfl, below_chain Hb0.out HB3.out⟩
        · have hke : k = TL := by omega
          subst hke
          have HK2 : Hid (∀ t ∈ T.R.tests, CdSat rows T.cs x (.tst t)) := Lib.hid (by
            have := HK.out
            rwa [List.take_of_length_le (by rw [← HTL.out]; exact Nat.le_refl _)] at this)
          go_wp2_with fail
          go_meet
          exact ⟨HBr, HK2⟩
    case rest =>
      clear HBr
      obtain ⟨HBr, HTt⟩ := hcut
      obtain ⟨Wq, hWq⟩ : ∃ V, V = wc := ⟨_, rfl⟩
      subst hWq
      have y7 := on_cell HBr.out HY7.out
      go_upto_block 4 with fail
      clear y7
      go_cut [] (fun w' => Hid (Below W0.heap.size W0 w') ∧ Hid (∀ p ∈ T.R.neg, (p.1, argsL p.2 x) ∉ rows))
      case first =>
        have y7 := on_cell HBr.out HY7.out
        go_wp2_with fail
        clear y7
        go_loopw [61] (fun t w' => ∃ (k : Nat), t = .int .i64 k ∧ k ≤ GL ∧ Hid (Below W0.heap.size W0 w') ∧ Hid (∀ p ∈ T.R.neg.take k, (p.1, argsL p.2 x) ∉ rows)) (fun t _ => GL - (intOf t).toNat)
        case atStart => exact ⟨0, rfl, Nat.zero_le _, HBr, Lib.hid (fun p hp => by simp at hp)⟩
        case round =>
          clear HBr
          obtain ⟨k, rfl, hkP, HBr, HK⟩ := hrel
          by_cases hlt : k < GL
          · obtain ⟨bp, op, hpa, hc⟩ : ∃ b off, NA = some ⟨b, off, none⟩ ∧ ∀ (i : Nat) (p : Pat), T.R.neg[i]? = some p → w.cell? ⟨b, off + i * 2, none⟩ = some (.int .i64 p.1) ∧ ∃ sa sc, w.cell? ⟨b, off + i * 2 + 1, none⟩ = some (.slice sa p.2.length sc) ∧ Slots w sa p.2 := by
              rw [HNA.out]
              rcases HT.out.rule.neg with h | h
              · have := HGL.out; rw [h] at this; simp at this; omega
              · exact h
            subst hpa
            obtain ⟨p, hp⟩ : ∃ p, p = T.R.neg[k]'(by rw [← HGL.out]; exact hlt) := ⟨_, rfl⟩
            have Hp : Hid (T.R.neg[k]? = some p) := Lib.hid (by rw [hp]; exact List.getElem?_eq_getElem _)
            obtain ⟨c0, pa, pc, c1, hSl⟩ := hc k p Hp.out
            have hmem := List.mem_of_getElem? Hp.out
            have hbw : Below w.heap.size w wr := below_chain Hb0.out HBr.out
            have c0 := below_cell hbw (Nat.le_refl _) c0
            have c1 := below_cell hbw (Nat.le_refl _) c1
            obtain ⟨W1, hW1⟩ : ∃ V, V = wr.alloc (.cells #[.int .i64 p.1, .slice pa p.2.length pc] 27) := ⟨_, rfl⟩
            have hbw1 : Below wr.heap.size wr W1 := by rw [hW1]; exact (Below.refl _ _).alloc (Nat.le_refl _) _
            have cR1 := HcR.out p pa pc (.inr hmem) W1 (below_chain hbw hbw1) (hSl.below (below_chain hbw hbw1) (Nat.le_refl _))
            rw [← HXL.out] at cR1
            have HW1 := Lib.hid hW1
            have HBw1 : Hid (Below w.heap.size w W1) := Lib.hid (below_chain hbw hbw1)
            have HBr1 : Hid (Below W0.heap.size W0 W1) := Lib.hid (below_chain HBr.out hbw1)
            have r0 : W1.cell? ⟨wr.heap.size, 0, none⟩ = some (.int .i64 p.1) := by rw [hW1]; simp
            have r1 : W1.cell? ⟨wr.heap.size, 1, none⟩ = some (.slice pa p.2.length pc) := by rw [hW1]; simp
            obtain ⟨bh, hbh⟩ : ∃ b, b = @decide ((p.1, argsL p.2 x) ∈ rows) (Classical.propDecidable _) := ⟨_, rfl⟩
            have cH1 := fun V hV N a c hI => HcH.out p (.inr hmem) bh (by rw [hbh]; simp) V hV N a c hI
            have Hbh := Lib.hid hbh
            have HcH1 := Lib.hid cH1
            obtain ⟨pp, sl⟩ := p
            simp only at c0 c1 cR1 HcH1 Hbh HW1 r0 r1
            clear hp hc hSl hmem hbw hW1 hbw1 hbh cH1
            go_upto_region 16 with fail
            rw [← HW1.out]
            clear c0 c1
            cases bh with
            | false =>
              have HK2 : Hid (∀ p ∈ T.R.neg.take (k + 1), (p.1, argsL p.2 x) ∉ rows) := Lib.hid (by
                rw [take_snoc' Hp.out]
                intro y hy
                rcases List.mem_append.1 hy with hy | hy
                · exact HK.out y hy
                · rw [List.mem_singleton] at hy; rw [hy]; simpa using Hbh.out)
              clear HK
              go_upto_if 69 with (first | (go_at_call 20; (with_reducible refine cR1.out.mono ?_); rintro e V5 ⟨a5, c5, rfl, hI5, hV5⟩; have cH5 := HcH1.out V5 (below_chain HBw1.out hV5) _ a5 c5 hI5) | (go_at_call 19; (with_reducible refine cH5.out.mono ?_); rintro e V6 ⟨rfl, hV6⟩; have HB6 : Hid (Below W0.heap.size W0 V6) := Lib.hid (below_chain (below_chain HBr1.out hV5) hV6)))
              clear cR1 cH5 hV5 hI5 hV6 HcH1
              go_wp2_with fail
              go_roundw
              case rel => exact ⟨k + 1, by go_num, by omega, HB6, HK2⟩
              case measure => simp [intOf]; omega
            | true =>
              have hRf : R = false := by
                cases R with
                | false => rfl
                | true =>
                  have h := (HR.out.1 rfl).2.2 _ (List.mem_of_getElem? Hp.out)
                  have h2 : (pp, argsL sl x) ∈ rows := by simpa using Hbh.out
                  exact absurd h2 h
              subst hRf
              go_wp2_with (first | (go_at_call 20; (with_reducible refine cR1.out.mono ?_); rintro e V5 ⟨a5, c5, rfl, hI5, hV5⟩; have cH5 := HcH1.out V5 (below_chain HBw1.out hV5) _ a5 c5 hI5) | (go_at_call 19; (with_reducible refine cH5.out.mono ?_); rintro e V6 ⟨rfl, hV6⟩; have HB6 : Hid (Below W0.heap.size W0 V6) := Lib.hid (below_chain (below_chain HBr1.out hV5) hV6)))
              go_ret
              exact ⟨rfl, below_chain Hb0.out HB6.out⟩
          · have hke : k = GL := by omega
            subst hke
            have HK2 : Hid (∀ p ∈ T.R.neg, (p.1, argsL p.2 x) ∉ rows) := Lib.hid (by
              have := HK.out
              rwa [List.take_of_length_le (by rw [← HGL.out]; exact Nat.le_refl _)] at this)
            go_wp2_with fail
            go_meet
            exact ⟨HBr, HK2⟩
      case rest =>
        clear HBr
        obtain ⟨HBr, HN⟩ := hcut
        have hRt : R = true := HR.out.2 ⟨HP.out, HTt.out, HN.out⟩
        subst hRt
        go_wp2_with fail
        go_ret
        exact ⟨rfl, below_chain Hb0.out HBr.out⟩
/-- an integer is written into a row of the call's own -/
theorem own_int {w : World} {B g c n j : Nat} {l : List Int} (x : Int) (h : w.ownsRow B 3 1 (.slice (some ⟨g, 0, none⟩) n c) n (l.map (Value.int .i64))) (_ : j < n) : (w.setCell ⟨g, j, none⟩ (.int .i64 x)).ownsRow B 3 1 (.slice (some ⟨g, 0, none⟩) n c) n ((l.set j x).map (Value.int .i64)) ∧ w.frozen? ⟨g, j, none⟩ = false ∧ (∃ cs, w.heap[g]? = some (.cells cs 3 (0, 0))) ∧ B ≤ g := by
  rcases h.2 with ⟨h0, -⟩ | ⟨g', cap, cur, h5, hg, hc, hnc, hcm, hsz, ht⟩
  · cases h0
  · injection h5 with h5 h6 h7
    injection h5 with h5
    injection h5 with h5
    subst h5
    subst h7
    refine ⟨⟨by rw [List.length_map, List.length_set]; have := h.1; rwa [List.length_map] at this, .inr ⟨g, c, cur.setIfInBounds j (.int .i64 x), rfl, hg, heap_setCell (j := j) hc _, hnc, hcm, by simpa using hsz, ?_⟩⟩, by simp [World.frozen?, hc], ⟨cur, hc⟩, hg⟩
    rw [List.map_set, Array.toList_setIfInBounds, List.take_set, ht]
theorem own_cell {w : World} {B g c n j : Nat} {l : List Int} {x : Int} (h : w.ownsRow B 3 1 (.slice (some ⟨g, 0, none⟩) n c) n (l.map (Value.int .i64))) (hj : l[j]? = some x) : w.cell? ⟨g, j, none⟩ = some (.int .i64 x) := by
  rcases owns_form h with ⟨h0, -⟩ | ⟨g', cap, h5, -, -, -, -, -, hc, -⟩
  · cases h0
  · injection h5 with h5 h6 h7
    injection h5 with h5
    injection h5 with h5
    subst h5
    exact hc j _ (by rw [List.getElem?_map, hj]; rfl)
/-- the ids below k, in their constants' order -/
structure OrdK (cs : List C3) (k : Nat) (l : List Int) : Prop where
  len : l.length = k
  mem : ∀ x, x ∈ l ↔ 0 ≤ x ∧ x < (k : Int)
  ord : l.Pairwise (fun x y => cmpK cs x y = -1)
/-- one id is on its way -/
structure InsK (cs : List C3) (k : Nat) (A B : List Int) : Prop where
  len : A.length + B.length = k
  mem : ∀ x, (x ∈ A ∨ x ∈ B) ↔ 0 ≤ x ∧ x < (k : Int)
  ord : (A ++ B).Pairwise (fun x y => cmpK cs x y = -1)
  big : ∀ b ∈ B, cmpK cs (k : Int) b = -1
theorem InsK.start {cs : List C3} {k : Nat} {l : List Int} (h : OrdK cs k l) : InsK cs k l [] := ⟨by simpa using h.len, fun x => by simpa using h.mem x, by simpa using h.ord, fun b hb => by cases hb⟩
theorem InsK.step {cs : List C3} {k : Nat} {A B : List Int} {a : Int} (h : InsK cs k (A ++ [a]) B) (ha : cmpK cs (k : Int) a < 0) : InsK cs k A (a :: B) := by
  have hr := (three_K cs).rng (k : Int) a
  refine ⟨by have := h.len; simp only [List.length_append, List.length_cons, List.length_nil] at this ⊢; omega, fun x => ?_, by have := h.ord; rwa [List.append_assoc, List.singleton_append] at this, fun b hb => ?_⟩
  · rw [← h.mem x]
    simp only [List.mem_append, List.mem_cons, List.not_mem_nil, or_false]
    constructor
    · rintro (h | h | h)
      · exact .inl (.inl h)
      · exact .inl (.inr h)
      · exact .inr h
    · rintro ((h | h) | h)
      · exact .inl h
      · exact .inr (.inl h)
      · exact .inr (.inr h)
  · rcases List.mem_cons.1 hb with rfl | hb
    · omega
    · exact h.big b hb
theorem cmpK_ne {cs : List C3} (hn : cs.Nodup) {x y : Int} (hx : 0 ≤ x ∧ x < cs.length) (hy : 0 ≤ y ∧ y < cs.length) (hxy : x ≠ y) : cmpK cs x y ≠ 0 := fun h => by
  have h2 : lexC cs 1 [x] [y] = 0 := by
    rw [lexC_cons, if_neg (fun hh => hh h)]
    rfl
  have := lex_one hn 1 [x] [y] rfl rfl (fun v hv => by rw [List.mem_singleton] at hv; subst hv; exact hx) (fun v hv => by rw [List.mem_singleton] at hv; subst hv; exact hy) h2
  exact hxy (by simpa using this)
theorem InsK.fin {cs : List C3} {k : Nat} {A B : List Int} (hn : cs.Nodup) (hk : k < cs.length) (h : InsK cs k A B) (ha : ∀ a, A.getLast? = some a → ¬ cmpK cs (k : Int) a < 0) : OrdK cs (k + 1) (A ++ (k : Int) :: B) := by
  have T := three_K cs
  obtain ⟨p1, p2, p3⟩ := List.pairwise_append.1 h.ord
  have hlast : ∀ a ∈ A, cmpK cs a (k : Int) = -1 := by
    have hmemA : ∀ a ∈ A, 0 ≤ a ∧ a < (k : Int) := fun a haA => (h.mem a).1 (.inl haA)
    rcases List.eq_nil_or_concat A with hA | ⟨A', a, hA⟩
    · intro a haA; rw [hA] at haA; cases haA
    · have hal : cmpK cs a (k : Int) = -1 := by
        have h1 := ha a (by rw [hA]; simp)
        have hm := hmemA a (by rw [hA]; simp)
        have h2 := cmpK_ne hn (x := (k : Int)) (y := a) ⟨by omega, by omega⟩ ⟨hm.1, by omega⟩ (by omega)
        have h3 := T.anti (k : Int) a
        have h4 := T.rng (k : Int) a
        omega
      intro x hx
      rw [hA] at hx p1
      simp only [List.concat_eq_append, List.mem_append, List.mem_singleton] at hx
      rcases hx with hx | rfl
      · rw [List.concat_eq_append] at p1
        have := (List.pairwise_append.1 p1).2.2 x hx a (by simp)
        exact T.trans _ _ _ this hal
      · exact hal
  refine ⟨by have := h.len; simp only [List.length_append, List.length_cons]; omega, fun x => ?_, ?_⟩
  · simp only [List.mem_append, List.mem_cons]
    have := h.mem x
    constructor
    · rintro (hx | rfl | hx)
      · have := this.1 (.inl hx); omega
      · omega
      · have := this.1 (.inr hx); omega
    · intro hx
      by_cases e : x = (k : Int)
      · exact .inr (.inl e)
      · rcases this.2 ⟨hx.1, by omega⟩ with h | h
        · exact .inl h
        · exact .inr (.inr h)
  · rw [List.pairwise_append]
    refine ⟨p1, List.pairwise_cons.2 ⟨h.big, p2⟩, fun x hx y hy => ?_⟩
    rcases List.mem_cons.1 hy with rfl | hy
    · exact hlast x hx
    · exact p3 x hx y hy
theorem OrdK.ordered {cs : List C3} {l : List Int} (h : OrdK cs cs.length l) : Ordered cs l := ⟨h.len, fun x hx => (h.mem x).1 hx, fun x h1 h2 => (h.mem x).2 ⟨h1, h2⟩, h.ord⟩
theorem swap_lists (A B : List Int) (a k : Int) : ((A ++ [a] ++ k :: B).set (A.length + 1) a).set A.length k = A ++ k :: a :: B := by
  have e : A ++ [a] ++ k :: B = A ++ a :: k :: B := by simp
  rw [e, List.set_append_right _ _ (by omega)]
  simp only [Nat.add_sub_cancel_left, List.set_cons_succ, List.set_cons_zero]
  rw [List.set_append_right _ _ (by omega)]
  simp
def OrderEnd (cs : List C3) (w : World) (e : Ending) (w' : World) : Prop := ∃ (v : Value) (l : List Int), e = .returned v ∧ OrdK cs cs.length l ∧ w'.ownsRow w.heap.size 3 1 v l.length (l.map (Value.int .i64)) ∧ Below w.heap.size w w'
set_option linter.unusedSimpArgs false in
set_option maxHeartbeats 16000000 in
set_option maxRecDepth 100000 in
theorem byOrder_any (ca : Option Addr) (cc : Nat) (cs : List C3) (w : World) (hc : Consts w ca cs) (hn : cs.Nodup) (h5 : cs.length ≤ 5) : Calls Try.prog 42 #[.slice ca cs.length cc] w (OrderEnd cs w) := by
  have HC := Lib.hid hc
  have HN := Lib.hid hn
  obtain ⟨CN, hCN⟩ : ∃ n, n = cs.length := ⟨_, rfl⟩
  have HCN := Lib.hid hCN
  rw [← hCN] at h5 ⊢
  clear hc hn hCN
  go_enter Try.func42, Try.ntmps42
  go_wp2_with fail
  go_loopw [3, 9] (fun u t wr => ∃ (k : Nat) (l : List Int), t = .int .i64 k ∧ k ≤ CN ∧ Hid (Below w.heap.size w wr) ∧ Hid (OrdK cs k l) ∧ Hid (wr.ownsRow w.heap.size 3 1 u l.length (l.map (Value.int .i64)))) (fun u t _ => CN - (intOf t).toNat)
  case atStart => exact ⟨0, [], rfl, Nat.zero_le _, Lib.hid (Below.refl _ _), Lib.hid ⟨rfl, fun x => ⟨fun h => (by cases h), fun h => absurd h.2 (by have := h.1; omega)⟩, List.Pairwise.nil⟩, Lib.hid (World.ownsRow_nil _ _ _ _)⟩
  case round =>
    obtain ⟨k, l, rfl, hk, HB, HO, HW⟩ := hrel
    obtain ⟨ua, uc, rfl⟩ := owns_shape' HW.out
    by_cases hlt : k < CN
    · have hown := HW.out
      have hll : l.length = k := HO.out.len
      have hz := HB.out.size
      go_upto_block 2 with (first | (at_builtin; refine wpList_append_any elemInt _ rfl _ _ rfl w.heap.size _ l.length (l.map (Value.int .i64)) rfl (hown.alloc _) (some ⟨wr.heap.size, 0, none⟩) 1 1 [.int .i64 (k : Int)] rfl (source_new _ _ _) rfl (by simp [Value.oneCell']) (by unfold maxLen; omega) (by omega) (by simp; omega) ?_; intro v' w2 hown2 hgrow2 hblk2; obtain ⟨va3, vc3, rfl⟩ := owns_shape' hown2; have HW2 := Lib.hid hown2; have HB2 : Hid (Below w.heap.size w w2) := Lib.hid ((HB.out.alloc hz _).grown hgrow2 (by simp; omega) (fun g e => (hown.lt g e).1)); clear hown2 hgrow2 hblk2))
      have hw2 : w2.ownsRow w.heap.size 3 1 (.slice va3 (k + 1) vc3) (k + 1) ((l ++ (k : Int) :: []).map (Value.int .i64)) := by
        have := HW2.out
        rw [hll] at this
        rw [List.map_append]
        exact this
      obtain ⟨g, hg, hgl⟩ : ∃ g, va3 = some ⟨g, 0, none⟩ ∧ w.heap.size ≤ g := by
        rcases owns_form hw2 with ⟨-, h0, -⟩ | ⟨g, cap, h5, hb, -⟩
        · omega
        · injection h5 with e1
          exact ⟨g, e1, hb⟩
      subst hg
      try rw [hll]
      have HW3 := Lib.hid hw2
      have HOl := Lib.hid HO.out
      clear hw2 HW2 hown hll HW HB
      obtain ⟨wo, hwo⟩ : ∃ V, V = wr := ⟨_, rfl⟩
      subst hwo
      go_wp2_with fail
      go_loopw [5] (fun t w' => ∃ (j : Nat) (A B : List Int), t = .int .i64 j ∧ j ≤ k ∧ Hid (j = A.length) ∧ Hid (InsK cs k A B) ∧ Hid (Below w.heap.size w w') ∧ Hid (w'.ownsRow w.heap.size 3 1 (.slice (some ⟨g, 0, none⟩) (k + 1) vc3) (k + 1) ((A ++ (k : Int) :: B).map (Value.int .i64)))) (fun t _ => (intOf t).toNat)
      case atStart => exact ⟨k, l, [], rfl, Nat.le_refl _, Lib.hid HOl.out.len.symm, Lib.hid (InsK.start HOl.out), HB2, HW3⟩
      case round =>
        clear HB2 HW3 hz
        obtain ⟨j, A, B, rfl, hjk, HJ, HN2, HBj, HWj⟩ := hrel
        cases j with
        | zero =>
          have hA : A = [] := List.eq_nil_of_length_eq_zero HJ.out.symm
          subst hA
          have HX : Hid (OrdK cs (k + 1) ([] ++ (k : Int) :: B)) := Lib.hid (HN2.out.fin HN.out (by rw [← HCN.out]; exact hlt) (fun a ha => by simp at ha))
          have HBd : Hid (Below w.heap.size w wr.drew) := Lib.hid HBj.out.drew
          have HLX : Hid (([] ++ (k : Int) :: B).length = k + 1) := Lib.hid HX.out.len
          go_upto_region 7 with fail
          go_quiet (fail)
          go_wp2_with fail
          go_roundw
          case rel =>
            refine ⟨k + 1, [] ++ (k : Int) :: B, by go_num, by omega, Lib.hid (below_drewN HBj.out _), HX, Lib.hid ?_⟩
            rw [HLX.out]
            exact owns_below HWj.out (below_drewN (Below.refl _ _) _) (Nat.le_refl _)
          case measure => simp [intOf]; omega
        | succ m =>
          obtain ⟨A', a, hA⟩ : ∃ A' a, A = A' ++ [a] := by
            rcases List.eq_nil_or_concat A with h | ⟨A', a, h⟩
            · have := HJ.out; rw [h] at this; simp at this
            · exact ⟨A', a, by rw [h, List.concat_eq_append]⟩
          subst hA
          have hm : m = A'.length := by have := HJ.out; rw [List.length_append] at this; simpa using this
          have Hm := Lib.hid hm
          have ha := (HN2.out.mem a).1 (.inl (by simp))
          obtain ⟨an, rfl⟩ := Int.eq_ofNat_of_zero_le ha.1
          have hank : an < k := by omega
          have q1 := own_cell (j := m + 1) (x := (k : Int)) HWj.out (by rw [hm, List.append_assoc, List.getElem?_append_right (by omega)]; simp)
          have q0 := own_cell (j := m) (x := (an : Int)) HWj.out (by rw [hm, List.append_assoc, List.getElem?_append_right (Nat.le_refl _)]; simp)
          obtain ⟨bc, oc, hca, hcc⟩ : ∃ b off, ca = some ⟨b, off, none⟩ ∧ ∀ i (h : i < cs.length), w.cell? ⟨b, off + i * 3, none⟩ = some (.int .i64 cs[i].1) ∧ w.cell? ⟨b, off + i * 3 + 1, none⟩ = some (.int .i64 cs[i].2.1) ∧ w.cell? ⟨b, off + i * 3 + 2, none⟩ = some (.string cs[i].2.2) := by
            rcases HC.out with h | h
            · have := HCN.out; rw [h] at this; simp at this; omega
            · exact h
          subst hca
          have hkl : k < cs.length := by rw [← HCN.out]; exact hlt
          have hal : an < cs.length := by omega
          obtain ⟨c0, c1, c2⟩ := hcc k hkl
          obtain ⟨d0, d1, d2⟩ := hcc an hal
          obtain ⟨ck, hck⟩ : ∃ c, c = cs[k]'hkl := ⟨_, rfl⟩
          obtain ⟨cn, hcn⟩ : ∃ c, c = cs[an]'hal := ⟨_, rfl⟩
          rw [← hck] at c0 c1 c2
          rw [← hcn] at d0 d1 d2
          have c0 := below_cell HBj.out (Nat.le_refl _) c0
          have c1 := below_cell HBj.out (Nat.le_refl _) c1
          have c2 := below_cell HBj.out (Nat.le_refl _) c2
          have d0 := below_cell HBj.out (Nat.le_refl _) d0
          have d1 := below_cell HBj.out (Nat.le_refl _) d1
          have d2 := below_cell HBj.out (Nat.le_refl _) d2
          have hkk : cmpK cs (k : Int) (an : Int) = Sym.cmpC ck.1 ck.2.1 ck.2.2.toList cn.1 cn.2.1 cn.2.2.toList := by
            unfold cmpK cD
            simp only [Int.toNat_natCast]
            rw [List.getElem?_eq_getElem hkl, List.getElem?_eq_getElem hal, hck, hcn]
            rfl
          have cC := fun W => Lib.hid (Sym.compare_any ck.1 ck.2.1 ck.2.2 cn.1 cn.2.1 cn.2.2 W)
          rw [← hkk] at cC
          obtain ⟨cm, hcm⟩ : ∃ c, c = cmpK cs (k : Int) (an : Int) := ⟨_, rfl⟩
          rw [← hcm] at cC
          have Hcm := Lib.hid hcm
          obtain ⟨kk, ki, ks⟩ := ck
          obtain ⟨ak, ai, as'⟩ := cn
          simp only at c0 c1 c2 d0 d1 d2 cC
          have zk : (0 : Int) ≤ (k : Int) := by omega
          have zkl : (k : Int) < (CN : Int) := by omega
          have za : (0 : Int) ≤ (an : Int) := by omega
          have zal : (an : Int) < (CN : Int) := by omega
          have zm : (0 : Int) ≤ (m : Int) := by omega
          have zm1 : (m : Int) + 1 < (k : Int) + 1 := by omega
          have zm2 : (m : Int) < (k : Int) + 1 := by omega
          have zm0 : (0 : Int) < (m : Int) + 1 := by omega
          have zm3 : (0 : Int) ≤ (m : Int) + 1 := by omega
          clear hm ha hcc hkl hal hck hcn hkk hcm
          go_upto_region 7 with fail
          obtain ⟨V0, hV0⟩ : ∃ V, V = wr.drew := ⟨_, rfl⟩
          have hbd : Below wr.heap.size wr V0 := by rw [hV0]; exact (Below.refl _ _).drew
          have q1 := on_cell hbd q1
          have q0 := on_cell hbd q0
          have c0 := on_cell hbd c0
          have c1 := on_cell hbd c1
          have c2 := on_cell hbd c2
          have d0 := on_cell hbd d0
          have d1 := on_cell hbd d1
          have d2 := on_cell hbd d2
          refine wp_region_noPanic ?_
          refine wp_region_held_drew (S := (fun w' => w'.cell? ⟨g, m + 1, none⟩ = some (.int .i64 (k : Int)) ∧ w'.cell? ⟨g, m, none⟩ = some (.int .i64 (an : Int)) ∧ w'.cell? ⟨bc, oc + k * 3, none⟩ = some (.int .i64 kk) ∧ w'.cell? ⟨bc, oc + k * 3 + 1, none⟩ = some (.int .i64 ki) ∧ w'.cell? ⟨bc, oc + k * 3 + 2, none⟩ = some (.string ks) ∧ w'.cell? ⟨bc, oc + an * 3, none⟩ = some (.int .i64 ak) ∧ w'.cell? ⟨bc, oc + an * 3 + 1, none⟩ = some (.int .i64 ai) ∧ w'.cell? ⟨bc, oc + an * 3 + 2, none⟩ = some (.string as'))) (by kernel_rfl) ?_ (fun hHeld => ?_)
          · rw [← hV0]; exact ⟨q1, q0, c0, c1, c2, d0, d1, d2⟩
          rw [← hV0] at hHeld ⊢
          have Hbd := Lib.hid hbd
          clear hbd hV0
          refine wpAnyH_take (i := 0) (oi := ⟨some 17, _, _, _, _, _⟩) (v := ?_) rfl (by kernel_rfl) (by kernel_rfl) (by kernel_rfl) (fun _ _ _ h => h) (Or.inl ⟨by rfl, ?_⟩) (by assumption) ?_
          rotate_left 1
          · intro w hSw
            (try dsimp only at hSw)
            go_simp
            all_goals with_reducible rfl
          (try simp only [Act.put, List.setIfInBounds_toArray, List.set_cons_zero, List.set_cons_succ])
          refine wpAnyH_take (i := 1) (oi := ⟨some 18, _, _, _, _, _⟩) (v := ?_) rfl (by kernel_rfl) (by kernel_rfl) (by kernel_rfl) (fun _ _ _ h => h) (Or.inl ⟨by rfl, ?_⟩) (by assumption) ?_
          rotate_left 1
          · intro w hSw
            (try dsimp only at hSw)
            go_simp
            all_goals with_reducible rfl
          (try simp only [Act.put, List.setIfInBounds_toArray, List.set_cons_zero, List.set_cons_succ])
          refine wpAnyH_take (i := 2) (oi := ⟨some 19, _, _, _, _, _⟩) (v := ?_) rfl (by kernel_rfl) (by kernel_rfl) (by kernel_rfl) (fun _ _ _ h => h) (Or.inl ⟨by rfl, ?_⟩) (by assumption) ?_
          rotate_left 1
          · intro w hSw
            (try dsimp only at hSw)
            go_simp
            all_goals with_reducible rfl
          (try simp only [Act.put, List.setIfInBounds_toArray, List.set_cons_zero, List.set_cons_succ])
          refine wpAnyH_take (i := 3) (oi := ⟨some 20, _, _, _, _, _⟩) (v := ?_) rfl (by kernel_rfl) (by kernel_rfl) (by kernel_rfl) (fun _ _ _ h => h) (Or.inl ⟨by rfl, ?_⟩) (by assumption) ?_
          rotate_left 1
          · intro w hSw
            (try dsimp only at hSw)
            go_simp
            all_goals with_reducible rfl
          (try simp only [Act.put, List.setIfInBounds_toArray, List.set_cons_zero, List.set_cons_succ])
          refine wpAnyH_take (i := 4) (oi := ⟨some 21, _, _, _, _, _⟩) (v := ?_) rfl (by kernel_rfl) (by kernel_rfl) (by kernel_rfl) (fun _ _ _ h => h) (Or.inl ⟨by rfl, ?_⟩) (by assumption) ?_
          rotate_left 1
          · intro w hSw
            (try dsimp only at hSw)
            go_simp
            all_goals with_reducible rfl
          (try simp only [Act.put, List.setIfInBounds_toArray, List.set_cons_zero, List.set_cons_succ])
          refine wpAnyH_take (i := 5) (oi := ⟨some 22, _, _, _, _, _⟩) (v := ?_) rfl (by kernel_rfl) (by kernel_rfl) (by kernel_rfl) (fun _ _ _ h => h) (Or.inl ⟨by rfl, ?_⟩) (by assumption) ?_
          rotate_left 1
          · intro w hSw
            (try dsimp only at hSw)
            go_simp
            all_goals with_reducible rfl
          (try simp only [Act.put, List.setIfInBounds_toArray, List.set_cons_zero, List.set_cons_succ])
          refine wpAnyH_take (i := 6) (oi := ⟨some 23, _, _, _, _, _⟩) (v := ?_) rfl (by kernel_rfl) (by kernel_rfl) (by kernel_rfl) (fun _ _ _ h => h) (Or.inl ⟨by rfl, ?_⟩) (by assumption) ?_
          rotate_left 1
          · intro w hSw
            (try dsimp only at hSw)
            go_simp
            all_goals with_reducible rfl
          (try simp only [Act.put, List.setIfInBounds_toArray, List.set_cons_zero, List.set_cons_succ])
          refine wpAnyH_take (i := 7) (oi := ⟨some 24, _, _, _, _, _⟩) (v := ?_) rfl (by kernel_rfl) (by kernel_rfl) (by kernel_rfl) (fun _ _ _ h => h) (Or.inl ⟨by rfl, ?_⟩) (by assumption) ?_
          rotate_left 1
          · intro w hSw
            (try dsimp only at hSw)
            go_simp
            all_goals with_reducible rfl
          (try simp only [Act.put, List.setIfInBounds_toArray, List.set_cons_zero, List.set_cons_succ])
          refine wpAnyH_take (i := 8) (oi := ⟨some 25, _, _, _, _, _⟩) (v := ?_) rfl (by kernel_rfl) (by kernel_rfl) (by kernel_rfl) (fun _ _ _ h => h) (Or.inl ⟨by rfl, ?_⟩) (by assumption) ?_
          rotate_left 1
          · intro w hSw
            (try dsimp only at hSw)
            go_simp
            all_goals with_reducible rfl
          (try simp only [Act.put, List.setIfInBounds_toArray, List.set_cons_zero, List.set_cons_succ])
          refine wpAnyH_take (i := 9) (oi := ⟨some 26, _, _, _, _, _⟩) (v := ?_) rfl (by kernel_rfl) (by kernel_rfl) (by kernel_rfl) (fun _ _ _ h => h) (Or.inl ⟨by rfl, ?_⟩) (by assumption) ?_
          rotate_left 1
          · intro w hSw
            (try dsimp only at hSw)
            go_simp
            all_goals with_reducible rfl
          (try simp only [Act.put, List.setIfInBounds_toArray, List.set_cons_zero, List.set_cons_succ])
          refine wpAnyH_take (i := 10) (oi := ⟨some 27, _, _, _, _, _⟩) (v := ?_) rfl (by kernel_rfl) (by kernel_rfl) (by kernel_rfl) (fun _ _ _ h => h) (Or.inl ⟨by rfl, ?_⟩) (by assumption) ?_
          rotate_left 1
          · intro w hSw
            (try dsimp only at hSw)
            go_simp
            all_goals with_reducible rfl
          (try simp only [Act.put, List.setIfInBounds_toArray, List.set_cons_zero, List.set_cons_succ])
          refine wpAnyH_take (i := 11) (oi := ⟨some 28, _, _, _, _, _⟩) (v := ?_) rfl (by kernel_rfl) (by kernel_rfl) (by kernel_rfl) (fun _ _ _ h => h) (Or.inl ⟨by rfl, ?_⟩) (by assumption) ?_
          rotate_left 1
          · intro w hSw
            (try dsimp only at hSw)
            go_simp
            all_goals with_reducible rfl
          (try simp only [Act.put, List.setIfInBounds_toArray, List.set_cons_zero, List.set_cons_succ])
          refine wpAnyH_take (i := 12) (oi := ⟨some 29, _, _, _, _, _⟩) (v := ?_) rfl (by kernel_rfl) (by kernel_rfl) (by kernel_rfl) (fun _ _ _ h => h) (Or.inl ⟨by rfl, ?_⟩) (by assumption) ?_
          rotate_left 1
          · intro w hSw
            (try dsimp only at hSw)
            go_simp
            all_goals with_reducible rfl
          (try simp only [Act.put, List.setIfInBounds_toArray, List.set_cons_zero, List.set_cons_succ])
          refine wpAnyH_take (i := 13) (oi := ⟨some 30, _, _, _, _, _⟩) (v := ?_) rfl (by kernel_rfl) (by kernel_rfl) (by kernel_rfl) (fun _ _ _ h => h) (Or.inl ⟨by rfl, ?_⟩) (by assumption) ?_
          rotate_left 1
          · intro w hSw
            (try dsimp only at hSw)
            go_simp
            (try rw [IntWalk.i64_in _ (by omega)])
            all_goals with_reducible rfl
          (try simp only [Act.put, List.setIfInBounds_toArray, List.set_cons_zero, List.set_cons_succ])
          refine wpAnyH_take (i := 14) (oi := ⟨some 31, _, _, _, _, _⟩) (v := ?_) rfl (by kernel_rfl) (by kernel_rfl) (by kernel_rfl) (fun _ _ _ h => h) (Or.inl ⟨by rfl, ?_⟩) (by assumption) ?_
          rotate_left 1
          · intro w hSw
            (try dsimp only at hSw)
            go_simp
            all_goals with_reducible rfl
          (try simp only [Act.put, List.setIfInBounds_toArray, List.set_cons_zero, List.set_cons_succ])
          refine wpAnyH_take (i := 15) (oi := ⟨some 32, _, _, _, _, _⟩) (v := ?_) rfl (by kernel_rfl) (by kernel_rfl) (by kernel_rfl) (fun _ _ _ h => h) (Or.inl ⟨by rfl, ?_⟩) (by assumption) ?_
          rotate_left 1
          · intro w hSw
            (try dsimp only at hSw)
            go_simp
            all_goals with_reducible rfl
          (try simp only [Act.put, List.setIfInBounds_toArray, List.set_cons_zero, List.set_cons_succ])
          refine wpAnyH_take (i := 16) (oi := ⟨some 33, _, _, _, _, _⟩) (v := ?_) rfl (by kernel_rfl) (by kernel_rfl) (by kernel_rfl) (fun _ _ _ h => h) (Or.inl ⟨by rfl, ?_⟩) (by assumption) ?_
          rotate_left 1
          · intro w hSw
            (try dsimp only at hSw)
            go_simp
            all_goals with_reducible rfl
          (try simp only [Act.put, List.setIfInBounds_toArray, List.set_cons_zero, List.set_cons_succ])
          refine wpAnyH_take (i := 17) (oi := ⟨some 34, _, _, _, _, _⟩) (v := ?_) rfl (by kernel_rfl) (by kernel_rfl) (by kernel_rfl) (fun _ _ _ h => h) (Or.inl ⟨by rfl, ?_⟩) (by assumption) ?_
          rotate_left 1
          · intro w hSw
            (try dsimp only at hSw)
            go_simp
            all_goals with_reducible rfl
          (try simp only [Act.put, List.setIfInBounds_toArray, List.set_cons_zero, List.set_cons_succ])
          refine wpAnyH_ready (rs := [18]) (by kernel_rfl) (by simp) ?_
          refine AllReadyH.cons (o := _) rfl (fun K hK => ?_) ?_
          · go_simp
            with_reducible refine (cC _).out.mono ?_
            rintro e V2 ⟨rfl, hV2⟩
            refine hK.out _ _ ?_ (fun hHeld => ?_)
            · exact ⟨on_cell hV2 q1, on_cell hV2 q0, on_cell hV2 c0, on_cell hV2 c1, on_cell hV2 c2, on_cell hV2 d0, on_cell hV2 d1, on_cell hV2 d2⟩
            clear hK K
            (try simp only [Act.put, List.setIfInBounds_toArray, List.set_cons_zero, List.set_cons_succ])
            refine wpAnyH_take (i := 19) (oi := ⟨some 36, _, _, _, _, _⟩) (v := ?_) rfl (by kernel_rfl) (by kernel_rfl) (by kernel_rfl) (fun _ _ _ h => h) (Or.inl ⟨by rfl, ?_⟩) (by assumption) ?_
            rotate_left 1
            · intro w hSw
              (try dsimp only at hSw)
              go_simp
              all_goals with_reducible rfl
            (try simp only [Act.put, List.setIfInBounds_toArray, List.set_cons_zero, List.set_cons_succ])
            refine wpAnyH_take (i := 20) (oi := ⟨some 37, _, _, _, _, _⟩) (v := ?_) rfl (by kernel_rfl) (by kernel_rfl) (by kernel_rfl) (fun _ _ _ h => h) (Or.inl ⟨by rfl, ?_⟩) (by assumption) ?_
            rotate_left 1
            · intro w hSw
              (try dsimp only at hSw)
              go_simp
              all_goals with_reducible rfl
            (try simp only [Act.put, List.setIfInBounds_toArray, List.set_cons_zero, List.set_cons_succ])
            refine wpAnyH_done (by kernel_rfl) ?_ _
            refine NoPanic.normal ?_
            clear hHeld
            have HB2 : Hid (Below w.heap.size w V2) := Lib.hid (below_chain (below_chain HBj.out Hbd.out) hV2)
            have HW2 := Lib.hid (owns_below HWj.out (below_chain Hbd.out hV2) (Nat.le_refl _))
            have q1 := on_cell hV2 q1
            have q0 := on_cell hV2 q0
            clear hV2 c0 c1 c2 d0 d1 d2 cC
            by_cases hc : cm < 0
            · have f1 := (own_int (an : Int) HW2.out (j := m + 1) (by omega)).2.1
              have f0 := (own_int (k : Int) HW2.out (j := m) (by omega)).2.1
              have HF : Hid (∀ V, V = (V2.setCell ⟨g, m + 1, none⟩ (.int .i64 (an : Int))).setCell ⟨g, m, none⟩ (.int .i64 (k : Int)) → Hid (Below w.heap.size w V) ∧ Hid (V.ownsRow w.heap.size 3 1 (.slice (some ⟨g, 0, none⟩) (k + 1) vc3) (k + 1) ((A' ++ (k : Int) :: (an : Int) :: B).map (Value.int .i64)))) := Lib.hid (fun V hV => by
                have o1 := (own_int (an : Int) HW2.out (j := m + 1) (by omega)).1
                have o2 := (own_int (k : Int) o1 (j := m) (by omega)).1
                rw [Hm.out, swap_lists] at o2
                subst hV
                exact ⟨Lib.hid ((HB2.out.setCell (p := ⟨g, m + 1, none⟩) hgl _).setCell (p := ⟨g, m, none⟩) hgl _), Lib.hid (by rw [Hm.out]; exact o2)⟩)
              have HN3 : Hid (InsK cs k A' ((an : Int) :: B)) := Lib.hid (HN2.out.step (by rw [← Hcm.out]; exact hc))
              have hw3 : IntKind.i64.wrap (m : Int) = (m : Int) := IntWalk.i64_in _ (by omega)
              go_wp2_with fail
              generalize hV : World.setCell _ _ _ = V5
              obtain ⟨HB5, HW5⟩ := HF.out V5 hV.symm
              clear hV HF hw3
              go_roundw
              case rel => exact ⟨m, A', (an : Int) :: B, by go_num, by omega, Hm, HN3, HB5, HW5⟩
              case measure => simp [intOf]
            · have HX : Hid (OrdK cs (k + 1) (A' ++ [(an : Int)] ++ (k : Int) :: B)) := Lib.hid (HN2.out.fin HN.out (by rw [← HCN.out]; exact hlt) (fun a ha => by
                simp at ha
                rw [← ha, ← Hcm.out]
                exact hc))
              have HLX : Hid ((A' ++ [(an : Int)] ++ (k : Int) :: B).length = k + 1) := Lib.hid HX.out.len
              go_wp2_with fail
              go_roundw
              case rel =>
                refine ⟨k + 1, A' ++ [(an : Int)] ++ (k : Int) :: B, by go_num, by omega, HB2, HX, Lib.hid ?_⟩
                rw [HLX.out]
                exact HW2.out
              case measure => simp [intOf]; omega
          exact AllReadyH.nil
    · have hke : k = CN := by omega
      subst hke
      have hz := HB.out.size
      go_wp2_with fail
      go_ret
      refine ⟨_, l, rfl, ?_, HW.out, HB.out⟩
      rw [← HCN.out]
      exact HO.out
/-- lists of the call's own, each with a block of its own -/
def OutE (B : Nat) (w : World) (v : Value) (ls : List (List Int)) : Prop := ∃ hs : List Value, w.ownsRow B 22 1 v ls.length hs ∧ ∀ (i : Nat) xs, ls[i]? = some xs → ∃ u, hs[i]? = some u ∧ w.ownsRow B 3 1 u xs.length (xs.map (Value.int .i64))
theorem OutE.nil (B : Nat) (w : World) : OutE B w (.slice none 0 0) [] := ⟨[], World.ownsRow_nil _ _ _ _, fun i xs h => by simp at h⟩
theorem OutE.shape {B : Nat} {w : World} {v : Value} {ls : List (List Int)} (h : OutE B w v ls) : ∃ a c, v = .slice a ls.length c := by
  obtain ⟨hs, h1, -⟩ := h
  exact owns_shape' h1
theorem OutE.chg {B tb : Nat} {vb : Option Nat} {w V : World} {v : Value} {ls : List (List Int)} (h : OutE B w v ls) (k : Chg tb vb w V) (h1 : ∀ g cur, B ≤ g → (w.heap[g]? = some (.cells cur 22 (0, 0)) ∨ w.heap[g]? = some (.cells cur 3 (0, 0))) → g ≠ tb ∧ vb ≠ some g) : OutE B V v ls := by
  obtain ⟨hs, q1, q2⟩ := h
  refine ⟨hs, k.owns q1 (fun g cur hg hc => h1 g cur (q1.lt g hg).1 (.inl hc)), fun i xs hx => ?_⟩
  obtain ⟨u, k1, k2⟩ := q2 i xs hx
  exact ⟨u, k1, k.owns k2 (fun g cur hg hc => h1 g cur (k2.lt g hg).1 (.inr hc))⟩
theorem OutE.below {B : Nat} {w V : World} {v : Value} {ls : List (List Int)} (h : OutE B w v ls) (hb : Below w.heap.size w V) : OutE B V v ls := by
  obtain ⟨hs, q1, q2⟩ := h
  refine ⟨hs, owns_below q1 hb (Nat.le_refl _), fun i xs hx => ?_⟩
  obtain ⟨u, k1, k2⟩ := q2 i xs hx
  exact ⟨u, k1, owns_below k2 hb (Nat.le_refl _)⟩
theorem OutE.push {B : Nat} {w V0 V1 : World} {v v' u : Value} {ls : List (List Int)} {xs : List Int} (h : OutE B w v ls) (hb : Below w.heap.size w V0) (hg : V0.grownBy V1 v.ownBlock) (hv' : ∀ hs, w.ownsRow B 22 1 v ls.length hs → V1.ownsRow B 22 1 v' (ls.length + 1) (hs ++ [u])) (hu : w.ownsRow B 3 1 u xs.length (xs.map (Value.int .i64))) : OutE B V1 v' (ls ++ [xs]) := by
  obtain ⟨hs, q1, q2⟩ := h
  have hl : hs.length = ls.length := by have := q1.1; omega
  have kp : ∀ {y : Value} {n : Nat} {zs : List Value}, w.ownsRow B 3 1 y n zs → V1.ownsRow B 3 1 y n zs := fun {y n zs} hy => owns_block hy (fun g hgy => by
    obtain ⟨cur, hc⟩ := own_typ hy hgy
    have hlt := (hy.lt g hgy).2
    rw [hg.block g (Nat.lt_of_lt_of_le hlt hb.size) (fun e => by
      obtain ⟨cur2, hc2⟩ := own_typ q1 e.symm
      exact typ_ne hc hc2 (by decide) rfl), hb.block g hlt])
  refine ⟨hs ++ [u], by rw [List.length_append]; exact hv' hs q1, fun i ys hi => ?_⟩
  by_cases hlt : i < ls.length
  · rw [List.getElem?_append_left hlt] at hi
    obtain ⟨y, k1, k2⟩ := q2 i ys hi
    exact ⟨y, by rw [List.getElem?_append_left (by omega)]; exact k1, kp k2⟩
  · have hie : i = ls.length := by
      have := (List.getElem?_eq_some_iff.1 hi).1
      simp at this
      omega
    subst hie
    rw [List.getElem?_append_right (Nat.le_refl _)] at hi
    simp at hi
    subst hi
    exact ⟨u, by rw [List.getElem?_append_right (by omega)]; simp [hl], kp hu⟩
theorem OutE.lists {B : Nat} {w : World} {a : Option Addr} {n c : Nat} {ls : List (List Int)} (h : OutE B w (.slice a n c) ls) : ListsV w a ls := by
  obtain ⟨hs, q1, q2⟩ := h
  rcases owns_form q1 with ⟨h0, h1, _⟩ | ⟨g, cap, h5, _, _, _, _, _, hc, _⟩
  · exact .inl (List.eq_nil_of_length_eq_zero h1)
  · cases h5
    refine .inr ⟨g, 0, rfl, fun i l hl => ?_⟩
    obtain ⟨u, k1, k2⟩ := q2 i l hl
    obtain ⟨ai, ci, rfl, hI⟩ := ints_of_row k2
    exact ⟨ai, ci, by rw [Nat.zero_add]; exact hc _ _ k1, hI⟩
end Mt
end Go.Proofs.Ytkejjiohkhlnnaa

namespace Go.Proofs.Ytkejjiohkhlnnaa
open Go.RowKit
namespace Mt
open Sq (Oth)

theorem made_z (n : Nat) : madeCells #[Value.int .i64 0] n = Array.replicate n (Value.int .i64 0) := by
  apply Array.ext
  · simp [madeCells]
  · intro i h1 h2
    simp [madeCells, Nat.mod_one]
theorem make_ints (n : Nat) (h : n ≤ 16) (w : World) : (Instr.makeSlice 22 (.int .i64 n) (.int .i64 n)).run Try.prog w = .ok (.slice (some ⟨w.heap.size, 0, none⟩) n n) (w.alloc (.cells (Array.replicate n (Value.int .i64 0)) 3)) := by
  obtain ⟨i0, hi, hz0, hz1, hz2⟩ := info_parts info3
  have hr := run_makeSlice (P := Try.prog) w 22 3 i0 _ Try.underlying22 hi hz0 .i64 .i64 n n (by omega) (Int.le_refl _) (by rw [hz1]; simp; omega) (by rw [hz2]; omega) (by omega)
  simp only [Int.toNat_natCast] at hr
  have e : madeCells (Value.int .i64 0).cells (n * i0.size) = Array.replicate n (Value.int .i64 0) := by
    rw [hz1, Nat.mul_one]
    exact made_z n
  rw [e] at hr
  exact hr
theorem own_made (w : World) (n : Nat) (h : n ≤ 16) : (w.alloc (.cells (Array.replicate n (Value.int .i64 0)) 3)).ownsRow w.heap.size 3 1 (.slice (some ⟨w.heap.size, 0, none⟩) n n) n ((List.replicate n (0 : Int)).map (Value.int .i64)) := by
  refine ⟨by simp, .inr ⟨w.heap.size, n, _, rfl, Nat.le_refl _, World.alloc_heap_new w _, Nat.le_refl _, by unfold maxLen; omega, by simp, ?_⟩⟩
  rw [List.map_replicate, Nat.mul_one]
  simp
def natI (tl : List Nat) : List Int := tl.map (fun (x : Nat) => (x : Int))
/-- the state of Every: the digits, what was found so far -/
structure ESt (W2 : World) (tb NV : Nat) (tl : List Nat) (u : Value) (ls : List (List Int)) (w : World) : Prop where
  oth : Oth tb W2 w
  turn : w.ownsRow tb 3 1 (.slice (some ⟨tb, 0, none⟩) NV NV) NV ((natI tl).map (Value.int .i64))
  out : OutE W2.heap.size w u ls
/-- the digits, read from memory -/
def turnOf (w : World) (tb : Nat) : List Nat := match w.heap[tb]? with
  | some (.cells cs _ _) => cs.toList.map (fun v => (intOf v).toNat)
  | _ => []
section
variable {W2 w V V0 V1 : World} {tb NV : Nat} {tl : List Nat} {u v' : Value} {ls : List (List Int)}
theorem ESt.digits (h : ESt W2 tb NV tl u ls w) : turnOf w tb = tl := by
  rcases h.turn.2 with ⟨h0, -⟩ | ⟨g, cap, cur, h5, hg, hc, hnc, hcm, hsz, ht⟩
  · cases h0
  · injection h5 with h5 h6 h7
    injection h5 with h5
    injection h5 with h5
    subst h5
    subst h7
    rw [Nat.mul_one] at hsz ht
    rw [List.take_of_length_le (by simp [hsz])] at ht
    unfold turnOf
    rw [hc]
    simp only [ht, natI, List.map_map]
    have e : ((fun v => (intOf v).toNat) ∘ Value.int IntKind.i64 ∘ fun (x : Nat) => (x : Int)) = id := by
      funext x
      simp [intOf]
    rw [e, List.map_id]
theorem ESt.below (h : ESt W2 tb NV tl u ls w) (hb : Below w.heap.size w V) : ESt W2 tb NV tl u ls V := ⟨h.oth.trans (.below hb), owns_below h.turn hb (Nat.le_refl _), h.out.below hb⟩
theorem ESt.set (h : ESt W2 tb NV tl u ls w) (htb : tb < W2.heap.size) {i : Nat} (hi : i < NV) (x : Nat) : ESt W2 tb NV (tl.set i x) u ls (w.setCell ⟨tb, i, none⟩ (.int .i64 (x : Int))) ∧ w.frozen? ⟨tb, i, none⟩ = false := by
  obtain ⟨k1, k2, -, -⟩ := own_int (x : Int) h.turn hi
  refine ⟨⟨h.oth.trans ⟨rfl, rfl, rfl, by simp, fun j hj hn => Below.heap_setCell _ _ _ _ (fun e => hn e)⟩, by rw [natI, List.map_set]; exact k1, h.out.chg (chg_store w tb i _) (fun g cur hg _ => ⟨by omega, by simp⟩)⟩, k2⟩
theorem ESt.push (h : ESt W2 tb NV tl u ls w) (htb : tb < W2.heap.size) {xs : List Int} {y : Value} (hb : Below w.heap.size w V0) (hg : V0.grownBy V1 u.ownBlock) (hv' : ∀ hs, w.ownsRow W2.heap.size 22 1 u ls.length hs → V1.ownsRow W2.heap.size 22 1 v' (ls.length + 1) (hs ++ [y])) (hy : w.ownsRow W2.heap.size 3 1 y xs.length (xs.map (Value.int .i64))) : ESt W2 tb NV tl v' (ls ++ [xs]) V1 := by
  obtain ⟨hs, q1, -⟩ := id h.out
  have ub : ∀ g, u.ownBlock = some g → W2.heap.size ≤ g := fun g e => (q1.lt g e).1
  have hz := h.oth.size
  have hz2 := hb.size
  refine ⟨⟨(hg.os.trans hb.os).trans h.oth.os, (hg.tape.trans hb.tape).trans h.oth.tape, (hg.output.trans hb.output).trans h.oth.output, Nat.le_trans hz (Nat.le_trans hz2 hg.size), fun j hj hn => ?_⟩, owns_block h.turn (fun g hgt => ?_), h.out.push hb hg hv' hy⟩
  · rw [hg.block j (by omega) (fun e => by have := ub j e.symm; omega), hb.block j (by omega)]
    exact h.oth.keep j hj hn
  · have e : some tb = some g := hgt
    injection e with e
    subst e
    have hlt := (h.turn.lt tb rfl).2
    rw [hg.block tb (by omega) (fun e => by have := ub tb e.symm; omega), hb.block tb hlt]
end
theorem fill_step {s : List Int} {n i : Nat} {y : Int} (hs : s.length = n) (hi : i < n) (hy : s[i]? = some y) : (s.take i ++ List.replicate (n - i) 0).set i y = s.take (i + 1) ++ List.replicate (n - (i + 1)) 0 := by
  have hl : (s.take i).length = i := by rw [List.length_take]; omega
  rw [take_snoc' hy, List.set_append_right _ _ (by omega), hl, Nat.sub_self]
  obtain ⟨m, hm⟩ : ∃ m, n - i = m + 1 := ⟨n - i - 1, by omega⟩
  have hm2 : n - (i + 1) = m := by omega
  rw [hm, hm2, List.replicate_succ, List.set_cons_zero]
  simp
theorem zero_step (A : List Nat) (a s : Nat) : (A ++ [a] ++ List.replicate s 0).set A.length 0 = A ++ List.replicate (s + 1) 0 := by
  rw [List.append_assoc, List.set_append_right _ _ (Nat.le_refl _), Nat.sub_self]
  simp [List.replicate_succ]
theorem succ_step (A : List Nat) (a s : Nat) : (A ++ [a] ++ List.replicate s 0).set A.length (a + 1) = A ++ (a + 1) :: List.replicate s 0 := by
  rw [List.append_assoc, List.set_append_right _ _ (Nat.le_refl _), Nat.sub_self]
  simp
theorem allE_small {order : List Int} {sat : List Int → Bool} {d v k : Nat} (hk : k ≤ 152587890625) : (allE order sat d v k).length ≤ 152587890625 := by
  unfold allE
  refine Nat.le_trans (List.length_filter_le _ _) ?_
  rw [List.length_map, List.length_range]
  exact hk
theorem pow_small {d v : Nat} (hd : d ≤ 5) (hv : v ≤ 16) : d ^ v ≤ 152587890625 := by
  have h1 : d ^ v ≤ 5 ^ v := Nat.pow_le_pow_left hd v
  have h2 : 5 ^ v ≤ 5 ^ 16 := Nat.pow_le_pow_right (by omega) hv
  have h3 : (5 : Nat) ^ 16 = 152587890625 := by decide
  omega
def EveryEnd (ls : List (List Int)) (w : World) (e : Ending) (w' : World) : Prop := ∃ v, e = .returned v ∧ OutE w.heap.size w' v ls ∧ Below w.heap.size w w'
set_option linter.unusedSimpArgs false in
set_option maxHeartbeats 16000000 in
set_option maxRecDepth 100000 in
theorem every_any {n0 n1 m sb B : Nat} (T : WorldV) (rows : List Row) (w : World) (hS : StoreL n0 n1 m T.ar rows sb w) (hT : TameW B w T) (hr : ∀ r ∈ rows, IdsIn T.cs.length r.2) :
    Calls Try.prog 13 #[.pointer (some ⟨sb, 0, none⟩), .agg T.cells] w (EveryEnd (pre rows T.cs T.R (condsL T.R).length) w) := by
  obtain ⟨W0, hW0⟩ : ∃ V, V = w.alloc (.cells T.cells 34) := ⟨_, rfl⟩
  obtain ⟨b3, hb3⟩ : ∃ b, b = w.heap.size := ⟨_, rfl⟩
  have hb0 : Below w.heap.size w W0 := by rw [hW0]; exact (Below.refl _ _).alloc (Nat.le_refl _) _
  have hq3 : W0.heap[b3]? = some (.cells T.cells 34 (0, 0)) := by rw [hW0, hb3]; exact World.alloc_heap_new w _
  have cO := Lib.hid (byOrder_any T.ca T.cc T.cs W0 ((hT.below hb0).con) hT.conOk.1.once hT.conOk.2.2)
  have hsat : ∀ (x : List Int) (xa : Option Addr) (xc : Nat) (V : World), Below w.heap.size w V → Ints V xa x → x.length = T.R.nv → IdsIn T.cs.length x → Hid (Calls Try.prog 43 #[.pointer (some ⟨sb, 0, none⟩), .agg T.cells, .slice xa x.length xc] V fun e w' => e = .returned (.bool (satB rows T.cs T.R x)) ∧ Below V.heap.size V w') := fun x xa xc V hV hx hl hi => Lib.hid (satisfies_any T rows x xa xc V (hS.below hV) (hT.below hV) hx hl hi _ rfl)
  have HSat := Lib.hid hsat
  have HPl := Lib.hid (fun order (ho : Ordered T.cs order) => every_plain hr hS.sound.1 hT.ruleOk hT.conOk.1.once ho hT.conOk.2.1)
  obtain ⟨PE, hPE⟩ : ∃ P, P = pre rows T.cs T.R (condsL T.R).length := ⟨_, rfl⟩
  rw [← hPE] at HPl ⊢
  obtain ⟨⟨y0, y1, y2⟩, ⟨y3, y4, y5, y6, y7, y8, y9⟩, y10⟩ := world_cells hq3
  have HW0 : Hid (W0 = w.alloc (.cells #[.slice T.aa T.ar.length T.ac, .slice T.ra T.rows.length T.rc, .slice T.ca T.cs.length T.cc, .int .i64 T.R.hp, .slice T.R.ha T.R.hn T.R.hc, .slice T.R.pa T.R.pos.length T.R.pc, .slice T.R.ta T.R.tests.length T.R.tc, .slice T.R.na T.R.neg.length T.R.nc, .slice T.R.va T.R.nv T.R.vc, .int .i64 T.R.cl, .int .i64 T.K] 34)) := Lib.hid hW0
  have Hb3 := Lib.hid hb3
  have Hb0 := Lib.hid hb0
  have HCo := Lib.hid hT.conOk
  have HRo := Lib.hid hT.ruleOk
  simp only [WorldV.cells] at HSat ⊢
  clear hW0 hb3 hb0 hq3 hS hT hr hsat hPE
  go_enter Try.func13, Try.ntmps13
  go_upto_region 1 with fail
  rw [← HW0.out, ← Hb3.out]
  go_upto_region 2 with (first | (go_at_call 42; (with_reducible refine cO.out.mono ?_); rintro e W1 ⟨ov, order, rfl, hord, hown, hbo⟩))
  obtain ⟨CN, hCN⟩ : ∃ n, n = order.length := ⟨_, rfl⟩
  have hCl : CN = T.cs.length := by rw [hCN]; exact hord.len
  have hCN5 : 1 ≤ CN ∧ CN ≤ 5 := by rw [hCl]; exact HCo.out.2
  obtain ⟨go, oc, hov, hgl⟩ : ∃ g c, ov = .slice (some ⟨g, 0, none⟩) order.length c ∧ W0.heap.size ≤ g := by
    rcases owns_form hown with ⟨-, h0, -⟩ | ⟨g, cap, h5, hb, -⟩
    · omega
    · exact ⟨g, cap, h5, hb⟩
  subst hov
  rw [← hCN]
  have HOwn := Lib.hid hown
  have HOrd := Lib.hid (OrdK.ordered hord)
  have HCl := Lib.hid hCl
  have HCN := Lib.hid hCN
  have HBo := Lib.hid hbo
  have y0 := on_cell hbo y0
  have y1 := on_cell hbo y1
  have y2 := on_cell hbo y2
  have y3 := on_cell hbo y3
  have y4 := on_cell hbo y4
  have y5 := on_cell hbo y5
  have y6 := on_cell hbo y6
  have y7 := on_cell hbo y7
  have y8 := on_cell hbo y8
  have y9 := on_cell hbo y9
  have y10 := on_cell hbo y10
  obtain ⟨NV, hNV⟩ : ∃ n, n = T.R.nv := ⟨_, rfl⟩
  have hNV16 : NV ≤ 16 := by rw [hNV]; exact HRo.out.vars
  rw [← hNV] at y8
  have HNV := Lib.hid hNV
  have HY := Lib.hid (And.intro y0 (And.intro y1 (And.intro y2 (And.intro y3 (And.intro y4 (And.intro y5 (And.intro y6 (And.intro y7 (And.intro y8 (And.intro y9 y10))))))))))
  clear hCN hCl hgl hord hown hbo hNV cO y0 y1 y2 y3 y4 y5 y6 y7 y9 y10
  have hNVi : (0 : Int) ≤ (NV : Int) := by omega
  have hNVi2 : (NV : Int) ≤ 16 := by omega
  have hmk := fun W => make_ints NV hNV16 W
  go_upto_block 0 with fail
  obtain ⟨W2, hW2⟩ : ∃ V, V = W1.alloc (.cells (Array.replicate NV (Value.int .i64 0)) 3) := ⟨_, rfl⟩
  obtain ⟨tb, htb⟩ : ∃ b, b = W1.heap.size := ⟨_, rfl⟩
  rw [← hW2, ← htb]
  have hb12 : Below W1.heap.size W1 W2 := by rw [hW2]; exact (Below.refl _ _).alloc (Nat.le_refl _) _
  have htbl : tb < W2.heap.size := by rw [hW2, htb]; simp
  have hE0 : ESt W2 tb NV (List.replicate NV 0) (.slice none 0 0) [] W2 := by
    refine ⟨Oth.refl _ _, ?_, OutE.nil _ _⟩
    have h := own_made W1 NV hNV16
    rw [← hW2, ← htb] at h
    have e : natI (List.replicate NV 0) = List.replicate NV (0 : Int) := by simp [natI]
    rw [e]
    exact h
  have HE0 := Lib.hid hE0
  have Htb := Lib.hid (And.intro htb htbl)
  have HB12 := Lib.hid hb12
  clear hW2 htb hb12 htbl hE0 y8
  -- the substitutions that are told for digits, and what was found below some digits
  obtain ⟨sat, hsat⟩ : ∃ s, s = satB rows T.cs T.R := ⟨_, rfl⟩
  have Hsat := Lib.hid hsat
  clear hsat
  go_wp2_with fail
  go_loopw [7] (fun u wr => ∃ (tl : List Nat) (ls : List (List Int)), Hid (tl.length = NV ∧ ∀ x ∈ tl, x < CN) ∧ Hid (ls = allE order sat CN NV (valD CN tl)) ∧ Hid (ESt W2 tb NV tl u ls wr)) (fun _ wr => CN ^ NV - valD CN (turnOf wr tb))
  case atStart =>
    refine ⟨List.replicate NV 0, [], Lib.hid ⟨by simp, fun x hx => by rw [List.mem_replicate] at hx; omega⟩, Lib.hid ?_, HE0⟩
    rw [val_zeros]
    rfl
  case round =>
    clear HE0
    obtain ⟨tl, ls, HTl, HLs, HE⟩ := hrel
    obtain ⟨ua, uc, rfl⟩ := HE.out.out.shape
    obtain ⟨wo, hwo⟩ : ∃ V, V = wr := ⟨_, rfl⟩
    subst hwo
    rw [← HNV.out] at HSat
    go_upto_block 2 with fail
    obtain ⟨Wa, hWa⟩ : ∃ V, V = wo.alloc (.cells (Array.replicate NV (Value.int .i64 0)) 3) := ⟨_, rfl⟩
    obtain ⟨sbk, hsb⟩ : ∃ b, b = wo.heap.size := ⟨_, rfl⟩
    rw [← hWa, ← hsb]
    have hba : Below wo.heap.size wo Wa := by rw [hWa]; exact (Below.refl _ _).alloc (Nat.le_refl _) _
    have hz := HE.out.oth.size
    have hS0 : Wa.ownsRow W2.heap.size 3 1 (.slice (some ⟨sbk, 0, none⟩) NV NV) NV ((List.replicate NV (0 : Int)).map (Value.int .i64)) := by
      rw [hWa, hsb]
      exact owns_base (own_made wo NV hNV16) hz
    have HS0 := Lib.hid hS0
    have HBa := Lib.hid hba
    have Hsb : Hid (sbk = wo.heap.size ∧ W2.heap.size ≤ sbk) := Lib.hid ⟨hsb, by omega⟩
    have hsl : (subD order tl).length = NV := by unfold subD; rw [List.length_map]; exact HTl.out.1
    obtain ⟨sx, hsx⟩ : ∃ s, s = subD order tl := ⟨_, rfl⟩
    rw [← hsx] at hsl
    have Hsx := Lib.hid (And.intro hsx hsl)
    clear hWa hsb hba hz hS0 hsl hsx hmk
    go_cut [] (fun w' => Hid (Below wo.heap.size wo w') ∧ Hid (w'.ownsRow W2.heap.size 3 1 (.slice (some ⟨sbk, 0, none⟩) NV NV) NV (sx.map (Value.int .i64))))
    case first =>
      go_wp2_with fail
      go_loopw [25] (fun t w' => ∃ (i : Nat), t = .int .i64 i ∧ i ≤ NV ∧ Hid (Below wo.heap.size wo w') ∧ Hid (w'.ownsRow W2.heap.size 3 1 (.slice (some ⟨sbk, 0, none⟩) NV NV) NV ((sx.take i ++ List.replicate (NV - i) 0).map (Value.int .i64)))) (fun t _ => NV - (intOf t).toNat)
      case atStart => exact ⟨0, rfl, Nat.zero_le _, HBa, Lib.hid (by simpa using HS0.out)⟩
      case round =>
        obtain ⟨i, rfl, hiN, HBi, HSi⟩ := hrel
        by_cases hlt : i < NV
        · obtain ⟨x, hx⟩ : ∃ x, x = tl[i]'(by rw [HTl.out.1]; exact hlt) := ⟨_, rfl⟩
          have hxi : tl[i]? = some x := by rw [hx]; exact List.getElem?_eq_getElem _
          have hxC : x < CN := HTl.out.2 x (List.mem_of_getElem? hxi)
          obtain ⟨y, hy⟩ : ∃ y, y = order[x]'(by rw [← HCN.out]; exact hxC) := ⟨_, rfl⟩
          have hyi : order[x]? = some y := by rw [hy]; exact List.getElem?_eq_getElem _
          have hsy : sx[i]? = some y := by
            rw [Hsx.out.1]
            unfold subD
            rw [List.getElem?_map, hxi, Option.map_some, List.getD_eq_getElem?_getD, hyi]
            rfl
          have c0 := own_cell (j := i) (x := (x : Int)) (HE.out.below HBi.out).turn (by unfold natI; rw [List.getElem?_map, hxi]; rfl)
          have hgo : go < W1.heap.size := (HOwn.out.lt go rfl).2
          have d0 : wr.cell? ⟨go, x, none⟩ = some (.int .i64 y) := on_cell HBi.out (HE.out.oth.cell (on_cell HB12.out (by
            have h := HOwn.out
            rw [← HCN.out] at h
            exact own_cell (j := x) (x := y) h hyi)) (by have := Htb.out; omega))
          obtain ⟨-, f0, -, -⟩ := own_int y HSi.out hlt
          have hlt2 : (sx.take i).length = i := by rw [List.length_take, Hsx.out.2]; omega
          have s0 := own_cell (j := i) (x := 0) HSi.out (by rw [List.getElem?_append_right (by omega), hlt2, Nat.sub_self, List.getElem?_replicate, if_pos (by omega)])
          clear hlt2
          have HF : Hid (∀ V, V = wr.setCell ⟨sbk, i, none⟩ (.int .i64 y) → Hid (Below wo.heap.size wo V) ∧ Hid (V.ownsRow W2.heap.size 3 1 (.slice (some ⟨sbk, 0, none⟩) NV NV) NV ((sx.take (i + 1) ++ List.replicate (NV - (i + 1)) 0).map (Value.int .i64)))) := Lib.hid (fun V hV => by
            obtain ⟨k1, -⟩ := own_int y HSi.out hlt
            rw [fill_step Hsx.out.2 hlt hsy] at k1
            subst hV
            exact ⟨Lib.hid (HBi.out.setCell (p := ⟨sbk, i, none⟩) (by have := Hsb.out; show wo.heap.size ≤ sbk; omega) _), Lib.hid k1⟩)
          have zi : (0 : Int) ≤ (i : Int) := by omega
          have ziN : (i : Int) < (NV : Int) := by omega
          have zx : (0 : Int) ≤ (x : Int) := by omega
          have zxC : (x : Int) < (CN : Int) := by omega
          clear hx hxi hxC hy hyi hsy hgo
          go_wp2_with fail
          generalize hV : World.setCell _ _ _ = V5
          obtain ⟨HB5, HS5⟩ := HF.out V5 hV.symm
          clear hV HF
          go_roundw
          case rel => exact ⟨i + 1, by go_num, by omega, HB5, HS5⟩
          case measure => simp [intOf]; omega
        · have hie : i = NV := by omega
          subst hie
          have HX : Hid (wr.ownsRow W2.heap.size 3 1 (.slice (some ⟨sbk, 0, none⟩) i i) i (sx.map (Value.int .i64))) := Lib.hid (by
            have h := HSi.out
            rw [Nat.sub_self, List.replicate_zero, List.append_nil, List.take_of_length_le (by rw [Hsx.out.2]; exact Nat.le_refl _)] at h
            exact h)
          go_wp2_with fail
          go_meet
          exact ⟨HBi, HX⟩
    case rest =>
      obtain ⟨HBf, HSf⟩ := hcut
      obtain ⟨Wf, hWf⟩ : ∃ V, V = wc := ⟨_, rfl⟩
      subst hWf
      have hbwo : Below w.heap.size w wo := (below_chain (below_chain Hb0.out HBo.out) HB12.out).trans (HE.out.oth.low (by have := Htb.out; have := (below_chain Hb0.out HBo.out).size; omega) (below_chain (below_chain Hb0.out HBo.out) HB12.out).size)
      have hids : IdsIn T.cs.length sx := by rw [Hsx.out.1]; exact sub_ids HOrd.out (fun x hx => by rw [← HCl.out]; exact HTl.out.2 x hx)
      have hIf : Ints Wf (some ⟨sbk, 0, none⟩) sx := by
        obtain ⟨a, c, h1, h2⟩ := ints_of_row (by have h := HSf.out; rw [← Hsx.out.2] at h; exact h)
        cases h1
        exact h2
      have cS := HSat.out sx (some ⟨sbk, 0, none⟩) NV Wf (below_chain hbwo HBf.out) hIf Hsx.out.2 hids
      obtain ⟨bs, hbs⟩ : ∃ b, b = sat sx := ⟨_, rfl⟩
      rw [← Hsat.out, ← hbs, Hsx.out.2] at cS
      have Hbs := Lib.hid hbs
      have HBwo := Lib.hid hbwo
      have HEf := Lib.hid (HE.out.below HBf.out)
      have hb3t : b3 < W1.heap.size := World.block_lt_of_cell? _ _ HY.out.1
      have up : ∀ {o : Nat} {v : Value}, W1.cell? ⟨b3, o, none⟩ = some v → Wf.cell? ⟨b3, o, none⟩ = some v := fun {o v} h => HEf.out.oth.cell (on_cell HB12.out h) (by have := Htb.out; omega)
      obtain ⟨y0, y1, y2, y3, y4, y5, y6, y7, y8, y9, y10⟩ := HY.out
      have y0 := up y0
      have y1 := up y1
      have y2 := up y2
      have y3 := up y3
      have y4 := up y4
      have y5 := up y5
      have y6 := up y6
      have y7 := up y7
      have y8 := up y8
      have y9 := up y9
      have y10 := up y10
      have hsucc : allE order sat CN NV (valD CN tl + 1) = if sat sx then ls ++ [sx] else ls := by
        rw [HLs.out, Hsx.out.1, ← HTl.out.1]
        exact allE_succ HTl.out.2
      have Hsucc := Lib.hid hsucc
      have hlsl : ls.length ≤ 152587890625 := by
        rw [HLs.out]
        refine allE_small ?_
        have h1 := valD_lt HTl.out.2
        have h2 := pow_small hCN5.2 hNV16
        rw [HTl.out.1] at h1
        omega
      have Hdig : Hid (turnOf wo tb = tl) := Lib.hid HE.out.digits
      clear hbwo hids hIf hbs hb3t up hsucc HE
      go_upto_if 42 with (first | (go_at_call 43; (with_reducible refine cS.out.mono ?_); rintro e V1 ⟨rfl, hV1⟩; have HV1 := Lib.hid hV1; clear hV1))
      have HE1 := Lib.hid (HEf.out.below HV1.out)
      have HS1 := Lib.hid (owns_below HSf.out HV1.out (Nat.le_refl _))
      clear cS y0 y1 y2 y3 y4 y5 y6 y7 y8 y9 y10
      go_cut [7] (fun u w' => ∃ (ls' : List (List Int)), Hid (ls' = allE order sat CN NV (valD CN tl + 1)) ∧ Hid (ESt W2 tb NV tl u ls' w'))
      case first =>
        cases bs with
        | true =>
          obtain ⟨hs0, hho, -⟩ := id HE1.out.out
          have hzz := HE1.out.oth.size
          go_wp2_with (first | (at_builtin; refine wpList_append_any elemInts _ rfl _ _ rfl W2.heap.size _ ls.length hs0 rfl (hho.alloc _) (some ⟨V1.heap.size, 0, none⟩) 1 1 [.slice (some ⟨sbk, 0, none⟩) NV NV] rfl (source_new _ _ _) rfl (by simp [Value.oneCell']) (by unfold maxLen; omega) (by omega) (by simp; omega) ?_; intro v' w2 hown2 hgrow2 hblk2; obtain ⟨va3, vc3, rfl⟩ := owns_shape' hown2; have HP1 := Lib.hid (HE1.out.push Htb.out.2 (xs := sx) (y := .slice (some ⟨sbk, 0, none⟩) NV NV) ((Below.refl _ _).alloc (Nat.le_refl _) _) hgrow2 (fun cells hcc => by rw [owns_same hcc hho]; exact hown2) (by rw [Hsx.out.2]; exact HS1.out)); clear hown2 hgrow2 hblk2))
          go_meet
          exact ⟨ls ++ [sx], Lib.hid (by rw [Hsucc.out, ← Hbs.out]; simp), HP1⟩
        | false =>
          go_wp2_with fail
          go_meet
          exact ⟨ls, Lib.hid (by rw [Hsucc.out, ← Hbs.out]; simp), HE1⟩
      case rest =>
        obtain ⟨ls', HLs', HEg⟩ := hcut
        obtain ⟨ua2, uc2, rfl⟩ := HEg.out.out.shape
        clear HE1 HS1 HV1 HEf HBf HSf HLs Hbs Hsucc hlsl
        have hw1 : IntKind.i64.wrap ((NV : Int) - 1) = (NV : Int) - 1 := IntWalk.i64_in _ (by omega)
        go_upto_block 4 with fail
        clear hw1
        go_cut [11] (fun t w' => ∃ (A : List Nat) (s : Nat), t = .int .i64 ((A.length : Int) - 1) ∧ Hid (A.length + s = NV) ∧ Hid (tl = A ++ List.replicate s (CN - 1)) ∧ Hid (ESt W2 tb NV (A ++ List.replicate s 0) (.slice ua2 ls'.length uc2) ls' w') ∧ Hid (A = [] ∨ ∃ A' a, A = A' ++ [a] ∧ a + 1 < CN))
        case first =>
          go_wp2_with fail
          go_loopw [11] (fun t w' => ∃ (A : List Nat) (s : Nat), t = .int .i64 ((A.length : Int) - 1) ∧ Hid (A.length + s = NV) ∧ Hid (tl = A ++ List.replicate s (CN - 1)) ∧ Hid (ESt W2 tb NV (A ++ List.replicate s 0) (.slice ua2 ls'.length uc2) ls' w')) (fun t _ => (intOf t + 1).toNat)
          case atStart => exact ⟨tl, 0, by rw [HTl.out.1], Lib.hid (by rw [HTl.out.1]; rfl), Lib.hid (by simp), Lib.hid (by simpa using HEg.out)⟩
          case round =>
            clear HEg
            obtain ⟨A, s, rfl, HAs, HTA, HEi⟩ := hrel
            rcases List.eq_nil_or_concat A with hA | ⟨A', a, hA⟩
            · subst hA
              have hi0 : ((([] : List Nat).length : Int) - 1) = -1 := rfl
              rw [hi0]
              go_wp2_with fail
              go_meet
              exact ⟨[], s, rfl, HAs, HTA, HEi, Lib.hid (.inl rfl)⟩
            · rw [List.concat_eq_append] at hA
              subst hA
              obtain ⟨m, hm⟩ : ∃ m, m = A'.length := ⟨_, rfl⟩
              have hAl : (((A' ++ [a]).length : Nat) : Int) - 1 = (m : Int) := by rw [List.length_append, hm]; simp
              rw [hAl]
              have hmN : m < NV := by have := HAs.out; rw [List.length_append, ← hm] at this; simp at this; omega
              have haC : a < CN := HTl.out.2 a (by rw [HTA.out]; simp)
              have c0 := own_cell (j := m) (x := (a : Int)) HEi.out.turn (by unfold natI; rw [List.getElem?_map, hm, List.append_assoc, List.getElem?_append_right (Nat.le_refl _)]; simp)
              have zm : (0 : Int) ≤ (m : Int) := by omega
              have zmN : (m : Int) < (NV : Int) := by omega
              have hwC : IntKind.i64.wrap ((CN : Int) - 1) = (CN : Int) - 1 := IntWalk.i64_in _ (by omega)
              have Hm := Lib.hid hm
              have hle : (A' ++ [a]).length = m + 1 := by rw [List.length_append, hm]; rfl
              have Hle := Lib.hid hle
              clear hm hAl hle
              by_cases hac : a = CN - 1
              · have hac1 : ((a : Int) == (CN : Int) - 1) = true := by simp; omega
                have f0 := (HEi.out.set Htb.out.2 hmN 0).2
                have HF : Hid (∀ V, V = wr.setCell ⟨tb, m, none⟩ (.int .i64 0) → Hid (ESt W2 tb NV (A' ++ List.replicate (s + 1) 0) (.slice ua2 ls'.length uc2) ls' V)) := Lib.hid (fun V hV => by
                  have h := (HEi.out.set Htb.out.2 hmN 0).1
                  rw [Hm.out, zero_step] at h
                  rw [hV, Hm.out]
                  exact Lib.hid h)
                have HT2 : Hid (tl = A' ++ List.replicate (s + 1) (CN - 1)) := Lib.hid (by rw [HTA.out, hac, List.replicate_succ, List.append_assoc]; rfl)
                have HA2 : Hid (A'.length + (s + 1) = NV) := Lib.hid (by have := HAs.out; rw [Hle.out, Hm.out] at this; omega)
                have hwm : IntKind.i64.wrap ((m : Int) - 1) = (m : Int) - 1 := IntWalk.i64_in _ (by omega)
                clear hac
                go_wp2_with fail
                generalize hV : World.setCell _ _ _ = V5
                have HE5 := HF.out V5 hV.symm
                clear hV HF hwm hwC
                go_roundw
                case rel => exact ⟨A', s + 1, by rw [← Hm.out], HA2, HT2, HE5⟩
                case measure => simp [intOf]
              · have hac1 : ((a : Int) == (CN : Int) - 1) = false := by simp; omega
                go_wp2_with fail
                go_meet
                exact ⟨A' ++ [a], s, by rw [Hle.out]; simp, HAs, HTA, HEi, Lib.hid (.inr ⟨A', a, rfl, by omega⟩)⟩
        case rest =>
          obtain ⟨A, s, rfl, HAs, HTA, HEi, HAn⟩ := hcut
          rcases HAn.out with hA | ⟨A', a, hA, haC⟩
          · subst hA
            have hi0 : ((([] : List Nat).length : Int) - 1) = -1 := rfl
            rw [hi0]
            have hsN : s = NV := by have := HAs.out; simpa using this
            have HP : Hid (PE = ls') := Lib.hid (by
              rw [HPl.out order HOrd.out, ← HCl.out, ← HNV.out, ← Hsat.out, HLs'.out, HTA.out, List.nil_append, hsN, val_full hCN5.1])
            clear hsN
            go_wp2_with fail
            go_ret
            refine ⟨_, rfl, ?_, ?_⟩
            · rw [HP.out]
              obtain ⟨hs0, k1, k2⟩ := HEi.out.out
              have hzz : w.heap.size ≤ W2.heap.size := (below_chain (below_chain Hb0.out HBo.out) HB12.out).size
              refine ⟨hs0, owns_base k1 hzz, fun i xs hi => ?_⟩
              obtain ⟨u, q1, q2⟩ := k2 i xs hi
              exact ⟨u, q1, owns_base q2 hzz⟩
            · exact (below_chain (below_chain Hb0.out HBo.out) HB12.out).trans (HEi.out.oth.low (by have := Htb.out; have := (below_chain Hb0.out HBo.out).size; omega) (below_chain (below_chain Hb0.out HBo.out) HB12.out).size)
          · subst hA
            obtain ⟨m, hm⟩ : ∃ m, m = A'.length := ⟨_, rfl⟩
            have hAl : (((A' ++ [a]).length : Nat) : Int) - 1 = (m : Int) := by rw [List.length_append, hm]; simp
            rw [hAl]
            have hmN : m < NV := by have := HAs.out; rw [List.length_append, ← hm] at this; simp at this; omega
            have c0 := own_cell (j := m) (x := (a : Int)) HEi.out.turn (by unfold natI; rw [List.getElem?_map, hm, List.append_assoc, List.getElem?_append_right (Nat.le_refl _)]; simp)
            have zm : (0 : Int) ≤ (m : Int) := by omega
            have zm2 : ¬ ((m : Int) < 0) := by omega
            have zmN : (m : Int) < (NV : Int) := by omega
            have hwa : IntKind.i64.wrap ((a : Int) + 1) = (a : Int) + 1 := IntWalk.i64_in _ (by omega)
            obtain ⟨hset, f0⟩ := HEi.out.set Htb.out.2 hmN (a + 1)
            rw [hm, succ_step] at hset
            have HT2 : Hid (valD CN (A' ++ (a + 1) :: List.replicate s 0) = valD CN tl + 1) := Lib.hid (by
              rw [HTA.out, List.append_assoc]
              exact val_succ hCN5.1 A' a s)
            have HTn : Hid ((A' ++ (a + 1) :: List.replicate s 0).length = NV ∧ ∀ x ∈ A' ++ (a + 1) :: List.replicate s 0, x < CN) := Lib.hid (by
              refine ⟨by have := HAs.out; simp at this ⊢; omega, fun x hx => ?_⟩
              rcases List.mem_append.1 hx with hx | hx
              · exact HTl.out.2 x (by rw [HTA.out]; simp [hx])
              · rcases List.mem_cons.1 hx with rfl | hx
                · exact haC
                · have := (List.mem_replicate.1 hx).2
                  omega)
            have HF : Hid (∀ V, V = wc.setCell ⟨tb, m, none⟩ (.int .i64 ((a : Int) + 1)) → Hid (ESt W2 tb NV (A' ++ (a + 1) :: List.replicate s 0) (.slice ua2 ls'.length uc2) ls' V)) := Lib.hid (fun V hV => by
              rw [hV, hm]
              have e : ((a + 1 : Nat) : Int) = (a : Int) + 1 := by omega
              rw [e] at hset
              exact Lib.hid hset)
            have HLn : Hid (ls' = allE order sat CN NV (valD CN (A' ++ (a + 1) :: List.replicate s 0))) := Lib.hid (by rw [HT2.out]; exact HLs'.out)
            have HMz : Hid (∀ V, ESt W2 tb NV (A' ++ (a + 1) :: List.replicate s 0) (.slice ua2 ls'.length uc2) ls' V → CN ^ NV - valD CN (turnOf V tb) < CN ^ NV - valD CN (turnOf wo tb)) := Lib.hid (fun V hV => by
              rw [hV.digits, HT2.out, Hdig.out]
              have := valD_lt HTl.out.2
              rw [HTl.out.1] at this
              omega)
            clear hm hAl hset
            go_wp2_with fail
            generalize hV : World.setCell _ _ _ = V5
            have HE5 := HF.out V5 hV.symm
            clear hV HF hwa
            go_roundw
            case rel => exact ⟨_, ls', HTn, HLn, HE5⟩
            case measure => exact HMz.out V5 HE5.out
end Mt
end Go.Proofs.Ytkejjiohkhlnnaa

namespace Go.Proofs.Ytkejjiohkhlnnaa
open Go.RowKit
namespace Mt

set_option linter.unusedSimpArgs false in
set_option maxHeartbeats 16000000 in
set_option maxRecDepth 100000 in
theorem matchEvery_any (T0 : WorldV) (w : World) (hin : WorldIn w T0) :
    Calls Try.prog 3 #[.agg T0.cells] w fun e w' => e = .returned (.bool true) ∧ Below w.heap.size w w' := by
  obtain ⟨W0, hW0⟩ : ∃ V, V = w.alloc (.cells T0.cells 34) := ⟨_, rfl⟩
  obtain ⟨b2, hb2⟩ : ∃ b, b = w.heap.size := ⟨_, rfl⟩
  have hb0 : Below w.heap.size w W0 := by rw [hW0]; exact (Below.refl _ _).alloc (Nat.le_refl _) _
  have hq2 : W0.heap[b2]? = some (.cells T0.cells 34 (0, 0)) := by rw [hW0, hb2]; exact World.alloc_heap_new w _
  have cT := Lib.hid (hin.below hb0).tamed
  obtain ⟨⟨x0, x1, x2⟩, ⟨x3, x4, x5, x6, x7, x8, x9⟩, x10⟩ := world_cells hq2
  have HW0 : Hid (W0 = w.alloc (.cells #[.slice T0.aa T0.ar.length T0.ac, .slice T0.ra T0.rows.length T0.rc, .slice T0.ca T0.cs.length T0.cc, .int .i64 T0.R.hp, .slice T0.R.ha T0.R.hn T0.R.hc, .slice T0.R.pa T0.R.pos.length T0.R.pc, .slice T0.R.ta T0.R.tests.length T0.R.tc, .slice T0.R.na T0.R.neg.length T0.R.nc, .slice T0.R.va T0.R.nv T0.R.vc, .int .i64 T0.R.cl, .int .i64 T0.K] 34)) := Lib.hid hW0
  have Hb2 := Lib.hid hb2
  have Hb0 := Lib.hid hb0
  simp only [WorldV.cells] at cT ⊢
  clear hW0 hb2 hb0 hq2 hin
  go_enter Try.func3, Try.ntmps3
  go_upto_region 1 with fail
  rw [← HW0.out, ← Hb2.out]
  clear HW0
  go_upto_region 2 with (first | (go_at_call 11; (with_reducible refine cT.out.mono ?_); rintro e w1 ⟨T, rfl, hT, hb1, -⟩; simp only [WorldV.cells]; have HT1 := Lib.hid hT; have Hb1 := Lib.hid hb1; clear hT hb1))
  obtain ⟨W2, hW2⟩ : ∃ V, V = w1.alloc (.cells #[.slice T.aa T.ar.length T.ac, .slice T.ra T.rows.length T.rc, .slice T.ca T.cs.length T.cc, .int .i64 T.R.hp, .slice T.R.ha T.R.hn T.R.hc, .slice T.R.pa T.R.pos.length T.R.pc, .slice T.R.ta T.R.tests.length T.R.tc, .slice T.R.na T.R.neg.length T.R.nc, .slice T.R.va T.R.nv T.R.vc, .int .i64 T.R.cl, .int .i64 T.K] 34) := ⟨_, rfl⟩
  obtain ⟨b5, hb5⟩ : ∃ b, b = w1.heap.size := ⟨_, rfl⟩
  rw [← hW2, ← hb5]
  have hbw2 : Below w1.heap.size w1 W2 := by rw [hW2]; exact (Below.refl _ _).alloc (Nat.le_refl _) _
  have hq5 : W2.heap[b5]? = some (.cells T.cells 34 (0, 0)) := by rw [hW2, hb5]; exact World.alloc_heap_new w1 _
  have HT := Lib.hid (HT1.out.below hbw2)
  have HB2 : Hid (Below w.heap.size w W2) := Lib.hid (below_chain (below_chain Hb0.out Hb1.out) hbw2)
  obtain ⟨⟨y0, y1, y2⟩, ⟨y3, y4, y5, y6, y7, y8, y9⟩, y10⟩ := world_cells hq5
  clear hW2 hb5 hbw2 hq5 HT1 Hb1 x0 x1 x2 x3 x4 x5 x6 x7 x8 x9 x10 cT
  have cF : Hid (Calls Try.prog 12 #[.agg #[.slice T.aa T.ar.length T.ac, .slice T.ra T.rows.length T.rc, .slice T.ca T.cs.length T.cc, .int .i64 T.R.hp, .slice T.R.ha T.R.hn T.R.hc, .slice T.R.pa T.R.pos.length T.R.pc, .slice T.R.ta T.R.tests.length T.R.tc, .slice T.R.na T.R.neg.length T.R.nc, .slice T.R.va T.R.nv T.R.vc, .int .i64 T.R.cl, .int .i64 T.K]] W2 (FullEnd T W2)) := Lib.hid (full_any T _ W2 HT.out)
  go_upto_region 3 with (first | (go_at_call 12; (with_reducible refine cF.out.mono ?_); rintro e V1 ⟨sb, n1, rfl, h1, hv1⟩; have HS1 := Lib.hid h1; have HB1 := Lib.hid hv1; clear h1 hv1))
  have HT1 := Lib.hid (HT.out.below HB1.out)
  have y0 := on_cell HB1.out y0
  have y1 := on_cell HB1.out y1
  have y2 := on_cell HB1.out y2
  have y3 := on_cell HB1.out y3
  have y4 := on_cell HB1.out y4
  have y5 := on_cell HB1.out y5
  have y6 := on_cell HB1.out y6
  have y7 := on_cell HB1.out y7
  have y8 := on_cell HB1.out y8
  have y9 := on_cell HB1.out y9
  have y10 := on_cell HB1.out y10
  clear cF HT
  obtain ⟨rows, hrows⟩ : ∃ rows, rows = joinedL [] T.rows := ⟨_, rfl⟩
  have HJ : Hid (rows.length ≤ 30 ∧ (∀ r ∈ rows, IdsIn T.cs.length r.2) ∧ rows.Nodup) := Lib.hid (by rw [hrows]; exact ⟨by have := HT1.out.joined.1; omega, HT1.out.joined.2, joinedL_nodup _⟩)
  rw [← hrows] at HS1
  clear hrows
  obtain ⟨P, hP⟩ : ∃ P, P = pre rows T.cs T.R (condsL T.R).length := ⟨_, rfl⟩
  have cE : Hid (Calls Try.prog 13 #[.pointer (some ⟨sb, 0, none⟩), .agg #[.slice T.aa T.ar.length T.ac, .slice T.ra T.rows.length T.rc, .slice T.ca T.cs.length T.cc, .int .i64 T.R.hp, .slice T.R.ha T.R.hn T.R.hc, .slice T.R.pa T.R.pos.length T.R.pc, .slice T.R.ta T.R.tests.length T.R.tc, .slice T.R.na T.R.neg.length T.R.nc, .slice T.R.va T.R.nv T.R.vc, .int .i64 T.R.cl, .int .i64 T.K]] V1 (EveryEnd P V1)) := Lib.hid (by
    rw [hP]
    exact every_any T rows V1 HS1.out HT1.out HJ.out.2.1)
  have hPs : P.length ≤ 1000000 ∧ ∀ x ∈ P, x.length ≤ 1000000 := by rw [hP]; exact pre_small HJ.out.2.1 HT1.out.ruleOk HJ.out.1 HT1.out.lens.1 _
  have HPs := Lib.hid hPs
  have HP := Lib.hid hP
  clear hP hPs
  go_upto_region 4 with (first | (go_at_call 13; (with_reducible refine cE.out.mono ?_); rintro e V2 ⟨v, rfl, hO2, hb2⟩; obtain ⟨a2, c2, rfl⟩ := hO2.shape; have HL2 := Lib.hid hO2.lists; have HB3 := Lib.hid hb2; clear hO2 hb2))
  have y2 := on_cell HB3.out y2
  have y3 := on_cell HB3.out y3
  have y4 := on_cell HB3.out y4
  have y5 := on_cell HB3.out y5
  have y6 := on_cell HB3.out y6
  have y7 := on_cell HB3.out y7
  have y8 := on_cell HB3.out y8
  have y9 := on_cell HB3.out y9
  have y10 := on_cell HB3.out y10
  clear cE y0 y1 y10
  have hT2 := HT1.out.below HB3.out
  have HT2 := Lib.hid hT2
  have cA : Hid (Calls Try.prog 14 #[.pointer (some ⟨sb, 0, none⟩), .slice T.ca T.cs.length T.cc, .agg #[.int .i64 T.R.hp, .slice T.R.ha T.R.hn T.R.hc, .slice T.R.pa T.R.pos.length T.R.pc, .slice T.R.ta T.R.tests.length T.R.tc, .slice T.R.na T.R.neg.length T.R.nc, .slice T.R.va T.R.nv T.R.vc, .int .i64 T.R.cl]] V2 (AllEnd P V2)) := Lib.hid (by
    rw [HP.out]
    exact all_L HS1.out HB3.out T.R hT2.rule T.ca T.cc T.cs hT2.con hT2.ruleOk hT2.conOk.1 HJ.out.1 hT2.lens.1 HJ.out.2.1 hT2.rng)
  clear hT2
  go_upto_region 5 with (first | (go_at_call 14; (with_reducible refine cA.out.mono ?_); rintro e V3 ⟨v, ob, rfl, O3, hb3, -⟩; obtain ⟨a3, c3, rfl, hL3⟩ := O3.lists; have HL3 := Lib.hid hL3; have HB4 := Lib.hid hb3; clear O3 hL3 hb3))
  have y2 := on_cell HB4.out y2
  have y3 := on_cell HB4.out y3
  have y4 := on_cell HB4.out y4
  have y5 := on_cell HB4.out y5
  have y6 := on_cell HB4.out y6
  have y7 := on_cell HB4.out y7
  have y8 := on_cell HB4.out y8
  have y9 := on_cell HB4.out y9
  have hT3 := HT2.out.below HB4.out
  have cP : Hid (Calls Try.prog 15 #[.pointer (some ⟨sb, 0, none⟩), .slice T.ca T.cs.length T.cc, .agg #[.int .i64 T.R.hp, .slice T.R.ha T.R.hn T.R.hc, .slice T.R.pa T.R.pos.length T.R.pc, .slice T.R.ta T.R.tests.length T.R.tc, .slice T.R.na T.R.neg.length T.R.nc, .slice T.R.va T.R.nv T.R.vc, .int .i64 T.R.cl], .int .i64 ((T.R.pos.length : Int) + (T.R.tests.length : Int) + (T.R.neg.length : Int))] V3 (AllEnd P V3)) := Lib.hid (by
    have h0 : ∀ (n : Nat), n = (condsL T.R).length → ∀ z : Int, z = (n : Int) → Calls Try.prog 15 #[.pointer (some ⟨sb, 0, none⟩), .slice T.ca T.cs.length T.cc, .agg T.R.cells, .int .i64 z] V3 (AllEnd (pre rows T.cs T.R n) V3) := by
      rintro n hn z rfl
      exact prefix_L HS1.out (below_chain HB3.out HB4.out) T.R hT3.rule T.ca T.cc T.cs hT3.con hT3.ruleOk hT3.conOk.1 HJ.out.1 hT3.lens.1 HJ.out.2.1 hT3.rng n (by omega)
    rw [HP.out]
    refine h0 _ rfl _ ?_
    rw [conds_len]
    omega)
  obtain ⟨PL, hPL⟩ : ∃ n, n = T.R.pos.length := ⟨_, rfl⟩
  obtain ⟨TL, hTL⟩ : ∃ n, n = T.R.tests.length := ⟨_, rfl⟩
  obtain ⟨GL, hGL⟩ : ∃ n, n = T.R.neg.length := ⟨_, rfl⟩
  have hl1 : PL ≤ 4 := by rw [hPL]; exact hT3.lens.1
  have hl2 : TL ≤ 3 := by rw [hTL]; exact hT3.lens.2.1
  have hl3 : GL ≤ 3 := by rw [hGL]; exact hT3.lens.2.2
  rw [← hPL] at y5
  rw [← hTL] at y6
  rw [← hGL] at y7
  rw [← hPL, ← hTL, ← hGL] at cP
  clear hT3 hPL hTL hGL cA
  have hw1 : IntKind.i64.wrap ((PL : Int) + (TL : Int)) = (PL : Int) + (TL : Int) := IntWalk.i64_in _ (by omega)
  have hw2 : IntKind.i64.wrap ((PL : Int) + (TL : Int) + (GL : Int)) = (PL : Int) + (TL : Int) + (GL : Int) := IntWalk.i64_in _ (by omega)
  go_upto_region 6 with (first | (go_at_call 15; (with_reducible refine cP.out.mono ?_); rintro e V4 ⟨v, ob, rfl, O4, hb4, -⟩; obtain ⟨a4, c4, rfl, hL4⟩ := O4.lists; have HL4 := Lib.hid hL4; have HB5 := Lib.hid hb4; clear O4 hL4 hb4))
  clear hw1 hw2 cP y2 y3 y4 y5 y6 y7 y8 y9
  have HL2' := Lib.hid (HL2.out.below (below_chain HB4.out HB5.out) (Nat.le_refl _))
  have HL3' := Lib.hid (HL3.out.below HB5.out (Nat.le_refl _))
  have cS1 : Hid (Calls Try.prog 16 #[.slice a3 P.length c3, .slice a2 P.length c2] V4 fun e w' => e = .returned (.bool true) ∧ Below V4.heap.size V4 w') := Lib.hid (by
    have h := sameLists_any a3 a2 c3 c2 P P V4 HL3'.out HL2'.out HPs.out.1 HPs.out.2
    simpa using h)
  have cS2 : Hid (∀ V, Below V4.heap.size V4 V → Calls Try.prog 16 #[.slice a4 P.length c4, .slice a2 P.length c2] V fun e w' => e = .returned (.bool true) ∧ Below V.heap.size V w') := Lib.hid (fun V hV => by
    have h := sameLists_any a4 a2 c4 c2 P P V (HL4.out.below hV (Nat.le_refl _)) (HL2'.out.below hV (Nat.le_refl _)) HPs.out.1 HPs.out.2
    simpa using h)
  go_wp2_with (first | (go_at_call 16; (with_reducible refine cS1.out.mono ?_); rintro e w6 ⟨rfl, hb6⟩; have cS3 := Lib.hid (cS2.out w6 hb6)) | (go_at_call 16; (with_reducible refine cS3.out.mono ?_); rintro e w7 ⟨rfl, hb7⟩) | (go_at_call 17; (with_reducible refine (taken_any _).mono ?_); rintro e w8 ⟨rfl, hb8⟩))
  go_ret
  exact ⟨rfl, below_chain (below_chain (below_chain (below_chain (below_chain (below_chain (below_chain HB2.out HB1.out) HB3.out) HB4.out) HB5.out) hb6) hb7) hb8⟩
end Mt
end Go.Proofs.Ytkejjiohkhlnnaa

namespace Go.Proofs.Ytkejjiohkhlnnaa
open Go.RowKit Go.ChangeShapes Go.WideShapes
namespace Mt

theorem cellsInt : Try.prog.cellsOf 3 = 1 := by kernel_rfl
theorem cellsBool : Try.prog.cellsOf 4 = 1 := by kernel_rfl
theorem cellsSlot : Try.prog.cellsOf 58 = 2 := by kernel_rfl
theorem bytesInt : Try.prog.bytesOf 3 = 8 := by kernel_rfl
theorem bytesSlot : Try.prog.bytesOf 58 = 16 := by kernel_rfl

theorem addr_add (b o j : Nat) : (⟨b, o, none⟩ : Addr).add j = ⟨b, o + j, none⟩ := by unfold Addr.add; split <;> simp_all

section
variable {H : Type} {enc : TypeId × Value → H} {W : World} {held : Bool}

/-- a slice of integers, opened: the integers in it, that they fit, and how long its datum is -/
theorem open_intSlice {fuel : Nat} {v : Value} {x : DataW H × List MemPlace} (h : DataW.trod enc Try.prog W 0 (fun _ => true) held fuel 22 [v] = some x) :
    ∃ a c xs, v = .slice a xs.length c ∧ IntSlice W a c xs ∧ (∀ y ∈ xs, (Lit.int .i64 y).wf = true) ∧
      ((x.1 = .nil ∧ xs = []) ∨ ∃ els sp, x.1 = .slice els sp ∧ els.length = xs.length ∧ els.length + sp.length = c ∧ els = xs.map (fun y => .lit (.int .i64 y))) := by
  rcases Deep.open_slice1 Try.underlying22 cellsInt h with ⟨h1, rfl⟩ | ⟨a, len, cap, m, n, V, D, Pl, h1, _, hl, hm, hmm, rfl, hx⟩
  · simp at h1
    subst h1
    exact ⟨none, 0, [], rfl, ⟨.inl rfl, fun _ => ⟨rfl, rfl⟩⟩, by simp, .inl ⟨rfl, rfl⟩⟩
  · simp at h1 hmm
    subst h1; subst hmm
    have hi : ∀ i, i < len → ∃ y, W.cell? (a.add i) = some (.int .i64 y) ∧ D i = .lit (.int .i64 y) ∧ (Lit.int .i64 y).wf = true := by
      intro i hi
      obtain ⟨c1, c2⟩ := hx i (by omega)
      obtain ⟨y, e1, e2, e3⟩ := DataW.trod_int Try.underlying3 c2
      simp at e1
      rw [e1] at c1
      simp only [Prod.mk.injEq] at e2
      exact ⟨y, c1, e2.1, e3⟩
    obtain ⟨f, hf⟩ := Deep.choose_lt (α := Int) hi
    refine ⟨some a, m, (List.range len).map f, by simp, ⟨?_, fun h => by cases h⟩, ?_, .inr ⟨_, _, rfl, by simp, by simp; omega, ?_⟩⟩
    · rcases Nat.eq_zero_or_pos len with h0 | h0
      · exact .inl (by simp [h0])
      · obtain ⟨b, o, sp⟩ := a
        have hs : sp = none := by
          have := World.cell?_spot (hf 0 h0).1
          simpa [Addr.add] using this
        subst hs
        refine .inr ⟨b, o, rfl, fun i hi => ?_⟩
        have hi' : i < len := by simpa using hi
        have := (hf i hi').1
        rw [addr_add] at this
        simpa using this
    · intro y hy
      obtain ⟨i, hi, rfl⟩ := List.mem_map.1 hy
      exact (hf i (by simpa using hi)).2.2
    · rw [List.map_map]
      exact List.map_congr_left fun i hi => (hf i (by simpa using hi)).2.1

/-- a slice of slots, opened -/
theorem open_slotSlice {fuel : Nat} {v : Value} {x : DataW H × List MemPlace} (h : DataW.trod enc Try.prog W 0 (fun _ => true) held fuel 25 [v] = some x) :
    ∃ a c l, v = .slice a l.length c ∧ SlotSlice W a c l ∧ (∀ y ∈ l, (Lit.int .i64 y.2).wf = true) ∧
      ((x.1 = .nil ∧ l = []) ∨ ∃ els sp, x.1 = .slice els sp ∧ els.length = l.length ∧ els.length + sp.length = c) := by
  rcases Deep.open_slice Try.underlying25 h with ⟨h1, rfl⟩ | ⟨a, len, cap, m, n, D, Pl, h1, _, hl, hm, hmm, rfl, hx⟩
  · simp at h1
    subst h1
    exact ⟨none, 0, [], rfl, ⟨.inl rfl, fun _ => ⟨rfl, rfl⟩⟩, by simp, .inl ⟨rfl, rfl⟩⟩
  · simp at h1 hmm
    subst h1; subst hmm
    rw [cellsSlot] at hx
    have hi : ∀ i, i < len → ∃ s : Bool × Int, W.cell? (a.add (i * 2)) = some (.bool s.1) ∧ W.cell? (a.add (i * 2 + 1)) = some (.int .i64 s.2) ∧ (Lit.int .i64 s.2).wf = true := by
      intro i hi
      obtain ⟨cs, c1, c2⟩ := hx i (by omega)
      obtain ⟨_, hlen, hc⟩ := World.cells?_some c1
      match cs, hlen with
      | [u0, u1], _ =>
        obtain ⟨y0, y1, k, _, _, t0, t1⟩ := trod_struct2 Try.underlying58 c2
        have t0' : DataW.trod enc Try.prog W 0 (fun _ => true) held k 4 [u0] = some y0 := by simpa [cellsBool] using t0
        have t1' : DataW.trod enc Try.prog W 0 (fun _ => true) held k 3 [u1] = some y1 := by simpa [cellsInt] using t1
        obtain ⟨bv, e1, _⟩ := DataW.trod_bool Try.underlying4 t0'
        obtain ⟨nv, e2, _, e3⟩ := DataW.trod_int Try.underlying3 t1'
        simp at e1 e2
        subst e1; subst e2
        have g0 := hc 0 (by omega)
        have g1 := hc 1 (by omega)
        refine ⟨(bv, nv), ?_, ?_, e3⟩
        · simpa [Addr.add] using g0
        · rw [Deep.add_add] at g1
          simpa using g1
    obtain ⟨f, hf⟩ := Deep.choose_lt (α := Bool × Int) hi
    refine ⟨some a, m, (List.range len).map f, by simp, ⟨?_, fun h => by cases h⟩, ?_, .inr ⟨_, _, rfl, by simp, by simp; omega⟩⟩
    · rcases Nat.eq_zero_or_pos len with h0 | h0
      · exact .inl (by simp [h0])
      · obtain ⟨b, o, sp⟩ := a
        have hs : sp = none := by
          have := World.cell?_spot (hf 0 h0).1
          simpa [Addr.add] using this
        subst hs
        refine .inr ⟨b, o, rfl, fun i hi => ?_⟩
        have hi' : i < len := by simpa using hi
        obtain ⟨g0, g1, _⟩ := hf i hi'
        rw [addr_add] at g0 g1
        rw [← Nat.add_assoc] at g1
        simpa using And.intro g0 g1
    · intro y hy
      obtain ⟨i, hi, rfl⟩ := List.mem_map.1 hy
      exact (hf i (by simpa using hi)).2.2

end

theorem sized_pattern {H : Type} {ts : List TypeId} {ds : List (DataW H)} {j : Nat} {d0 : DataW H} {els sp : List (DataW H)} (hsz : (DataW.weightsEach Try.prog ts ds).all (· ≤ reachBytes) = true)
    (ht : ts[j]? = some 27) (hd : ds[j]? = some (.agg [d0, .slice els sp])) : (els.length + sp.length) * 16 ≤ 140737488351232 := by
  have := List.all_eq_true.1 hsz _ (DataW.weights_mem_each ht hd ((els.length + sp.length) * Try.prog.bytesOf 58) (by simp [DataW.weights, DataW.weightsEach, Try.underlying27, Try.underlying25]))
  rw [bytesSlot] at this
  exact of_decide_eq_true this
end Mt
end Go.Proofs.Ytkejjiohkhlnnaa

namespace Go.Proofs.Ytkejjiohkhlnnaa
open Go.RowKit Go.ChangeShapes Go.WideShapes
namespace Op

theorem one_le {H : Type} (d : DataW H) : 1 ≤ Rows.uptoBulk d := by
  cases d with
  | lit l => cases l <;> simp [Rows.uptoBulk]
  | nil => simp [Rows.uptoBulk]
  | ptr d => simp [Rows.uptoBulk]
  | slice elems spare => simp [Rows.uptoBulk]
  | agg parts => simp [Rows.uptoBulk]
  | iface t d => simp [Rows.uptoBulk]
  | map entries => simp [Rows.uptoBulk]
  | held h => simp [Rows.uptoBulk]
theorem length_le {H : Type} (l : List (DataW H)) : l.length ≤ Rows.uptoBulkAll l := by
  induction l with
  | nil => simp [Rows.uptoBulkAll]
  | cons x r ih => have := one_le x; simp only [Rows.uptoBulkAll, List.length_cons]; omega
theorem sum_le {H : Type} (n : Nat) (f : Nat → Nat) (D : Nat → DataW H) (h : ∀ i, i < n → f i ≤ Rows.uptoBulk (D i)) : ((List.range n).map f).sum ≤ Rows.uptoBulkAll ((List.range n).map D) := by
  have key : ∀ l : List Nat, (∀ i ∈ l, i < n) → (l.map f).sum ≤ Rows.uptoBulkAll (l.map D) := by
    intro l
    induction l with
    | nil => simp [Rows.uptoBulkAll]
    | cons x r ih =>
      intro hl
      have h1 := h x (hl x (by simp))
      have h2 := ih (fun i hi => hl i (List.mem_cons_of_mem _ hi))
      simp only [List.map_cons, List.sum_cons, Rows.uptoBulkAll]
      omega
  exact key _ (fun i hi => List.mem_range.1 hi)

theorem cellsInt : Try.prog.cellsOf 3 = 1 := by kernel_rfl
theorem cellsInts : Try.prog.cellsOf 22 = 1 := by kernel_rfl
theorem cellsRow : Try.prog.cellsOf 50 = 2 := by kernel_rfl
theorem cellsRows : Try.prog.cellsOf 23 = 1 := by kernel_rfl

theorem addr_add (b o j : Nat) : (⟨b, o, none⟩ : Addr).add j = ⟨b, o + j, none⟩ := by unfold Addr.add; split <;> simp_all
theorem rng_wf {y : Int} (h : (Lit.int .i64 y).wf = true) : Rng y := by
  simp [Lit.wf, IntKind.min, IntKind.max, IntKind.signed, IntKind.bits] at h
  exact ⟨by omega, by omega⟩

section
variable {H : Type} {enc : TypeId × Value → H} {W : World} {held : Bool}

theorem open_ints {fuel : Nat} {v : Value} {x : DataW H × List MemPlace} (h : DataW.trod enc Try.prog W 0 (fun _ => true) held fuel 22 [v] = some x) :
    ∃ a c xs, v = .slice a xs.length c ∧ IntsZ (fun _ => True) W a c xs ∧ (∀ y ∈ xs, Rng y) ∧ xs.length ≤ maxLen ∧ xs.length ≤ Rows.uptoBulk x.1 := by
  rcases Deep.open_slice1 Try.underlying22 cellsInt h with ⟨h1, rfl⟩ | ⟨a, len, cap, m, n, V, D, Pl, h1, _, hl, hm, hmm, rfl, hx⟩
  · simp at h1
    subst h1
    exact ⟨none, 0, [], rfl, ⟨.inl rfl, fun _ => ⟨rfl, rfl⟩⟩, by simp, by simp, by simp⟩
  · simp at h1 hmm
    subst h1; subst hmm
    have hi : ∀ i, i < len → ∃ y, W.cell? (a.add i) = some (.int .i64 y) ∧ (Lit.int .i64 y).wf = true := by
      intro i hi
      obtain ⟨c1, c2⟩ := hx i (by omega)
      obtain ⟨y, e1, e2, e3⟩ := DataW.trod_int Try.underlying3 c2
      simp at e1
      rw [e1] at c1
      exact ⟨y, c1, e3⟩
    obtain ⟨f, hf⟩ := Deep.choose_lt (α := Int) hi
    refine ⟨some a, m, (List.range len).map f, by simp, ⟨?_, fun h => by cases h⟩, ?_, by simp; omega, ?_⟩
    · rcases Nat.eq_zero_or_pos len with h0 | h0
      · exact .inl (by simp [h0])
      · obtain ⟨b, o, sp⟩ := a
        have hs : sp = none := by
          have := World.cell?_spot (hf 0 h0).1
          simpa [Addr.add] using this
        subst hs
        refine .inr ⟨b, o, rfl, trivial, fun i hi => ?_⟩
        have hi' : i < len := by simpa using hi
        have := (hf i hi').1
        rw [addr_add] at this
        simpa using this
    · intro y hy
      obtain ⟨i, hi, rfl⟩ := List.mem_map.1 hy
      exact rng_wf (hf i (by simpa using hi)).2
    · have := length_le ((List.range len).map D)
      simp only [Rows.uptoBulk, List.length_map, List.length_range] at this ⊢
      omega

theorem open_rows {fuel : Nat} {v : Value} {x : DataW H × List MemPlace} (h : DataW.trod enc Try.prog W 0 (fun _ => true) held fuel 23 [v] = some x) :
    ∃ a c l, v = .slice a l.length c ∧ RowsZ (fun _ => True) W a c l ∧ (∀ r ∈ l, RowOk r) ∧ l.length ≤ maxLen ∧ l.length ≤ Rows.uptoBulk x.1 := by
  rcases Deep.open_slice Try.underlying23 h with ⟨h1, rfl⟩ | ⟨a, len, cap, m, n, D, Pl, h1, _, hl, hm, hmm, rfl, hx⟩
  · simp at h1
    subst h1
    exact ⟨none, 0, [], rfl, ⟨.inl rfl, fun _ => ⟨rfl, rfl⟩⟩, by simp, by simp, by simp⟩
  · simp at h1 hmm
    subst h1; subst hmm
    rw [cellsRow] at hx
    have hi : ∀ i, i < len → ∃ s : Int × Option Addr × Nat × List Int, W.cell? (a.add (i * 2)) = some (.int .i64 s.1) ∧ W.cell? (a.add (i * 2 + 1)) = some (.slice s.2.1 s.2.2.2.length s.2.2.1) ∧ IntsZ (fun _ => True) W s.2.1 s.2.2.1 s.2.2.2 ∧ RowOk (s.1, s.2.2.2) := by
      intro i hi
      obtain ⟨cs, c1, c2⟩ := hx i (by omega)
      obtain ⟨_, hlen, hc⟩ := World.cells?_some c1
      match cs, hlen with
      | [u0, u1], _ =>
        obtain ⟨y0, y1, k, _, _, t0, t1⟩ := trod_struct2 Try.underlying50 c2
        have t0' : DataW.trod enc Try.prog W 0 (fun _ => true) held k 3 [u0] = some y0 := by simpa [cellsInt] using t0
        have t1' : DataW.trod enc Try.prog W 0 (fun _ => true) held k 22 [u1] = some y1 := by simpa [cellsInts] using t1
        obtain ⟨nv, e2, _, e3⟩ := DataW.trod_int Try.underlying3 t0'
        obtain ⟨ai, ci, xs, e4, hI, hR, hml, _⟩ := open_ints t1'
        simp at e2
        subst e2; subst e4
        have g0 := hc 0 (by omega)
        have g1 := hc 1 (by omega)
        refine ⟨(nv, ai, ci, xs), ?_, ?_, hI, rng_wf e3, by unfold maxLen at hml; simpa using hml, hR⟩
        · simpa [Addr.add] using g0
        · rw [Deep.add_add] at g1
          simpa using g1
    obtain ⟨f, hf⟩ := Deep.choose_lt (α := Int × Option Addr × Nat × List Int) hi
    refine ⟨some a, m, (List.range len).map (fun i => ((f i).1, (f i).2.2.2)), by simp, ⟨?_, fun h => by cases h⟩, ?_, by simp; omega, ?_⟩
    · rcases Nat.eq_zero_or_pos len with h0 | h0
      · exact .inl (by simp [h0])
      · obtain ⟨b, o, sp⟩ := a
        have hs : sp = none := by
          have := World.cell?_spot (hf 0 h0).1
          simpa [Addr.add] using this
        subst hs
        refine .inr ⟨b, o, rfl, trivial, fun i hi => ?_⟩
        have hi' : i < len := by simpa using hi
        obtain ⟨g0, g1, g2, _⟩ := hf i hi'
        rw [addr_add] at g0 g1
        rw [← Nat.add_assoc] at g1
        refine ⟨by simpa using g0, (f i).2.1, (f i).2.2.1, by simpa using g1, by simpa using g2⟩
    · intro y hy
      obtain ⟨i, hi, rfl⟩ := List.mem_map.1 hy
      exact (hf i (by simpa using hi)).2.2.2
    · have := length_le ((List.range len).map D)
      simp only [Rows.uptoBulk, List.length_map, List.length_range] at this ⊢
      omega

end
end Op
end Go.Proofs.Ytkejjiohkhlnnaa

namespace Go.Proofs.Ytkejjiohkhlnnaa
open Go.RowKit Go.ChangeShapes Go.WideShapes
namespace Ow
open Mt

theorem cellsInt64 : Try.prog.cellsOf 2 = 1 := by kernel_rfl
theorem cellsString : Try.prog.cellsOf 9 = 1 := by kernel_rfl
theorem cellsBool : Try.prog.cellsOf 4 = 1 := by kernel_rfl
theorem cellsInt : Try.prog.cellsOf 3 = 1 := by kernel_rfl
theorem cellsSlot : Try.prog.cellsOf 58 = 2 := by kernel_rfl
theorem cellsConst : Try.prog.cellsOf 65 = 3 := by kernel_rfl
theorem cellsTest : Try.prog.cellsOf 60 = 5 := by kernel_rfl
theorem cellsPat : Try.prog.cellsOf 27 = 2 := by kernel_rfl
theorem cellsRule : Try.prog.cellsOf 32 = 7 := by kernel_rfl
theorem cellsWorld : Try.prog.cellsOf 34 = 11 := by kernel_rfl
theorem cellsSlots : Try.prog.cellsOf 25 = 1 := by kernel_rfl
theorem cellsPats : Try.prog.cellsOf 28 = 1 := by kernel_rfl
theorem cellsTests : Try.prog.cellsOf 29 = 1 := by kernel_rfl
theorem cellsStrs : Try.prog.cellsOf 30 = 1 := by kernel_rfl
theorem cellsInts : Try.prog.cellsOf 22 = 1 := by kernel_rfl
theorem cellsRows : Try.prog.cellsOf 23 = 1 := by kernel_rfl
theorem cellsConsts : Try.prog.cellsOf 24 = 1 := by kernel_rfl
section
variable {H : Type} {enc : TypeId × Value → H} {W : World} {held : Bool}
/-- a slice's elements, cell by cell: a list of what each is -/
theorem open_list {α : Type} [Inhabited α] {t e : TypeId} {size : Nat} {fuel : Nat} {v : Value} {x : DataW H × List MemPlace} (ht : Try.prog.underlying t = some (.slice e)) (hs : Try.prog.cellsOf e = size) (hs1 : 1 ≤ size) (P : α → List Value → Prop) (hP : ∀ k cs y, cs.length = size → DataW.trod enc Try.prog W 0 (fun _ => true) held k e cs = some y → ∃ z, P z cs)
    (h : DataW.trod enc Try.prog W 0 (fun _ => true) held fuel t [v] = some x) :
    ∃ a c, ∃ l : List α, v = .slice a l.length c ∧ l.length ≤ maxLen ∧ (l = [] ∨ ∃ b off, a = some ⟨b, off, none⟩ ∧ ∀ (i : Nat) z, l[i]? = some z → ∃ cs, cs.length = size ∧ P z cs ∧ ∀ j u, cs[j]? = some u → W.cell? ⟨b, off + i * size + j, none⟩ = some u) := by
  rcases Deep.open_slice ht h with ⟨h1, rfl⟩ | ⟨a, len, cap, m, n, D, Pl, h1, _, hl, hm, hmm, rfl, hx⟩
  · simp at h1
    subst h1
    exact ⟨none, 0, [], rfl, Nat.zero_le _, .inl rfl⟩
  · simp at h1 hmm
    subst h1; subst hmm
    rw [hs] at hx
    have hi : ∀ i, i < len → ∃ z : α × List Value, z.2.length = size ∧ P z.1 z.2 ∧ ∀ j u, z.2[j]? = some u → W.cell? (a.add (i * size + j)) = some u := by
      intro i hi
      obtain ⟨cs, c1, c2⟩ := hx i (by omega)
      obtain ⟨_, hlen, hc⟩ := World.cells?_some c1
      obtain ⟨z, hz⟩ := hP _ _ _ hlen c2
      refine ⟨(z, cs), hlen, hz, fun j u hu => ?_⟩
      have hu : cs[j]? = some u := hu
      have hj : j < size := by have := (List.getElem?_eq_some_iff.1 hu).1; omega
      have g := hc j hj
      rw [Deep.add_add] at g
      rw [g]
      exact hu
    obtain ⟨f, hf⟩ := Deep.choose_lt (α := α × List Value) hi
    refine ⟨some a, m, (List.range len).map (fun i => (f i).1), by simp, by simp; omega, ?_⟩
    rcases Nat.eq_zero_or_pos len with h0 | h0
    · exact .inl (by simp [h0])
    · obtain ⟨b, o, sp⟩ := a
      have hsp : sp = none := by
        obtain ⟨q1, q2, q3⟩ := hf 0 h0
        have hl0 : 0 < (f 0).2.length := by omega
        have := World.cell?_spot (q3 0 _ (List.getElem?_eq_getElem hl0))
        simpa [Addr.add] using this
      subst hsp
      refine .inr ⟨b, o, rfl, fun i z hz => ?_⟩
      have hil : i < len := by simpa using (List.getElem?_eq_some_iff.1 hz).1
      obtain ⟨q1, q2, q3⟩ := hf i hil
      rw [List.getElem?_map, List.getElem?_range hil] at hz
      simp at hz
      subst hz
      refine ⟨(f i).2, q1, q2, fun j u hu => ?_⟩
      have := q3 j u hu
      rw [addr_add, ← Nat.add_assoc] at this
      exact this
set_option maxRecDepth 100000 in
theorem read_slot {k : Nat} {cs : List Value} {y : DataW H × List MemPlace} (hl : cs.length = 2) (h : DataW.trod enc Try.prog W 0 (fun _ => true) held k 58 cs = some y) : ∃ s : Sl, cs = [.bool s.1, .int .i64 s.2] := by
  match cs, hl with
  | [u0, u1], _ =>
    obtain ⟨y0, y1, n, _, _, t0, t1⟩ := trod_struct2 Try.underlying58 h
    have t0' : DataW.trod enc Try.prog W 0 (fun _ => true) held n 4 [u0] = some y0 := by simpa [cellsBool] using t0
    have t1' : DataW.trod enc Try.prog W 0 (fun _ => true) held n 3 [u1] = some y1 := by simpa [cellsInt] using t1
    obtain ⟨bv, e1, _⟩ := DataW.trod_bool Try.underlying4 t0'
    obtain ⟨nv, e2, _, e3⟩ := DataW.trod_int Try.underlying3 t1'
    simp at e1 e2
    subst e1; subst e2
    exact ⟨(bv, nv), rfl⟩
theorem open_slots {fuel : Nat} {v : Value} {x : DataW H × List MemPlace} (h : DataW.trod enc Try.prog W 0 (fun _ => true) held fuel 25 [v] = some x) : ∃ a c l, v = .slice a l.length c ∧ Slots W a l ∧ l.length ≤ maxLen := by
  obtain ⟨a, c, l, h1, h2, h3⟩ := open_list (α := Sl) Try.underlying25 cellsSlot (by omega) (fun s cs => cs = [.bool s.1, .int .i64 s.2]) (fun k cs y hl hy => read_slot hl hy) h
  refine ⟨a, c, l, h1, ?_, h2⟩
  rcases h3 with h3 | ⟨b, off, e, hc⟩
  · exact .inl h3
  · refine .inr ⟨b, off, e, fun i hi => ?_⟩
    obtain ⟨cs, _, rfl, q⟩ := hc i _ (List.getElem?_eq_getElem hi)
    exact ⟨q 0 _ rfl, q 1 _ rfl⟩
set_option maxRecDepth 100000 in
theorem read_const {k : Nat} {cs : List Value} {y : DataW H × List MemPlace} (hl : cs.length = 3) (h : DataW.trod enc Try.prog W 0 (fun _ => true) held k 65 cs = some y) : ∃ c : C3, cs = [.int .i64 c.1, .int .i64 c.2.1, .string c.2.2] ∧ C3Ok c := by
  match cs, hl with
  | [u0, u1, u2], _ =>
    obtain ⟨y0, y1, y2, n, _, _, t0, t1, t2⟩ := Deep.trod_struct3 Try.underlying65 h
    have t0' : DataW.trod enc Try.prog W 0 (fun _ => true) held n 3 [u0] = some y0 := by simpa [cellsInt] using t0
    have t1' : DataW.trod enc Try.prog W 0 (fun _ => true) held n 2 [u1] = some y1 := by simpa [cellsInt64] using t1
    have t2' : DataW.trod enc Try.prog W 0 (fun _ => true) held n 9 [u2] = some y2 := by simpa [cellsString] using t2
    obtain ⟨kv, e0, _, w0⟩ := DataW.trod_int Try.underlying3 t0'
    obtain ⟨nv, e1, _, w1⟩ := DataW.trod_int Try.underlying2 t1'
    obtain ⟨sv, e2, _, w2⟩ := DataW.trod_string Try.underlying9 t2'
    simp at e0 e1 e2
    subst e0; subst e1; subst e2
    exact ⟨(kv, nv, sv), rfl, Op.rng_wf w0, Op.rng_wf w1, by unfold maxLen; exact w2⟩
theorem open_consts {fuel : Nat} {v : Value} {x : DataW H × List MemPlace} (h : DataW.trod enc Try.prog W 0 (fun _ => true) held fuel 24 [v] = some x) : ∃ a c l, v = .slice a l.length c ∧ Consts W a l ∧ (∀ z ∈ l, C3Ok z) ∧ l.length ≤ maxLen := by
  obtain ⟨a, c, l, h1, h2, h3⟩ := open_list (α := C3) Try.underlying24 cellsConst (by omega) (fun s cs => cs = [.int .i64 s.1, .int .i64 s.2.1, .string s.2.2] ∧ C3Ok s) (fun k cs y hl hy => read_const hl hy) h
  refine ⟨a, c, l, h1, ?_, ?_, h2⟩
  · rcases h3 with h3 | ⟨b, off, e, hc⟩
    · exact .inl h3
    · refine .inr ⟨b, off, e, fun i hi => ?_⟩
      obtain ⟨cs, _, ⟨rfl, _⟩, q⟩ := hc i _ (List.getElem?_eq_getElem hi)
      exact ⟨q 0 _ rfl, q 1 _ rfl, q 2 _ rfl⟩
  · intro z hz
    rcases h3 with h3 | ⟨b, off, e, hc⟩
    · rw [h3] at hz; cases hz
    · obtain ⟨i, hi⟩ := List.mem_iff_getElem?.1 hz
      obtain ⟨cs, _, ⟨_, q⟩, _⟩ := hc i z hi
      exact q
set_option maxRecDepth 100000 in
theorem read_pat {k : Nat} {cs : List Value} {y : DataW H × List MemPlace} (hl : cs.length = 2) (h : DataW.trod enc Try.prog W 0 (fun _ => true) held k 27 cs = some y) : ∃ p : Pat, ∃ a c, cs = [.int .i64 p.1, .slice a p.2.length c] ∧ Slots W a p.2 ∧ p.2.length ≤ maxLen := by
  match cs, hl with
  | [u0, u1], _ =>
    obtain ⟨y0, y1, n, _, _, t0, t1⟩ := trod_struct2 Try.underlying27 h
    have t0' : DataW.trod enc Try.prog W 0 (fun _ => true) held n 3 [u0] = some y0 := by simpa [cellsInt] using t0
    have t1' : DataW.trod enc Try.prog W 0 (fun _ => true) held n 25 [u1] = some y1 := by simpa [cellsSlots] using t1
    obtain ⟨nv, e0, _, _⟩ := DataW.trod_int Try.underlying3 t0'
    obtain ⟨a, c, l, rfl, q1, q2⟩ := open_slots t1'
    simp at e0
    subst e0
    exact ⟨(nv, l), a, c, rfl, q1, q2⟩
theorem open_pats {fuel : Nat} {v : Value} {x : DataW H × List MemPlace} (h : DataW.trod enc Try.prog W 0 (fun _ => true) held fuel 28 [v] = some x) : ∃ a c l, v = .slice a l.length c ∧ Pats W a l := by
  obtain ⟨a, c, l, h1, h2, h3⟩ := open_list (α := Pat) Try.underlying28 cellsPat (by omega) (fun p cs => ∃ a c, cs = [.int .i64 p.1, .slice a p.2.length c] ∧ Slots W a p.2 ∧ p.2.length ≤ maxLen) (fun k cs y hl hy => read_pat hl hy) h
  refine ⟨a, c, l, h1, ?_⟩
  rcases h3 with h3 | ⟨b, off, e, hc⟩
  · exact .inl h3
  · refine .inr ⟨b, off, e, fun i p hp => ?_⟩
    obtain ⟨cs, _, ⟨sa, sc, rfl, hs, _⟩, q⟩ := hc i p hp
    exact ⟨q 0 _ rfl, sa, sc, q 1 _ rfl, hs⟩
set_option maxRecDepth 100000 in
theorem read_test {k : Nat} {cs : List Value} {y : DataW H × List MemPlace} (hl : cs.length = 5) (h : DataW.trod enc Try.prog W 0 (fun _ => true) held k 60 cs = some y) : ∃ t : Tst, cs = [.int .i64 t.1, .bool t.2.1.1, .int .i64 t.2.1.2, .bool t.2.2.1, .int .i64 t.2.2.2] := by
  match cs, hl with
  | [u0, u1, u2, u3, u4], _ =>
    obtain ⟨y0, y1, y2, n, _, _, t0, t1, t2⟩ := Deep.trod_struct3 Try.underlying60 h
    have t0' : DataW.trod enc Try.prog W 0 (fun _ => true) held n 3 [u0] = some y0 := by simpa [cellsInt] using t0
    have t1' : DataW.trod enc Try.prog W 0 (fun _ => true) held n 58 [u1, u2] = some y1 := by simpa [cellsInt, cellsSlot] using t1
    have t2' : DataW.trod enc Try.prog W 0 (fun _ => true) held n 58 [u3, u4] = some y2 := by simpa [cellsInt, cellsSlot] using t2
    obtain ⟨op, e0, _, _⟩ := DataW.trod_int Try.underlying3 t0'
    obtain ⟨s1, e1⟩ := read_slot (by rfl) t1'
    obtain ⟨s2, e2⟩ := read_slot (by rfl) t2'
    simp at e0 e1 e2
    obtain ⟨rfl, rfl⟩ := e1
    obtain ⟨rfl, rfl⟩ := e2
    subst e0
    exact ⟨(op, s1, s2), rfl⟩
theorem open_tests {fuel : Nat} {v : Value} {x : DataW H × List MemPlace} (h : DataW.trod enc Try.prog W 0 (fun _ => true) held fuel 29 [v] = some x) : ∃ a c l, v = .slice a l.length c ∧ Tsts W a l := by
  obtain ⟨a, c, l, h1, h2, h3⟩ := open_list (α := Tst) Try.underlying29 cellsTest (by omega) (fun t cs => cs = [.int .i64 t.1, .bool t.2.1.1, .int .i64 t.2.1.2, .bool t.2.2.1, .int .i64 t.2.2.2]) (fun k cs y hl hy => read_test hl hy) h
  refine ⟨a, c, l, h1, ?_⟩
  rcases h3 with h3 | ⟨b, off, e, hc⟩
  · exact .inl h3
  · refine .inr ⟨b, off, e, fun i p hp => ?_⟩
    obtain ⟨cs, _, rfl, q⟩ := hc i p hp
    exact ⟨q 0 _ rfl, q 1 _ rfl, q 2 _ rfl, q 3 _ rfl, q 4 _ rfl⟩
theorem open_strs {fuel : Nat} {v : Value} {x : DataW H × List MemPlace} (h : DataW.trod enc Try.prog W 0 (fun _ => true) held fuel 30 [v] = some x) : ∃ a n c, v = .slice a n c := by
  rcases Deep.open_slice Try.underlying30 h with ⟨h1, rfl⟩ | ⟨a, len, cap, m, n, D, Pl, h1, _⟩
  · simp at h1; exact ⟨none, 0, 0, h1⟩
  · simp at h1; exact ⟨_, _, _, h1⟩
set_option maxRecDepth 100000 in
/-- a rule's cells, read; its head's slots too -/
theorem read_rule {k : Nat} {cs : List Value} {y : DataW H × List MemPlace} (hl : cs.length = 7) (h : DataW.trod enc Try.prog W 0 (fun _ => true) held k 32 cs = some y) : ∃ (R : RuleV) (hs : List Sl), cs = R.cells.toList ∧ RuleIn W R ∧ R.hn = hs.length ∧ Slots W R.ha hs ∧ hs.length ≤ maxLen := by
  match cs, hl with
  | [u0, u1, u2, u3, u4, u5, u6], _ =>
    obtain ⟨xs, n, _, hD, hl7, hlx, hf⟩ := DataW.trod_struct Try.underlying32 h
    match xs, hlx with
    | [y0, y1, y2, y3, y4, y5], _ =>
      have t0 := hf 0 _ rfl
      have t1 := hf 1 _ rfl
      have t2 := hf 2 _ rfl
      have t3 := hf 3 _ rfl
      have t4 := hf 4 _ rfl
      have t5 := hf 5 _ rfl
      simp [cellsPat, cellsPats, cellsTests, cellsStrs, cellsInt] at t0 t1 t2 t3 t4 t5
      obtain ⟨hd, ha, hc, e0, hS, hm⟩ := read_pat (by rfl) t0
      obtain ⟨pa, pc, pos, rfl, hP⟩ := open_pats t1
      obtain ⟨ta, tc, ts, rfl, hT⟩ := open_tests t2
      obtain ⟨na, nc, ns, rfl, hN⟩ := open_pats t3
      obtain ⟨va, nv, vc, rfl⟩ := open_strs t4
      obtain ⟨cl, e5, _, _⟩ := DataW.trod_int Try.underlying3 t5
      simp at e0 e5
      obtain ⟨rfl, rfl⟩ := e0
      subst e5
      exact ⟨⟨hd.1, ha, hd.2.length, hc, pa, pc, pos, ta, tc, ts, na, nc, ns, va, nv, vc, cl⟩, hd.2, rfl, ⟨hP, hT, hN⟩, rfl, hS, hm⟩
set_option maxRecDepth 100000 in
/-- a world that is handed in -/
theorem open_world {r : Reach} {b0 : Nat} {v : Value} {d : DataW H} {p : List MemPlace} (hv : Value.okWide Try.prog W r b0 34 v) (h : DataW.Trod enc Try.prog W 0 (fun _ => true) held 34 v d p) :
    ∃ (T : WorldV) (hs : List Sl), v = .agg T.cells ∧ WorldIn W T ∧ T.R.hn = hs.length ∧ Slots W T.R.ha hs ∧ hs.length ≤ maxLen ∧ (∀ x ∈ T.ar, Rng x) := by
  obtain ⟨cs, rfl, hsz⟩ := okWide_struct Try.underlying34 hv
  rw [cellsWorld] at hsz
  obtain ⟨cs⟩ := cs
  match cs, hsz with
  | [u0, u1, u2, u3, u4, u5, u6, u7, u8, u9, u10], _ =>
    obtain ⟨fuel, hf⟩ := h
    obtain ⟨xs, n, _, hD, hl5, hlx, hf⟩ := DataW.trod_struct Try.underlying34 hf
    match xs, hlx with
    | [y0, y1, y2, y3, y4], _ =>
      have t0 := hf 0 _ rfl
      have t1 := hf 1 _ rfl
      have t2 := hf 2 _ rfl
      have t3 := hf 3 _ rfl
      have t4 := hf 4 _ rfl
      simp [Value.cells, cellsInts, cellsRows, cellsConsts, cellsRule, cellsInt] at t0 t1 t2 t3 t4
      obtain ⟨aa, ac, ar, rfl, hA, hAr, _, _⟩ := Op.open_ints t0
      obtain ⟨ra, rc, rows, rfl, hR, _, _, _⟩ := Op.open_rows t1
      obtain ⟨ca, cc, cs, rfl, hC, hCo, hCm⟩ := open_consts t2
      obtain ⟨R, hs, e3, hRu, hh, hSl, hm⟩ := read_rule (by rfl) t3
      obtain ⟨K, e4, _, _⟩ := DataW.trod_int Try.underlying3 t4
      simp at e4
      subst e4
      simp [RuleV.cells] at e3
      obtain ⟨rfl, rfl, rfl, rfl, rfl, rfl, rfl⟩ := e3
      exact ⟨⟨aa, ac, ar, ra, rc, rows, ca, cc, cs, R, K⟩, hs, rfl, ⟨hA.ints, hR, hC, hCo, hRu, hCm⟩, hh, hSl, hm, hAr⟩
set_option maxRecDepth 100000 in
/-- a pattern that is handed in -/
theorem open_pattern {r : Reach} {b0 : Nat} {v : Value} {d : DataW H} {p : List MemPlace} (hv : Value.okWide Try.prog W r b0 27 v) (h : DataW.Trod enc Try.prog W 0 (fun _ => true) held 27 v d p) :
    ∃ (q : Pat) (a : Option Addr) (c : Nat), v = .agg #[.int .i64 q.1, .slice a q.2.length c] := by
  obtain ⟨cs, rfl, hsz⟩ := okWide_struct Try.underlying27 hv
  rw [cellsPat] at hsz
  obtain ⟨cs⟩ := cs
  obtain ⟨fuel, hf⟩ := h
  obtain ⟨q, a, c, e, _, _⟩ := read_pat (by simpa using hsz) (by simpa [Value.cells] using hf)
  exact ⟨q, a, c, by rw [e]⟩
end
end Ow
end Go.Proofs.Ytkejjiohkhlnnaa

namespace Go.Proofs.Ytkejjiohkhlnnaa.matchEveryLaw
open Go.ChangeShapes Go.WideShapes Go.ChangeAt Go.RowKit Go.Joins
open Go.ChangeMaps (open_string shut_string)

theorem own : ownKnob Try.prog.godebug = none := by kernel_rfl
theorem laidOut : laidOutB Try.prog = true := by kernel_rfl

set_option maxRecDepth 100000 in
theorem lifted (os : Os) (started : os.Started) (H : Type) (enc : TypeId × Value → H) :
    ReturnsInHanded {} Try.checked os 3 .any (Rows.matchEverySpec.pre6 enc Try.prog Try.f3 Rows.matchEveryRow.domain false) (Rows.matchEverySpec.post enc Try.prog Try.f3 false true false false) := by
  refine returnsInHanded_of_change_sized (C := Try.checked) own started (by kernel_rfl) Try.func3
    (ChangeSpec.witness6 (enc := enc) (C := Try.checked) false ⟨#[], #[.agg #[.slice none 0 0, .slice none 0 0, .slice none 0 0, .int .i64 0, .slice none 0 0, .slice none 0 0, .slice none 0 0, .slice none 0 0, .slice none 0 0, .int .i64 0, .int .i64 0]], []⟩ 8 (by kernel_rfl) (by kernel_rfl) (by kernel_rfl) (by kernel_rfl)) ?_
  intro W base args ds gs before hval0 hW _ hsz0 _
  have hsz : (DataW.weightsEach Try.prog (Try.f3.params.toList ++ Rows.matchEverySpec.plain.varTypes Try.prog) (ds ++ gs)).all (· ≤ reachBytes) = true := hsz0
  clear hsz0
  have hval : ∀ (j : Nat) t v, Try.f3.params[j]? = some t → args[j]? = some v → Value.okWide Try.prog W .any base t v := hval0
  have hW' := hW
  obtain ⟨p, q, hA0, hV, rfl, hfz, hnd⟩ := hW
  have hA : DataW.TrodAll enc Try.prog W 0 (fun _ => true) true Try.f3.params.toList args.toList ds p := hA0
  rw [Try.params3] at hA hval hsz
  obtain ⟨v0, vs0, d0, ds0, p0, q0, hargs, rfl, rfl, h0, r0⟩ := trodAll_cons hA
  obtain ⟨rfl, rfl, rfl⟩ := trodAll_nil r0
  obtain rfl : args = #[v0] := by cases args; simp_all
  obtain ⟨rfl, rfl⟩ := trodVars_none hV
  have k0 := h0
  have lt0 : ∀ x ∈ p0, x.block < W.heap.size := by obtain ⟨m, hm⟩ := k0; exact DataW.trod_lt m _ _ _ hm
  obtain ⟨T0, hd0, rfl, I0, dn0, ds0', dm0, ra0⟩ := Ow.open_world (hval 0 34 v0 rfl rfl) h0
  clear hA0 hval0
  simp only [List.append_nil] at hW'
  refine (Mt.matchEvery_any T0 W I0).mono fun e W' ⟨he, bel⟩ => ?_
  subst he
  exact ⟨_, rfl, _, _, _, [], _, [], hW', trodAll_mk1 (shut_bool Try.underlying4 _), (trodAll_cons_mk (Below.trod laidOut (by kernel_rfl) (of_decide_eq_true (by kernel_rfl)) k0 bel lt0) trodAll_mk0), rfl, bel.frame _, fun h => by cases h⟩

theorem proved : Rows.MatchEverySaid :=
  OpenClaim.holds_of_wide 3 Try.f3 rfl rfl rfl rfl rfl rfl rfl ⟨rfl, rfl, rfl, rfl, rfl⟩ rfl rfl rfl rfl rfl (by kernel_rfl) Try.func3 (by kernel_rfl)
    (of_decide_eq_true (by kernel_rfl)) (by unfold Func.isWrapper; first | (rw [if_pos (by decide +kernel)]; kernel_rfl) | (rw [if_neg (by decide +kernel)]; exact ⟨rfl, rfl⟩))
    (fun os started H enc _ => lifted os started H enc)
#print axioms proved
end Go.Proofs.Ytkejjiohkhlnnaa.matchEveryLaw
