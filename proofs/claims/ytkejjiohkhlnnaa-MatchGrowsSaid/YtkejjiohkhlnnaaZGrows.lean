/-
  The law MatchGrows is proved: for every input the call returns true, and its arguments read behind it as they read before. No condition.
-/
import Derived.Test.YtkejjiohkhlnnaaZ7
import Derived.Deep.CutBlock
import Derived.Deep.RegionHeld3
import Derived.Test.YtkejjiohkhlnnaaCopies
import Derived.ProofKit
import Derived.OpenShut
import Derived.ShutString
import Derived.ChangeOld
import Derived.SizedLaws
import Derived.Lib.SmallJoins
import Derived.Deep.Slices
import Derived.Test.YtkejjiohkhlnnaaSBatch
import Derived.Below
namespace Go.Proofs.Ytkejjiohkhlnnaa
open Go.RowKit
namespace Mt

/-- a world as a law is handed it -/
structure WorldIn (w : World) (T : WorldV) : Prop where
  ars : Ints w T.aa T.ar
  rows : RowsZ (fun _ => True) w T.ra T.rc T.rows
  con : Consts w T.ca T.cs
  conOk : ∀ c ∈ T.cs, C3Ok c
  rule : RuleIn w T.R
  many : T.cs.length ≤ maxLen
theorem WorldIn.below {w V : World} {T : WorldV} (h : WorldIn w T) (hb : Below w.heap.size w V) : WorldIn V T :=
  ⟨h.ars.below hb, h.rows.keep (fun j hj _ => hb.block j hj) (fun _ _ h => h), h.con.below hb (Nat.le_refl _), h.conOk, h.rule.below hb (Nat.le_refl _), h.many⟩
theorem WorldIn.tamed {w : World} {T : WorldV} (h : WorldIn w T) : Calls Try.prog 11 #[.agg T.cells] w (TamedEnd T w) := tamed_any T w h.ars h.rows h.con h.conOk h.rule h.many
/-- a world's cells in a block -/
theorem world_cells {w : World} {b : Nat} {T : WorldV} {ty : TypeId} (h : w.heap[b]? = some (.cells T.cells ty (0, 0))) : (w.cell? ⟨b, 0, none⟩ = some (.slice T.aa T.ar.length T.ac) ∧ w.cell? ⟨b, 1, none⟩ = some (.slice T.ra T.rows.length T.rc) ∧ w.cell? ⟨b, 2, none⟩ = some (.slice T.ca T.cs.length T.cc)) ∧ (w.cell? ⟨b, 3, none⟩ = some (.int .i64 T.R.hp) ∧ w.cell? ⟨b, 4, none⟩ = some (.slice T.R.ha T.R.hn T.R.hc) ∧ w.cell? ⟨b, 5, none⟩ = some (.slice T.R.pa T.R.pos.length T.R.pc) ∧ w.cell? ⟨b, 6, none⟩ = some (.slice T.R.ta T.R.tests.length T.R.tc) ∧ w.cell? ⟨b, 7, none⟩ = some (.slice T.R.na T.R.neg.length T.R.nc) ∧ w.cell? ⟨b, 8, none⟩ = some (.slice T.R.va T.R.nv T.R.vc) ∧ w.cell? ⟨b, 9, none⟩ = some (.int .i64 T.R.cl)) ∧ w.cell? ⟨b, 10, none⟩ = some (.int .i64 T.K) := by
  refine ⟨⟨?_, ?_, ?_⟩, ⟨?_, ?_, ?_, ?_, ?_, ?_, ?_⟩, ?_⟩ <;> simp [World.cell?, h, WorldV.cells]
theorem rev_take {α : Type} {l : List α} {i j : Nat} {x : α} (h : j + i + 1 = l.length) (hx : l[j]? = some x) (hi : i < l.length) : l.reverse.take (i + 1) = l.reverse.take i ++ [x] := by
  have e : l.reverse[i]? = some x := by
    rw [List.getElem?_reverse hi]
    have : l.length - 1 - i = j := by omega
    rw [this]
    exact hx
  exact take_snoc' e
theorem joinedL_nod : ∀ (m l : List Row), l.Nodup → (joinedL l m).Nodup
  | [], l, h => h
  | r :: m, l, h => by
    have e : joinedL l (r :: m) = joinedL (if r ∈ l then l else l ++ [r]) m := rfl
    rw [e]
    refine joinedL_nod m _ ?_
    split
    · exact h
    · rename_i hn
      rw [List.nodup_append]
      exact ⟨h, by simp, fun a ha b hb => by rw [List.mem_singleton] at hb; subst hb; exact fun e => hn (e ▸ ha)⟩
theorem joinedL_nodup (m : List Row) : (joinedL [] m).Nodup := joinedL_nod m [] List.nodup_nil
theorem below_chain {w V V2 : World} (h : Below w.heap.size w V) (k : Below V.heap.size V V2) : Below w.heap.size w V2 := h.trans (k.mono h.size)
theorem joinedL_app (l a b : List Row) : joinedL l (a ++ b) = joinedL (joinedL l a) b := by
  unfold joinedL
  rw [List.foldl_append]
/-- one row in a block of its own, its list somewhere else -/
theorem rows_one {w : World} {Z1 Z : Nat → Prop} {pp : Int} {ai : Option Addr} {ci : Nat} {xs : List Int} {ty : TypeId} (hI : IntsZ Z1 w ai ci xs) (hz : ∀ j, Z1 j → Z j) (hn : Z w.heap.size) (_ : 0 ≤ w.heap.size) : RowsZ Z (w.alloc (.cells #[.int .i64 pp, .slice ai xs.length ci] ty)) (some ⟨w.heap.size, 0, none⟩) 1 [(pp, xs)] := by
  have hq := World.alloc_heap_new w (.cells #[.int .i64 pp, .slice ai xs.length ci] ty)
  have hb : Below w.heap.size w (w.alloc (.cells #[.int .i64 pp, .slice ai xs.length ci] ty)) := (Below.refl _ _).alloc (Nat.le_refl _) _
  refine ⟨.inr ⟨_, 0, rfl, hn, fun i hi => ?_⟩, fun e => by cases e⟩
  match i, hi with
  | 0, _ => exact ⟨cell_of hq rfl, ai, ci, cell_of hq rfl, hI.keep (fun j hj _ => hb.block j hj) (fun j _ h => hz j h)⟩
  | i + 1, hi => exact absurd hi (by simp)
/-- an answer of Prefix is small -/
theorem pre_small {rows : List Row} {cs : List C3} {R : RuleV} (hr : ∀ r ∈ rows, IdsIn cs.length r.2) (ok : RuleOk R cs.length) (h1 : rows.length ≤ 30) (h2 : R.pos.length ≤ 4) (k : Nat) : (pre rows cs R k).length ≤ 1000000 ∧ ∀ x ∈ pre rows cs R k, x.length ≤ 1000000 := by
  refine ⟨?_, fun x hx => ?_⟩
  · unfold pre
    rw [(srtL_perm _ _ _).length_eq]
    have := res_few (cs := cs) h1 h2 k
    omega
  · have h1 := ((pre_iff hr ok _ x).1 hx).1
    have h2 := (wid_is ok k).2
    have h3 := ok.vars
    omega
end Mt
end Go.Proofs.Ytkejjiohkhlnnaa

namespace Go.Proofs.Ytkejjiohkhlnnaa
open Go.RowKit
namespace Mt
open Sq (Oth)

set_option maxHeartbeats 4000000 in
set_option maxRecDepth 8000 in
theorem put_any {d L : Nat} (s : Sl) (a : Option Addr) (c : Nat) (x : List Int) (w : World) (hs : SlotOk L d s) (hl : L ≤ x.length) (hx : Ints w a x) :
    Calls Try.prog 52 #[.agg #[.bool s.1, .int .i64 s.2], .slice a x.length c] w fun e w' => e = .returned (.int .i64 (putL s x)) ∧ Below w.heap.size w w' := by
  obtain ⟨b, n⟩ := s
  obtain ⟨h0, h1⟩ := hs
  simp only at h0 h1
  obtain ⟨k, rfl⟩ := Int.eq_ofNat_of_zero_le h0
  unfold putL
  cases b with
  | true =>
    simp only [if_true] at h1 ⊢
    have hk : k < x.length := by omega
    obtain ⟨g, o, rfl, y, c1, HY⟩ := ints_some hx hk
    have e : x.getD (k : Int).toNat 0 = y := by rw [Int.toNat_natCast, List.getD_eq_getElem?_getD, HY.out]; rfl
    rw [e]
    obtain ⟨N, hN⟩ : ∃ N, N = x.length := ⟨_, rfl⟩
    rw [← hN] at hk ⊢
    have zk : (0 : Int) ≤ (k : Int) := by omega
    have zkN : (k : Int) < (N : Int) := by omega
    obtain ⟨W0, hW0⟩ : ∃ V, V = w.alloc (.cells #[.bool true, .int .i64 (k : Int)] 58) := ⟨_, rfl⟩
    have hb0 : Below w.heap.size w W0 := by rw [hW0]; exact (Below.refl _ _).alloc (Nat.le_refl _) _
    have c1 := on_cell hb0 c1
    have q0 : W0.cell? ⟨w.heap.size, 0, none⟩ = some (.bool true) := by rw [hW0]; simp
    have q1 : W0.cell? ⟨w.heap.size, 1, none⟩ = some (.int .i64 (k : Int)) := by rw [hW0]; simp
    have HW0 := Lib.hid hW0
    clear hx hN e h0 h1 hW0
    go_enter Try.func52, Try.ntmps52
    go_upto_region 1 with fail
    rw [← HW0.out]
    go_wp2_with fail
    go_ret
    exact ⟨rfl, hb0⟩
  | false =>
    simp only [Bool.false_eq_true, if_false]
    go_enter Try.func52, Try.ntmps52
    go_wp2_with fail
    go_ret
    exact ⟨rfl, (Below.refl _ _).alloc (Nat.le_refl _) _⟩
/-- what rowOf leaves -/
def RowOfEnd (p : Int) (xs : List Int) (w : World) (e : Ending) (w' : World) : Prop := ∃ a c, e = .returned (.agg #[.int .i64 p, .slice a xs.length c]) ∧ IntsZ (fun j => w.heap.size ≤ j) w' a c xs ∧ Below w.heap.size w w'
theorem args_take_snoc {l : List Sl} {x : List Int} {j : Nat} {s : Sl} (h : l[j]? = some s) : (argsL l x).take (j + 1) = (argsL l x).take j ++ [putL s x] := by
  apply take_snoc'
  unfold argsL
  rw [List.getElem?_map, h]
  rfl
theorem put_in {d L : Nat} {s : Sl} {x : List Int} (hs : SlotOk L d s) (hl : L ≤ x.length) (hx : IdsIn d x) : 0 ≤ putL s x ∧ putL s x < d := by
  obtain ⟨b, n⟩ := s
  obtain ⟨h0, h1⟩ := hs
  unfold putL
  cases b with
  | false => exact ⟨h0, by simpa using h1⟩
  | true =>
    simp only [if_true] at h0 h1 ⊢
    have hlt : n.toNat < x.length := by omega
    rw [List.getD_eq_getElem?_getD, List.getElem?_eq_getElem hlt]
    exact hx _ (List.getElem_mem _)
set_option linter.unusedSimpArgs false in
set_option maxHeartbeats 8000000 in
set_option maxRecDepth 100000 in
theorem rowOf_any {d L : Nat} (p : Pat) (pa a : Option Addr) (pc c : Nat) (x : List Int) (w : World) (hp : Slots w pa p.2) (hs : ∀ s ∈ p.2, SlotOk L d s) (hl : L ≤ x.length) (hi : IdsIn d x) (hx : Ints w a x) (h8 : p.2.length ≤ 8) :
    Calls Try.prog 20 #[.agg #[.int .i64 p.1, .slice pa p.2.length pc], .slice a x.length c] w (RowOfEnd p.1 (argsL p.2 x) w) := by
  obtain ⟨pr, l⟩ := p
  simp only at hp hs h8 ⊢
  have HP := Lib.hid hp
  have HS := Lib.hid hs
  have HI := Lib.hid hi
  have cP := fun s (hs : s ∈ l) W (hW : Below w.heap.size w W) => Lib.hid (put_any (d := d) (L := L) s a c x W (HS.out s hs) hl (hx.below hW))
  obtain ⟨A, hA⟩ : ∃ A, A = argsL l x := ⟨_, rfl⟩
  have HA := Lib.hid hA
  rw [← hA]
  obtain ⟨N, hN⟩ : ∃ N, N = l.length := ⟨_, rfl⟩
  have HN := Lib.hid hN
  have HAl : Hid (A.length = N) := Lib.hid (by rw [hA, hN]; simp [argsL])
  rw [← hN] at h8 ⊢
  clear hp hs hA hN hx hi
  obtain ⟨b2, hb2⟩ : ∃ b, b = w.heap.size := ⟨_, rfl⟩
  obtain ⟨b4, hb4⟩ : ∃ b, b = w.heap.size + 1 := ⟨_, rfl⟩
  obtain ⟨b5, hb5⟩ : ∃ b, b = w.heap.size + 1 + 1 := ⟨_, rfl⟩
  obtain ⟨W0, hW0⟩ : ∃ V, V = ((w.alloc (.cells #[.int .i64 pr, .slice pa N pc] 27)).alloc (.cells #[.int .i64 0, .slice none 0 0] 50)).alloc (.cells #[.int .i64 pr, .slice none 0 0] 50) := ⟨_, rfl⟩
  obtain ⟨q2, q4, q5⟩ := blk3 w (.cells #[.int .i64 pr, .slice pa N pc] 27) (.cells #[.int .i64 0, .slice none 0 0] 50) (.cells #[.int .i64 pr, .slice none 0 0] 50)
  rw [← hW0] at q2 q4 q5
  rw [← hb2] at q2
  rw [← hb4] at q4
  rw [← hb5] at q5
  have hb0 : Below w.heap.size w W0 := by rw [hW0]; exact (((Below.refl _ _).alloc (Nat.le_refl _) _).alloc (by simp) _).alloc (by simp; omega) _
  have hs0 : W0.heap.size = w.heap.size + 3 := by rw [hW0]; simp
  have y1 : W0.cell? ⟨b2, 1, none⟩ = some (.slice pa N pc) := by simp [World.cell?, q2]
  have HW0 := Lib.hid hW0
  have Hbs : Hid (b2 = w.heap.size ∧ b4 = w.heap.size + 1 ∧ b5 = w.heap.size + 1 + 1 ∧ W0.heap.size = w.heap.size + 3) := Lib.hid ⟨hb2, hb4, hb5, hs0⟩
  have HB0 := Lib.hid hb0
  have Hq4 := Lib.hid q4
  have HI0 : Hid (ISt b5 pr W0 W0 (.slice none 0 0) [] d) := Lib.hid ⟨Oth.refl _ _, q5, World.ownsRow_nil _ _ _ _, fun x hx => (by cases hx)⟩
  clear hW0 hb2 hb4 hb5 hs0 hb0 q2 q4 q5
  go_enter Try.func20, Try.ntmps20
  go_upto_region 2 with fail
  rw [← HW0.out, ← Hbs.out.2.2.1, ← Hbs.out.2.1, ← Hbs.out.1]
  go_upto_block 0 with fail
  clear y1
  go_cut [] (fun w' => ∃ (u : Value), Hid (ISt b5 pr W0 w' u A d))
  case first =>
    have y1 : W0.cell? ⟨b2, 1, none⟩ = some (.slice pa N pc) := by
      have := (blk3 w (.cells #[.int .i64 pr, .slice pa N pc] 27) (.cells #[.int .i64 0, .slice none 0 0] 50) (.cells #[.int .i64 pr, .slice none 0 0] 50)).1
      rw [← HW0.out, ← Hbs.out.1] at this
      simp [World.cell?, this]
    go_wp2_with fail
    clear y1
    go_loopw [14] (fun t w' => ∃ (j : Nat) (u : Value) (li : List Int), t = .int .i64 j ∧ j ≤ N ∧ Hid (ISt b5 pr W0 w' u li d) ∧ Hid (li = A.take j)) (fun t _ => N - (intOf t).toNat)
    case atStart => exact ⟨0, _, [], rfl, Nat.zero_le _, HI0, Lib.hid (by simp)⟩
    case round =>
      clear HI0
      obtain ⟨j, u, li, rfl, hjN, HI9, HLi⟩ := hrel
      obtain ⟨ua, uc, rfl⟩ := owns_shape' HI9.out.own
      by_cases hlt : j < N
      · obtain ⟨s, hs⟩ : ∃ s, s = l[j]'(by rw [← HN.out]; exact hlt) := ⟨_, rfl⟩
        have Hs : Hid (l[j]? = some s) := Lib.hid (by rw [hs]; exact List.getElem?_eq_getElem _)
        clear hs
        have hold : Below w.heap.size w wr := HB0.out.trans (HI9.out.oth.low (by have := Hbs.out; omega) HB0.out.size)
        rcases HP.out with h | ⟨bp, op, rfl, hpp⟩
        · rw [HN.out, h] at hlt; simp at hlt
        · obtain ⟨v0, n0, c0, c1, HQ⟩ := slots_at hpp (k := j) (by rw [← HN.out]; exact hlt)
          have hsv : s = (v0, n0) := by have := HQ.out; rw [Hs.out] at this; exact Option.some.inj this
          subst hsv
          have c0 := below_cell hold (Nat.le_refl _) c0
          have c1 := below_cell hold (Nat.le_refl _) c1
          have Hsm : Hid (SlotOk L d (v0, n0)) := Lib.hid (HS.out _ (List.mem_of_getElem? Hs.out))
          have hlle : li.length < 8 := by rw [HLi.out, List.length_take]; omega
          have Hold := Lib.hid hold
          clear hpp hold HQ
          go_upto_region 5 with fail
          obtain ⟨W1, hW1⟩ : ∃ V, V = wr.alloc (.cells #[.bool v0, .int .i64 n0] 58) := ⟨_, rfl⟩
          obtain ⟨b7, hb7⟩ : ∃ b, b = wr.heap.size := ⟨_, rfl⟩
          rw [← hW1, ← hb7]
          have hbw1 : Below wr.heap.size wr W1 := by rw [hW1]; exact (Below.refl _ _).alloc (Nat.le_refl _) _
          have z0 : W1.cell? ⟨b7, 0, none⟩ = some (.bool v0) := by rw [hW1, hb7]; simp
          have z1 : W1.cell? ⟨b7, 1, none⟩ = some (.int .i64 n0) := by rw [hW1, hb7]; simp
          have h7n : b7 ≠ b5 := by have := HI9.out.oth.size; have := Hbs.out; omega
          have HI8 := Lib.hid (HI9.out.below hbw1)
          have cP1 := fun W (hW : Below W1.heap.size W1 W) => cP (v0, n0) (List.mem_of_getElem? Hs.out) W (Hold.out.trans ((hbw1.trans (hW.mono hbw1.size)).mono Hold.out.size))
          simp only at cP1
          have h5lt : b5 < W0.heap.size := by have := Hbs.out; omega
          have h7lt : b7 < W1.heap.size := by rw [hW1, hb7]; simp
          have q1 := HI8.out.cells.2
          have Hvb : Hid (∀ g, (Value.slice ua li.length uc).ownBlock = some g → b7 ≠ g) := Lib.hid (fun g hg => by have := (HI9.out.own.lt g hg).2; omega)
          clear hW1 hb7 hbw1 HI9 c0 c1
          obtain ⟨V0, hV0⟩ : ∃ V, V = W1.drew := ⟨_, rfl⟩
          have hd1 : Below W1.heap.size W1 V0 := by rw [hV0]; exact (Below.refl _ _).drew
          have HI7 := Lib.hid (HI8.out.below hd1)
          have q1 := on_cell hd1 q1
          have z0 := on_cell hd1 z0
          have z1 := on_cell hd1 z1
          have hown := HI7.out.own
          have hlow := HI7.out.oth.size
          have hb0 := Below.refl V0.heap.size V0
          clear HI8
          refine wp_region_noPanic ?_
          refine wp_region_held_drew (S := (fun w' => w'.cell? ⟨b7, 0, none⟩ = some (.bool v0) ∧ w'.cell? ⟨b7, 1, none⟩ = some (.int .i64 n0))) (by kernel_rfl) ?_ (fun hHeld => ?_)
          · rw [← hV0]; exact ⟨z0, z1⟩
          rw [← hV0] at hHeld ⊢
          clear hV0
          refine wpAnyH_take (i := 0) (oi := ⟨some 18, _, _, _, _, _⟩) (v := ?_) rfl (by kernel_rfl) (by kernel_rfl) (by kernel_rfl) (fun _ _ _ h => h) (Or.inl ⟨by rfl, ?_⟩) (by assumption) ?_
          rotate_left 1
          · intro w hSw
            (try dsimp only at hSw)
            go_simp
            all_goals with_reducible rfl
          (try simp only [Act.put, List.setIfInBounds_toArray, List.set_cons_zero, List.set_cons_succ])
          refine wpAnyH_take (i := 2) (oi := ⟨some 20, _, _, _, _, _⟩) (v := ?_) rfl (by kernel_rfl) (by kernel_rfl) (by kernel_rfl) (fun _ _ _ h => h) (Or.inl ⟨by rfl, ?_⟩) (by assumption) ?_
          rotate_left 1
          · intro w hSw
            (try dsimp only at hSw)
            go_simp
            all_goals with_reducible rfl
          (try simp only [Act.put, List.setIfInBounds_toArray, List.set_cons_zero, List.set_cons_succ])
          refine wpAnyH_take (i := 3) (oi := ⟨some 21, _, _, _, _, _⟩) (v := ?_) rfl (by kernel_rfl) (by kernel_rfl) (by kernel_rfl) (fun _ _ _ h => h) (Or.inl ⟨by rfl, ?_⟩) (by assumption) ?_
          rotate_left 1
          · intro w hSw
            (try dsimp only at hSw)
            go_simp
            all_goals with_reducible rfl
          (try simp only [Act.put, List.setIfInBounds_toArray, List.set_cons_zero, List.set_cons_succ])
          refine wpAnyH_ready (rs := [1, 4]) (by kernel_rfl) (by simp) ?_
          refine AllReadyH.cons (o := _) rfl (fun K hK => ?_) ?_
          · have tt := on_cell hb0 q1
            go_simp
            clear tt
            refine hK.out _ _ ?_ (fun hHeld => ?_)
            · exact ⟨on_cell hb0 z0, on_cell hb0 z1⟩
            clear hK K
            (try simp only [Act.put, List.setIfInBounds_toArray, List.set_cons_zero, List.set_cons_succ])
            refine wpAnyH_ready (rs := [4]) (by kernel_rfl) (by simp) ?_
            refine AllReadyH.cons (o := _) rfl (fun K hK => ?_) ?_
            · go_simp
              with_reducible refine (cP1 _ (hd1.trans (hb0.mono hd1.size))).out.mono ?_
              rintro e V2 ⟨rfl, hb2'⟩
              have hb2 : Below V0.heap.size V0 V2 := hb0.trans (hb2'.mono hb0.size)
              clear hb2'
              refine hK.out _ _ ?_ (fun hHeld => ?_)
              · exact ⟨on_cell hb2 z0, on_cell hb2 z1⟩
              clear hK K
              (try simp only [Act.put, List.setIfInBounds_toArray, List.set_cons_zero, List.set_cons_succ])
              refine wpAnyH_ready (rs := [5]) (by kernel_rfl) (by simp) ?_
              refine AllReadyH.cons (o := _) rfl (fun K hK => ?_) ?_
              · go_simp
                obtain ⟨V3, hV3⟩ : ∃ W, W = V2.alloc (.cells #[.int .i64 (putL (v0, n0) x)] 3) := ⟨_, rfl⟩
                obtain ⟨b8, hb8⟩ : ∃ b, b = V2.heap.size := ⟨_, rfl⟩
                rw [← hV3, ← hb8]
                have hb3 : Below V0.heap.size V0 V3 := by rw [hV3]; exact hb2.alloc hb2.size _
                have src3 : Source V3 (some ⟨b8, 0, none⟩) 1 1 [.int .i64 (putL (v0, n0) x)] := by rw [hV3, hb8]; exact source_new V2 [.int .i64 (putL (v0, n0) x)] 3
                clear hV3 hb8
                refine hK.out _ _ ?_ (fun hHeld => ?_)
                · exact ⟨on_cell hb3 z0, on_cell hb3 z1⟩
                clear hK K
                (try simp only [Act.put, List.setIfInBounds_toArray, List.set_cons_zero, List.set_cons_succ])
                refine wpAnyH_ready (rs := [6]) (by kernel_rfl) (by simp) ?_
                refine AllReadyH.cons (o := _) rfl (fun K hK => ?_) ?_
                · have hz3 := hb3.size
                  refine step_append_any elemInt _ rfl _ _ rfl W0.heap.size (.slice ua li.length uc) li.length (li.map (Value.int .i64)) rfl (owns_below hown hb3 (Nat.le_refl _)) (some ⟨b8, 0, none⟩) 1 1 [.int .i64 (putL (v0, n0) x)] rfl src3 rfl (by simp [Value.oneCell']) (by unfold maxLen; omega) (by omega) (by omega) ?_
                  intro v' V4 hown4 hgrow4 hblk4
                  obtain ⟨va4, vc4, rfl⟩ := owns_shape' hown4
                  obtain ⟨p1, p2, p3⟩ := HI7.out.push h5lt hb3 hgrow4 hown4 (put_in Hsm.out hl HI.out)
                  have P1 := Lib.hid p1
                  have hS4 : V4.cell? ⟨b7, 0, none⟩ = some (.bool v0) ∧ V4.cell? ⟨b7, 1, none⟩ = some (.int .i64 n0) := ⟨hgrow4.cell (on_cell hb3 z0) (fun e => Hvb.out _ e.symm rfl), hgrow4.cell (on_cell hb3 z1) (fun e => Hvb.out _ e.symm rfl)⟩
                  clear p1 hown4 hgrow4 hblk4 src3
                  refine hK.out _ _ ?_ (fun hHeld => ?_)
                  · exact hS4
                  clear hK K
                  (try simp only [Act.put, List.setIfInBounds_toArray, List.set_cons_zero, List.set_cons_succ])
                  refine wpAnyH_take (i := 7) (oi := ⟨some 25, _, _, _, _, _⟩) (v := ?_) rfl (by kernel_rfl) (by kernel_rfl) (by kernel_rfl) (fun _ _ _ h => h) (Or.inl ⟨by rfl, ?_⟩) (by assumption) ?_
                  rotate_left 1
                  · intro w hSw
                    (try dsimp only at hSw)
                    go_simp
                    all_goals with_reducible rfl
                  (try simp only [Act.put, List.setIfInBounds_toArray, List.set_cons_zero, List.set_cons_succ])
                  refine wpAnyH_ready (rs := [8]) (by kernel_rfl) (by simp) ?_
                  refine AllReadyH.cons (o := _) rfl (fun K hK => ?_) ?_
                  · go_simp
                    refine hK.out _ _ ?_ (fun hHeld => ?_)
                    · exact ⟨(World.cell?_setCell_far _ _ _ _ (Ne.symm h7n)).trans hS4.1, (World.cell?_setCell_far _ _ _ _ (Ne.symm h7n)).trans hS4.2⟩
                    clear hK K
                    (try simp only [Act.put, List.setIfInBounds_toArray, List.set_cons_zero, List.set_cons_succ])
                    refine wpAnyH_done (by kernel_rfl) ?_ _
                    refine NoPanic.normal ?_
                    have HLX : Hid (li ++ [putL (v0, n0) x] = A.take (j + 1)) := Lib.hid (by rw [HLi.out, HA.out, args_take_snoc Hs.out])
                    clear hS4 hHeld
                    go_wp2
                    go_roundw
                    case rel => first | exact ⟨j + 1, by go_num, by omega, _, _, P1, HLX⟩ | exact ⟨j + 1, _, _, by go_num, by omega, P1, HLX⟩
                    case measure => simp [intOf]; omega
                  exact AllReadyH.nil
                exact AllReadyH.nil
              exact AllReadyH.nil
            exact AllReadyH.nil
          refine AllReadyH.cons (o := _) rfl (fun K hK => ?_) ?_
          · go_simp
            with_reducible refine (cP1 _ (hd1.trans (hb0.mono hd1.size))).out.mono ?_
            rintro e V2 ⟨rfl, hb2'⟩
            have hb2 : Below V0.heap.size V0 V2 := hb0.trans (hb2'.mono hb0.size)
            clear hb2'
            refine hK.out _ _ ?_ (fun hHeld => ?_)
            · exact ⟨on_cell hb2 z0, on_cell hb2 z1⟩
            clear hK K
            (try simp only [Act.put, List.setIfInBounds_toArray, List.set_cons_zero, List.set_cons_succ])
            refine wpAnyH_ready (rs := [1, 5]) (by kernel_rfl) (by simp) ?_
            refine AllReadyH.cons (o := _) rfl (fun K hK => ?_) ?_
            · have tt := on_cell hb2 q1
              go_simp
              clear tt
              refine hK.out _ _ ?_ (fun hHeld => ?_)
              · exact ⟨on_cell hb2 z0, on_cell hb2 z1⟩
              clear hK K
              (try simp only [Act.put, List.setIfInBounds_toArray, List.set_cons_zero, List.set_cons_succ])
              refine wpAnyH_ready (rs := [5]) (by kernel_rfl) (by simp) ?_
              refine AllReadyH.cons (o := _) rfl (fun K hK => ?_) ?_
              · go_simp
                obtain ⟨V3, hV3⟩ : ∃ W, W = V2.alloc (.cells #[.int .i64 (putL (v0, n0) x)] 3) := ⟨_, rfl⟩
                obtain ⟨b8, hb8⟩ : ∃ b, b = V2.heap.size := ⟨_, rfl⟩
                rw [← hV3, ← hb8]
                have hb3 : Below V0.heap.size V0 V3 := by rw [hV3]; exact hb2.alloc hb2.size _
                have src3 : Source V3 (some ⟨b8, 0, none⟩) 1 1 [.int .i64 (putL (v0, n0) x)] := by rw [hV3, hb8]; exact source_new V2 [.int .i64 (putL (v0, n0) x)] 3
                clear hV3 hb8
                refine hK.out _ _ ?_ (fun hHeld => ?_)
                · exact ⟨on_cell hb3 z0, on_cell hb3 z1⟩
                clear hK K
                (try simp only [Act.put, List.setIfInBounds_toArray, List.set_cons_zero, List.set_cons_succ])
                refine wpAnyH_ready (rs := [6]) (by kernel_rfl) (by simp) ?_
                refine AllReadyH.cons (o := _) rfl (fun K hK => ?_) ?_
                · have hz3 := hb3.size
                  refine step_append_any elemInt _ rfl _ _ rfl W0.heap.size (.slice ua li.length uc) li.length (li.map (Value.int .i64)) rfl (owns_below hown hb3 (Nat.le_refl _)) (some ⟨b8, 0, none⟩) 1 1 [.int .i64 (putL (v0, n0) x)] rfl src3 rfl (by simp [Value.oneCell']) (by unfold maxLen; omega) (by omega) (by omega) ?_
                  intro v' V4 hown4 hgrow4 hblk4
                  obtain ⟨va4, vc4, rfl⟩ := owns_shape' hown4
                  obtain ⟨p1, p2, p3⟩ := HI7.out.push h5lt hb3 hgrow4 hown4 (put_in Hsm.out hl HI.out)
                  have P1 := Lib.hid p1
                  have hS4 : V4.cell? ⟨b7, 0, none⟩ = some (.bool v0) ∧ V4.cell? ⟨b7, 1, none⟩ = some (.int .i64 n0) := ⟨hgrow4.cell (on_cell hb3 z0) (fun e => Hvb.out _ e.symm rfl), hgrow4.cell (on_cell hb3 z1) (fun e => Hvb.out _ e.symm rfl)⟩
                  clear p1 hown4 hgrow4 hblk4 src3
                  refine hK.out _ _ ?_ (fun hHeld => ?_)
                  · exact hS4
                  clear hK K
                  (try simp only [Act.put, List.setIfInBounds_toArray, List.set_cons_zero, List.set_cons_succ])
                  refine wpAnyH_take (i := 7) (oi := ⟨some 25, _, _, _, _, _⟩) (v := ?_) rfl (by kernel_rfl) (by kernel_rfl) (by kernel_rfl) (fun _ _ _ h => h) (Or.inl ⟨by rfl, ?_⟩) (by assumption) ?_
                  rotate_left 1
                  · intro w hSw
                    (try dsimp only at hSw)
                    go_simp
                    all_goals with_reducible rfl
                  (try simp only [Act.put, List.setIfInBounds_toArray, List.set_cons_zero, List.set_cons_succ])
                  refine wpAnyH_ready (rs := [8]) (by kernel_rfl) (by simp) ?_
                  refine AllReadyH.cons (o := _) rfl (fun K hK => ?_) ?_
                  · go_simp
                    refine hK.out _ _ ?_ (fun hHeld => ?_)
                    · exact ⟨(World.cell?_setCell_far _ _ _ _ (Ne.symm h7n)).trans hS4.1, (World.cell?_setCell_far _ _ _ _ (Ne.symm h7n)).trans hS4.2⟩
                    clear hK K
                    (try simp only [Act.put, List.setIfInBounds_toArray, List.set_cons_zero, List.set_cons_succ])
                    refine wpAnyH_done (by kernel_rfl) ?_ _
                    refine NoPanic.normal ?_
                    have HLX : Hid (li ++ [putL (v0, n0) x] = A.take (j + 1)) := Lib.hid (by rw [HLi.out, HA.out, args_take_snoc Hs.out])
                    clear hS4 hHeld
                    go_wp2
                    go_roundw
                    case rel => first | exact ⟨j + 1, by go_num, by omega, _, _, P1, HLX⟩ | exact ⟨j + 1, _, _, by go_num, by omega, P1, HLX⟩
                    case measure => simp [intOf]; omega
                  exact AllReadyH.nil
                exact AllReadyH.nil
              exact AllReadyH.nil
            refine AllReadyH.cons (o := _) rfl (fun K hK => ?_) ?_
            · go_simp
              obtain ⟨V3, hV3⟩ : ∃ W, W = V2.alloc (.cells #[.int .i64 (putL (v0, n0) x)] 3) := ⟨_, rfl⟩
              obtain ⟨b8, hb8⟩ : ∃ b, b = V2.heap.size := ⟨_, rfl⟩
              rw [← hV3, ← hb8]
              have hb3 : Below V0.heap.size V0 V3 := by rw [hV3]; exact hb2.alloc hb2.size _
              have src3 : Source V3 (some ⟨b8, 0, none⟩) 1 1 [.int .i64 (putL (v0, n0) x)] := by rw [hV3, hb8]; exact source_new V2 [.int .i64 (putL (v0, n0) x)] 3
              clear hV3 hb8
              refine hK.out _ _ ?_ (fun hHeld => ?_)
              · exact ⟨on_cell hb3 z0, on_cell hb3 z1⟩
              clear hK K
              (try simp only [Act.put, List.setIfInBounds_toArray, List.set_cons_zero, List.set_cons_succ])
              refine wpAnyH_ready (rs := [1]) (by kernel_rfl) (by simp) ?_
              refine AllReadyH.cons (o := _) rfl (fun K hK => ?_) ?_
              · have tt := on_cell hb3 q1
                go_simp
                clear tt
                refine hK.out _ _ ?_ (fun hHeld => ?_)
                · exact ⟨on_cell hb3 z0, on_cell hb3 z1⟩
                clear hK K
                (try simp only [Act.put, List.setIfInBounds_toArray, List.set_cons_zero, List.set_cons_succ])
                refine wpAnyH_ready (rs := [6]) (by kernel_rfl) (by simp) ?_
                refine AllReadyH.cons (o := _) rfl (fun K hK => ?_) ?_
                · have hz3 := hb3.size
                  refine step_append_any elemInt _ rfl _ _ rfl W0.heap.size (.slice ua li.length uc) li.length (li.map (Value.int .i64)) rfl (owns_below hown hb3 (Nat.le_refl _)) (some ⟨b8, 0, none⟩) 1 1 [.int .i64 (putL (v0, n0) x)] rfl src3 rfl (by simp [Value.oneCell']) (by unfold maxLen; omega) (by omega) (by omega) ?_
                  intro v' V4 hown4 hgrow4 hblk4
                  obtain ⟨va4, vc4, rfl⟩ := owns_shape' hown4
                  obtain ⟨p1, p2, p3⟩ := HI7.out.push h5lt hb3 hgrow4 hown4 (put_in Hsm.out hl HI.out)
                  have P1 := Lib.hid p1
                  have hS4 : V4.cell? ⟨b7, 0, none⟩ = some (.bool v0) ∧ V4.cell? ⟨b7, 1, none⟩ = some (.int .i64 n0) := ⟨hgrow4.cell (on_cell hb3 z0) (fun e => Hvb.out _ e.symm rfl), hgrow4.cell (on_cell hb3 z1) (fun e => Hvb.out _ e.symm rfl)⟩
                  clear p1 hown4 hgrow4 hblk4 src3
                  refine hK.out _ _ ?_ (fun hHeld => ?_)
                  · exact hS4
                  clear hK K
                  (try simp only [Act.put, List.setIfInBounds_toArray, List.set_cons_zero, List.set_cons_succ])
                  refine wpAnyH_take (i := 7) (oi := ⟨some 25, _, _, _, _, _⟩) (v := ?_) rfl (by kernel_rfl) (by kernel_rfl) (by kernel_rfl) (fun _ _ _ h => h) (Or.inl ⟨by rfl, ?_⟩) (by assumption) ?_
                  rotate_left 1
                  · intro w hSw
                    (try dsimp only at hSw)
                    go_simp
                    all_goals with_reducible rfl
                  (try simp only [Act.put, List.setIfInBounds_toArray, List.set_cons_zero, List.set_cons_succ])
                  refine wpAnyH_ready (rs := [8]) (by kernel_rfl) (by simp) ?_
                  refine AllReadyH.cons (o := _) rfl (fun K hK => ?_) ?_
                  · go_simp
                    refine hK.out _ _ ?_ (fun hHeld => ?_)
                    · exact ⟨(World.cell?_setCell_far _ _ _ _ (Ne.symm h7n)).trans hS4.1, (World.cell?_setCell_far _ _ _ _ (Ne.symm h7n)).trans hS4.2⟩
                    clear hK K
                    (try simp only [Act.put, List.setIfInBounds_toArray, List.set_cons_zero, List.set_cons_succ])
                    refine wpAnyH_done (by kernel_rfl) ?_ _
                    refine NoPanic.normal ?_
                    have HLX : Hid (li ++ [putL (v0, n0) x] = A.take (j + 1)) := Lib.hid (by rw [HLi.out, HA.out, args_take_snoc Hs.out])
                    clear hS4 hHeld
                    go_wp2
                    go_roundw
                    case rel => first | exact ⟨j + 1, by go_num, by omega, _, _, P1, HLX⟩ | exact ⟨j + 1, _, _, by go_num, by omega, P1, HLX⟩
                    case measure => simp [intOf]; omega
                  exact AllReadyH.nil
                exact AllReadyH.nil
              exact AllReadyH.nil
            exact AllReadyH.nil
          exact AllReadyH.nil
      · have hje : j = N := by omega
        subst hje
        have e : li = A := by rw [HLi.out, ← HAl.out, List.take_length]
        subst e
        go_wp2_with fail
        go_meet
        exact ⟨_, HI9⟩
  case rest =>
    clear HI0
    obtain ⟨u, HI9⟩ := hcut
    obtain ⟨ua, uc, rfl⟩ := owns_shape' HI9.out.own
    have q0 := HI9.out.cells.1
    have q1 := HI9.out.cells.2
    have h4 := (HI9.out.oth.keep b4 (by have := Hbs.out; omega) (by have := Hbs.out; omega)).trans Hq4.out
    have e0 : wc.cell? ⟨b4, 0, none⟩ = some (.int .i64 0) := by simp [World.cell?, h4]
    have e1 : wc.cell? ⟨b4, 1, none⟩ = some (.slice none 0 0) := by simp [World.cell?, h4]
    have f0 : wc.frozen? ⟨b4, 0, none⟩ = false := by simp [World.frozen?, h4]
    have f1 : wc.frozen? ⟨b4, 1, none⟩ = false := by simp [World.frozen?, h4]
    have HF : Hid (∀ V, V = (wc.setCell ⟨b4, 0, none⟩ (.int .i64 pr)).setCell ⟨b4, 1, none⟩ (.slice ua A.length uc) → V.cell? ⟨b4, 0, none⟩ = some (.int .i64 pr) ∧ V.cell? ⟨b4, 1, none⟩ = some (.slice ua A.length uc) ∧ RowOfEnd pr A w (.returned (.agg #[.int .i64 pr, .slice ua A.length uc])) V) := Lib.hid (fun V hV => by
      have hg : V.heap[b4]? = some (.cells #[.int .i64 pr, .slice ua A.length uc] 50 (0, 0)) := by rw [hV]; simpa using heap_setCell (j := 1) (heap_setCell (j := 0) h4 (.int .i64 pr)) (.slice ua A.length uc)
      have hlo4 : w.heap.size ≤ b4 := by have := Hbs.out; omega
      have hbw : Below w.heap.size w wc := HB0.out.trans (HI9.out.oth.low (by have := Hbs.out; omega) HB0.out.size)
      refine ⟨by simp [World.cell?, hg], by simp [World.cell?, hg], ua, uc, rfl, ?_, ?_⟩
      · have hown : V.ownsRow w.heap.size 3 1 (.slice ua A.length uc) A.length (A.map (Value.int .i64)) := by
          rw [hV]
          have hz := Hbs.out
          refine owns_base (owns_block HI9.out.own (fun g hg => ?_)) HB0.out.size
          have := (HI9.out.own.lt g hg).1
          rw [Below.heap_setCell _ _ _ _ (fun e => by have e : g = b4 := e; omega), Below.heap_setCell _ _ _ _ (fun e => by have e : g = b4 := e; omega)]
        exact intsZ_of_row hown
      · rw [hV]
        exact (hbw.setCell (p := ⟨b4, 0, none⟩) hlo4 _).setCell (p := ⟨b4, 1, none⟩) hlo4 _)
    clear h4
    go_wp2_with fail
    generalize hV : ((World.setCell wc _ _).setCell _ _) = V
    obtain ⟨k0, k1, HE⟩ := HF.out V hV.symm
    clear hV
    refine bodyPost_ret (v := .agg #[.int .i64 pr, .slice ua A.length uc]) (by simp [results, Try.results20, go_sem, k0, k1]) rfl ?_
    exact HE
set_option maxHeartbeats 4000000 in
set_option maxRecDepth 8000 in
theorem has_any (aa xa : Option Addr) (ca xc : Nat) (ls : List (List Int)) (x : List Int) (w : World) (ha : ListsV w aa ls) (hx : Ints w xa x) (hm : ls.length ≤ 1000000) (hs : ∀ y ∈ ls, y.length ≤ 1000000) (R : Bool) (hR : R = decide (x ∈ ls)) :
    Calls Try.prog 18 #[.slice aa ls.length ca, .slice xa x.length xc] w fun e w' => e = .returned (.bool R) ∧ Below w.heap.size w w' := by
  have HA := Lib.hid ha
  have HX := Lib.hid hx
  have HS := Lib.hid hs
  have HR := Lib.hid hR
  obtain ⟨n, hn⟩ : ∃ n, n = ls.length := ⟨_, rfl⟩
  obtain ⟨xl, hxl⟩ : ∃ n, n = x.length := ⟨_, rfl⟩
  rw [← hn] at hm ⊢
  have Hn := Lib.hid hn
  have Hxl := Lib.hid hxl
  rw [← hxl]
  clear ha hx hs hR hn hxl
  go_enter Try.func18, Try.ntmps18
  go_wp2_with fail
  go_loopw [8] (fun t wr => ∃ k : Nat, t = .int .i64 k ∧ k ≤ n ∧ Below w.heap.size w wr ∧ Hid (∀ y ∈ ls.take k, y ≠ x)) (fun t _ => n - (intOf t).toNat)
  case atStart => exact ⟨0, rfl, Nat.zero_le _, Below.refl _ _, Lib.hid (fun y hy => by simp at hy)⟩
  case round =>
    obtain ⟨k, rfl, hk, hbel, HK⟩ := hrel
    by_cases hlt : k < n
    · obtain ⟨b1, o1, l1, a1, c1, rfl, hy, x1, i1⟩ := lists_at HA.out (k := k) (by rw [← Hn.out]; exact hlt)
      have HY := Lib.hid hy
      have hl1 := HS.out l1 (List.mem_of_getElem? hy)
      have e1 := below_cell hbel (Nat.le_refl _) x1
      have cI := Lib.hid (sameInts_any a1 xa c1 xc l1 x wr (Ints.old i1 hbel (Nat.le_refl _)) (Ints.old HX.out hbel (Nat.le_refl _)) (by omega))
      obtain ⟨d, hd⟩ : ∃ d, d = decide (l1 = x) := ⟨_, rfl⟩
      rw [← hd, ← Hxl.out] at cI
      have Hd := Lib.hid hd
      clear hy x1 i1 hd
      cases d with
      | true =>
        have hRt : R = true := by
          rw [HR.out]
          have e : l1 = x := by simpa using Hd.out.symm
          rw [← e]
          simpa using List.mem_of_getElem? HY.out
        subst hRt
        go_wp2_with (first | (go_at_call 31; (with_reducible refine cI.out.mono ?_); rintro e V ⟨rfl, nd, hV⟩))
        go_ret
        exact ⟨rfl, by rw [← hV]; exact below_drewN hbel nd⟩
      | false =>
        have HK2 : Hid (∀ y ∈ ls.take (k + 1), y ≠ x) := Lib.hid (by
          have e : l1 ≠ x := by simpa using Hd.out.symm
          rw [take_snoc' HY.out]
          intro y hy
          rcases List.mem_append.1 hy with hy | hy
          · exact HK.out y hy
          · rw [List.mem_singleton] at hy; rw [hy]; exact e)
        clear HK
        go_upto_if 16 with (first | (go_at_call 31; (with_reducible refine cI.out.mono ?_); rintro e V ⟨rfl, nd, hV⟩; have hbV : Below w.heap.size w V := (by rw [← hV]; exact below_drewN hbel nd)))
        clear hV cI
        go_wp2_with fail
        go_roundw
        case rel => exact ⟨k + 1, by go_num, by omega, hbV, HK2⟩
        case measure => simp [intOf]; omega
    · have hRf : R = false := by
        rw [HR.out]
        have := HK.out
        rw [List.take_of_length_le (by rw [← Hn.out]; omega)] at this
        simpa using fun h => this x h rfl
      subst hRf
      go_wp2_with fail
      go_ret
      exact ⟨rfl, hbel⟩
set_option maxHeartbeats 4000000 in
set_option maxRecDepth 8000 in
theorem within_any (aa ab : Option Addr) (ca cb : Nat) (xs ys : List (List Int)) (w : World) (ha : ListsV w aa xs) (hb : ListsV w ab ys) (hm : xs.length ≤ 1000000) (hm2 : ys.length ≤ 1000000) (hs : ∀ y ∈ ys, y.length ≤ 1000000) (R : Bool) (hR : R = decide (∀ x ∈ xs, x ∈ ys)) :
    Calls Try.prog 23 #[.slice aa xs.length ca, .slice ab ys.length cb] w fun e w' => e = .returned (.bool R) ∧ Below w.heap.size w w' := by
  have HA := Lib.hid ha
  have HB := Lib.hid hb
  have HS := Lib.hid hs
  have HR := Lib.hid hR
  obtain ⟨n, hn⟩ : ∃ n, n = xs.length := ⟨_, rfl⟩
  obtain ⟨m, hm'⟩ : ∃ n, n = ys.length := ⟨_, rfl⟩
  rw [← hn] at hm ⊢
  rw [← hm'] at hm2
  rw [← hm']
  have Hn := Lib.hid hn
  have Hm := Lib.hid hm'
  clear ha hb hs hR hn hm'
  go_enter Try.func23, Try.ntmps23
  go_wp2_with fail
  go_loopw [9] (fun t wr => ∃ k : Nat, t = .int .i64 k ∧ k ≤ n ∧ Below w.heap.size w wr ∧ Hid (∀ y ∈ xs.take k, y ∈ ys)) (fun t _ => n - (intOf t).toNat)
  case atStart => exact ⟨0, rfl, Nat.zero_le _, Below.refl _ _, Lib.hid (fun y hy => by simp at hy)⟩
  case round =>
    obtain ⟨k, rfl, hk, hbel, HK⟩ := hrel
    by_cases hlt : k < n
    · obtain ⟨b1, o1, l1, a1, c1, rfl, hy, x1, i1⟩ := lists_at HA.out (k := k) (by rw [← Hn.out]; exact hlt)
      have HY := Lib.hid hy
      have e1 := below_cell hbel (Nat.le_refl _) x1
      obtain ⟨d, hd⟩ : ∃ d, d = decide (l1 ∈ ys) := ⟨_, rfl⟩
      have cI := Lib.hid (has_any ab a1 cb c1 ys l1 wr (HB.out.below hbel (Nat.le_refl _)) (Ints.old i1 hbel (Nat.le_refl _)) (by rw [← Hm.out]; exact hm2) HS.out d hd)
      rw [← Hm.out] at cI
      have Hd := Lib.hid hd
      clear hy x1 i1 hd
      cases d with
      | false =>
        have hRt : R = false := by
          rw [HR.out]
          have e : l1 ∉ ys := by simpa using Hd.out.symm
          simp only [decide_eq_false_iff_not]
          exact fun h => e (h l1 (List.mem_of_getElem? HY.out))
        subst hRt
        go_wp2_with (first | (go_at_call 18; (with_reducible refine cI.out.mono ?_); rintro e V ⟨rfl, hV⟩))
        go_ret
        exact ⟨rfl, hbel.trans (hV.mono hbel.size)⟩
      | true =>
        have HK2 : Hid (∀ y ∈ xs.take (k + 1), y ∈ ys) := Lib.hid (by
          have e : l1 ∈ ys := by simpa using Hd.out.symm
          rw [take_snoc' HY.out]
          intro y hy
          rcases List.mem_append.1 hy with hy | hy
          · exact HK.out y hy
          · rw [List.mem_singleton] at hy; rw [hy]; exact e)
        clear HK
        go_upto_if 16 with (first | (go_at_call 18; (with_reducible refine cI.out.mono ?_); rintro e V ⟨rfl, hV⟩; have hbV : Below w.heap.size w V := hbel.trans (hV.mono hbel.size)))
        clear hV cI
        go_wp2_with fail
        go_roundw
        case rel => exact ⟨k + 1, by go_num, by omega, hbV, HK2⟩
        case measure => simp [intOf]; omega
    · have hRf : R = true := by
        rw [HR.out]
        have := HK.out
        rw [List.take_of_length_le (by rw [← Hn.out]; omega)] at this
        simpa using this
      subst hRf
      go_wp2_with fail
      go_ret
      exact ⟨rfl, hbel⟩
set_option maxHeartbeats 4000000 in
set_option maxRecDepth 8000 in
theorem names_any (aa : Option Addr) (ca : Nat) (ps : List Pat) (pred : Int) (w : World) (ha : Pats w aa ps) (hm : ps.length ≤ 1000000) (R : Bool) (hR : R = decide (∃ p ∈ ps, p.1 = pred)) :
    Calls Try.prog 22 #[.slice aa ps.length ca, .int .i64 pred] w fun e w' => e = .returned (.bool R) ∧ Below w.heap.size w w' := by
  have HA := Lib.hid ha
  have HR := Lib.hid hR
  obtain ⟨n, hn⟩ : ∃ n, n = ps.length := ⟨_, rfl⟩
  rw [← hn] at hm ⊢
  have Hn := Lib.hid hn
  clear ha hR hn
  go_enter Try.func22, Try.ntmps22
  go_wp2_with fail
  go_loopw [9] (fun t wr => ∃ k : Nat, t = .int .i64 k ∧ k ≤ n ∧ Below w.heap.size w wr ∧ Hid (∀ p ∈ ps.take k, p.1 ≠ pred)) (fun t _ => n - (intOf t).toNat)
  case atStart => exact ⟨0, rfl, Nat.zero_le _, Below.refl _ _, Lib.hid (fun y hy => by simp at hy)⟩
  case round =>
    obtain ⟨k, rfl, hk, hbel, HK⟩ := hrel
    by_cases hlt : k < n
    · obtain ⟨b1, o1, rfl, hc⟩ : ∃ b off, aa = some ⟨b, off, none⟩ ∧ ∀ (i : Nat) (p : Pat), ps[i]? = some p → w.cell? ⟨b, off + i * 2, none⟩ = some (.int .i64 p.1) ∧ ∃ sa sc, w.cell? ⟨b, off + i * 2 + 1, none⟩ = some (.slice sa p.2.length sc) ∧ Slots w sa p.2 := by
        rcases HA.out with h | h
        · rw [Hn.out, h] at hlt; simp at hlt
        · exact h
      obtain ⟨p, hp⟩ : ∃ p, p = ps[k]'(by rw [← Hn.out]; exact hlt) := ⟨_, rfl⟩
      have Hp : Hid (ps[k]? = some p) := Lib.hid (by rw [hp]; exact List.getElem?_eq_getElem _)
      obtain ⟨c0, sa, sc, c1, -⟩ := hc k p Hp.out
      obtain ⟨pp, sl⟩ := p
      have c0 := below_cell hbel (Nat.le_refl _) c0
      have c1 := below_cell hbel (Nat.le_refl _) c1
      simp only at c0 c1
      clear hp hc
      obtain ⟨W1, hW1⟩ : ∃ V, V = wr.alloc (.cells #[.int .i64 pp, .slice sa sl.length sc] 27) := ⟨_, rfl⟩
      have hbw : Below w.heap.size w W1 := by rw [hW1]; exact hbel.alloc hbel.size _
      have HW1 := Lib.hid hW1
      clear hW1
      by_cases he : pp = pred
      · have hRt : R = true := by
          rw [HR.out]
          simp only [decide_eq_true_eq]
          exact ⟨_, List.mem_of_getElem? Hp.out, he⟩
        subst hRt
        have he2 : (pp == pred) = true := by simp [he]
        clear he
        go_wp2_with fail
        go_ret
        rw [← HW1.out]
        exact ⟨rfl, hbw⟩
      · have HK2 : Hid (∀ p ∈ ps.take (k + 1), p.1 ≠ pred) := Lib.hid (by
          rw [take_snoc' Hp.out]
          intro y hy
          rcases List.mem_append.1 hy with hy | hy
          · exact HK.out y hy
          · rw [List.mem_singleton] at hy; rw [hy]; exact he)
        clear HK
        have he2 : (pp == pred) = false := by simp [he]
        clear he
        go_wp2_with fail
        rw [← HW1.out]
        go_roundw
        case rel => exact ⟨k + 1, by go_num, by omega, hbw, HK2⟩
        case measure => simp [intOf]; omega
    · have hRf : R = false := by
        rw [HR.out]
        have := HK.out
        rw [List.take_of_length_le (by rw [← Hn.out]; omega)] at this
        simp only [decide_eq_false_iff_not]
        exact fun ⟨p, hp, e⟩ => this p hp e
      subst hRf
      go_wp2_with fail
      go_ret
      exact ⟨rfl, hbel⟩
end Mt
end Go.Proofs.Ytkejjiohkhlnnaa

namespace Go.Proofs.Ytkejjiohkhlnnaa
open Go.RowKit
namespace Mt

theorem conds_len (R : RuleV) : (condsL R).length = R.pos.length + R.tests.length + R.neg.length := by
  simp [condsL]
  omega
/-- lists handed out, each with its capacity -/
def ListsC (w : World) (a : Option Addr) (ls : List (List Int)) : Prop :=
  ls = [] ∨ ∃ b off, a = some ⟨b, off, none⟩ ∧ ∀ (i : Nat) l, ls[i]? = some l → ∃ ai ci, w.cell? ⟨b, off + i, none⟩ = some (.slice ai l.length ci) ∧ Ints w ai l ∧ ((ai = none ∧ l = [] ∧ ci = 0) ∨ ∃ g, ai = some ⟨g, 0, none⟩ ∧ l.length ≤ ci ∧ ci ≤ maxLen)
theorem ListsC.lists {w : World} {a : Option Addr} {ls : List (List Int)} (h : ListsC w a ls) : ListsV w a ls := by
  rcases h with h | ⟨b, off, ha, hc⟩
  · exact .inl h
  · refine .inr ⟨b, off, ha, fun i l hl => ?_⟩
    obtain ⟨ai, ci, h1, h2, -⟩ := hc i l hl
    exact ⟨ai, ci, h1, h2⟩
theorem ListsC.below {w w' : World} {B : Nat} {a : Option Addr} {ls : List (List Int)} (h : ListsC w a ls) (hb : Below B w w') (hB : w.heap.size ≤ B) : ListsC w' a ls := by
  rcases h with h | ⟨b, off, ha, hc⟩
  · exact .inl h
  · refine .inr ⟨b, off, ha, fun i l hl => ?_⟩
    obtain ⟨ai, ci, h1, h2, h3⟩ := hc i l hl
    exact ⟨ai, ci, below_cell hb hB h1, Ints.old h2 hb hB, h3⟩
theorem listsC_at {w : World} {a : Option Addr} {ls : List (List Int)} (h : ListsC w a ls) {k : Nat} (hk : k < ls.length) : ∃ b off l ai ci, a = some ⟨b, off, none⟩ ∧ ls[k]? = some l ∧ w.cell? ⟨b, off + k, none⟩ = some (.slice ai l.length ci) ∧ Ints w ai l ∧ ((ai = none ∧ l = [] ∧ ci = 0) ∨ ∃ g, ai = some ⟨g, 0, none⟩ ∧ l.length ≤ ci ∧ ci ≤ maxLen) := by
  rcases h with h | ⟨b, off, ha, hc⟩
  · rw [h] at hk; simp at hk
  · obtain ⟨ai, ci, h1, h2, h3⟩ := hc k _ (List.getElem?_eq_getElem hk)
    exact ⟨b, off, _, ai, ci, ha, List.getElem?_eq_getElem hk, h1, h2, h3⟩
theorem OutV.listsC {ob : Nat} {v : Value} {ls : List (List Int)} {w : World} (O : OutV ob v ls w) : ∃ a c, v = .slice a ls.length c ∧ ListsC w a ls := by
  obtain ⟨hs, h1, h2, h3⟩ := O.row
  rcases owns_form h1 with ⟨rfl, h, _⟩ | ⟨g, cap, rfl, hg, _, hnc, hcm, _, hc, _⟩
  · exact ⟨none, 0, by rw [h], .inl (List.eq_nil_of_length_eq_zero h)⟩
  · refine ⟨_, _, rfl, .inr ⟨g, 0, rfl, fun i l hl => ?_⟩⟩
    obtain ⟨u, a0, b0, d0⟩ := h2 i l hl
    obtain ⟨ai, ci, rfl, hI⟩ := ints_of_row b0
    refine ⟨ai, ci, by rw [Nat.zero_add]; exact hc i _ a0, hI, ?_⟩
    rcases owns_form b0 with ⟨h5, h6, h7⟩ | ⟨g', cap', h5, _, _, hnc', hcm', _, _, _⟩
    · injection h5 with e1 e2 e3
      exact .inl ⟨e1, List.eq_nil_of_length_eq_zero e2, e3⟩
    · injection h5 with e1 e2 e3
      exact .inr ⟨g', e1, by rw [e3]; exact hnc', by rw [e3]; exact hcm'⟩
theorem Ints.take {w : World} {a : Option Addr} {xs : List Int} (h : Ints w a xs) (m : Nat) : Ints w a (xs.take m) := by
  rcases h with h | ⟨b, off, ha, hc⟩
  · exact .inl (by rw [h]; simp)
  · refine .inr ⟨b, off, ha, fun i hi => ?_⟩
    rw [List.getElem_take]
    exact hc i (by rw [List.length_take] at hi; omega)
theorem slot_mono {d n L : Nat} {s : Sl} (h : SlotOk n d s) (hn : n ≤ L) : SlotOk L d s := by
  obtain ⟨h0, h1⟩ := h
  refine ⟨h0, ?_⟩
  split at h1
  · rename_i hs; rw [if_pos hs]; omega
  · rename_i hs; rw [if_neg hs]; exact h1
/-- the slots of conditions are bound behind them -/
theorem cd_slots {d : Nat} : ∀ (c : List Cd) (n L : Nat), CdOk d c n → nextC c n = some L → ∀ q ∈ c, match q with
    | .pos p => ∀ s ∈ p.2, SlotOk L d s
    | .tst t => SlotOk L d t.2.1 ∧ SlotOk L d t.2.2
    | .neg p => ∀ s ∈ p.2, SlotOk L d s
  | [], n, L, _, _, q, hq => by cases hq
  | .pos p :: c, n, L, ho, hn, q, hq => by
    simp only [nextC] at hn
    obtain ⟨k, h1, h2⟩ := Option.bind_eq_some_iff.1 hn
    obtain ⟨k', h3, h4, h5⟩ := ho
    rw [h1] at h3
    cases h3
    rcases List.mem_cons.1 hq with rfl | hq
    · exact fun s hs => slot_mono (h4 s hs) (nextC_mono _ _ _ h2)
    · exact cd_slots c k L h5 h2 q hq
  | .tst t :: c, n, L, ho, hn, q, hq => by
    simp only [nextC] at hn
    rcases List.mem_cons.1 hq with rfl | hq
    · exact ⟨slot_mono ho.1.2.2.1 (nextC_mono _ _ _ hn), slot_mono ho.1.2.2.2 (nextC_mono _ _ _ hn)⟩
    · exact cd_slots c n L ho.2 hn q hq
  | .neg p :: c, n, L, ho, hn, q, hq => by
    simp only [nextC] at hn
    rcases List.mem_cons.1 hq with rfl | hq
    · exact fun s hs => slot_mono (ho.1.2.2 s hs) (nextC_mono _ _ _ hn)
    · exact cd_slots c n L ho.2 hn q hq
theorem cd_take {rows : List Row} {cs : List C3} {d n L : Nat} {c : List Cd} (ho : CdOk d c n) (hn : nextC c n = some L) (x : List Int) {q : Cd} (hq : q ∈ c) : CdSat rows cs (x.take L) q ↔ CdSat rows cs x q := by
  have h := cd_slots c n L ho hn q hq
  cases q with
  | pos p => show (p.1, argsL p.2 (x.take L)) ∈ rows ↔ (p.1, argsL p.2 x) ∈ rows; rw [args_take x h]
  | tst t => show (holdsR cs t.1 (putL t.2.1 (x.take L)) (putL t.2.2 (x.take L))).1 = true ↔ (holdsR cs t.1 (putL t.2.1 x) (putL t.2.2 x)).1 = true; rw [put_take x h.1, put_take x h.2]
  | neg p => show (p.1, argsL p.2 (x.take L)) ∉ rows ↔ (p.1, argsL p.2 x) ∉ rows; rw [args_take x h]
theorem wid_mono {R : RuleV} {d : Nat} (ok : RuleOk R d) {j k : Nat} (hk : j ≤ k) : wid R j ≤ wid R k := by
  have h := (wid_is ok k).1
  have e : (condsL R).take k = (condsL R).take j ++ ((condsL R).take k).drop j := by
    have := List.take_append_drop j ((condsL R).take k)
    rw [List.take_take, Nat.min_eq_left hk] at this
    exact this.symm
  rw [e] at h
  obtain ⟨n, h1, h2⟩ := nextC_split _ _ _ _ h
  rw [(wid_is ok j).1] at h1
  cases h1
  exact nextC_mono _ _ _ h2
theorem wid_late {R : RuleV} {d : Nat} (ok : RuleOk R d) {k : Nat} (hk : R.pos.length ≤ k) : wid R k = R.nv := by
  have h := (wid_is ok k).1
  have e : (condsL R).take k = R.pos.map Cd.pos ++ (R.tests.map Cd.tst ++ R.neg.map Cd.neg).take (k - R.pos.length) := by
    unfold condsL
    rw [List.append_assoc, List.take_append, List.length_map, List.take_of_length_le (by simpa using hk)]
  rw [e, nextC_app _ _ 0 R.nv (by rw [nextC_pos]; exact ok.next)] at h
  rw [nextC_rest] at h
  · exact (Option.some.inj h).symm
  · intro c hc p
    have hc := List.mem_of_mem_take hc
    rcases List.mem_append.1 hc with hc | hc
    · obtain ⟨t, -, rfl⟩ := List.mem_map.1 hc; simp
    · obtain ⟨t, -, rfl⟩ := List.mem_map.1 hc; simp
theorem sat_less {rows : List Row} {cs : List C3} {R : RuleV} (ok : RuleOk R cs.length) {j k : Nat} (hk : j ≤ k) {x : List Int} (h : Sat rows cs R k x) : Sat rows cs R j (x.take (wid R j)) := by
  obtain ⟨h1, h2, h3⟩ := h
  have hm := wid_mono ok hk
  refine ⟨by rw [List.length_take]; omega, ids_take h2, fun q hq => (cd_take (conds_ok ok j) (wid_is ok j).1 x hq).2 (h3 q ?_)⟩
  have e : (condsL R).take j = ((condsL R).take k).take j := by rw [List.take_take, Nat.min_eq_left hk]
  rw [e] at hq
  exact List.mem_of_mem_take hq
theorem nodup_le {α : Type} [DecidableEq α] {a b : List α} (ha : a.Nodup) (hb : b.Nodup) (h : ∀ x ∈ a, x ∈ b) : a.length ≤ b.length := by
  have hp : a.Perm (b.filter (fun x => decide (x ∈ a))) := (List.perm_ext_iff_of_nodup ha (hb.filter _)).2 fun x => by
    rw [List.mem_filter]
    simp only [decide_eq_true_eq]
    exact ⟨fun hx => ⟨h x hx, hx⟩, fun hx => hx.2⟩
  rw [hp.length_eq]
  exact List.length_filter_le _ _
theorem grows_plain {rows : List Row} {cs : List C3} {R : RuleV} (hr : ∀ r ∈ rows, IdsIn cs.length r.2) (hd : rows.Nodup) (ok : RuleOk R cs.length) (k : Nat) :
    (∀ x ∈ pre rows cs R (k + 1), wid R k ≤ x.length ∧ x.take (wid R k) ∈ pre rows cs R k ∧ IdsIn cs.length x ∧ x.length = wid R (k + 1)) ∧ (∀ y ∈ pre rows cs R k, y.length = wid R k) ∧
    (∀ p, R.pos[k]? = some p → (∀ x ∈ pre rows cs R (k + 1), (p.1, argsL p.2 x) ∈ rows) ∧ ∀ s ∈ p.2, SlotOk (wid R (k + 1)) cs.length s) ∧ (R.pos.length ≤ k → (pre rows cs R (k + 1)).length ≤ (pre rows cs R k).length) := by
  have m1 : ∀ x ∈ pre rows cs R (k + 1), wid R k ≤ x.length ∧ x.take (wid R k) ∈ pre rows cs R k ∧ IdsIn cs.length x ∧ x.length = wid R (k + 1) := fun x hx => by
    have h := (pre_iff hr ok (k + 1) x).1 hx
    exact ⟨by rw [h.1]; exact wid_mono ok (Nat.le_succ k), (pre_iff hr ok k _).2 (sat_less ok (Nat.le_succ k) h), h.2.1, h.1⟩
  refine ⟨m1, fun y hy => ((pre_iff hr ok k y).1 hy).1, fun p hp => ?_, fun hk => ?_⟩
  · have hc : Cd.pos p ∈ (condsL R).take (k + 1) := by
      rw [List.mem_iff_getElem?]
      refine ⟨k, ?_⟩
      rw [List.getElem?_take, if_pos (Nat.lt_succ_self k)]
      unfold condsL
      have hlt := (List.getElem?_eq_some_iff.1 hp).1
      rw [List.append_assoc, List.getElem?_append_left (by simpa using hlt), List.getElem?_map, hp]
      rfl
    exact ⟨fun x hx => ((pre_iff hr ok (k + 1) x).1 hx).2.2 _ hc, cd_slots _ _ _ (conds_ok ok (k + 1)) (wid_is ok (k + 1)).1 _ hc⟩
  · refine nodup_le (pre_nodup hr hd ok _) (pre_nodup hr hd ok _) fun x hx => ?_
    obtain ⟨a, b, c, e⟩ := m1 x hx
    have h1 := wid_late ok hk
    have h2 := wid_late ok (k := k + 1) (by omega)
    rwa [List.take_of_length_le (by omega)] at b
theorem pre_zero {rows : List Row} {cs : List C3} {R : RuleV} : pre rows cs R 0 = [[]] := by
  unfold pre
  rw [srtL_small]
  · simp [resL]
  · simp [resL]
end Mt
end Go.Proofs.Ytkejjiohkhlnnaa

namespace Go.Proofs.Ytkejjiohkhlnnaa
open Go.RowKit
namespace Mt

set_option linter.unusedSimpArgs false in
set_option maxHeartbeats 16000000 in
set_option maxRecDepth 100000 in
theorem matchGrows_any (T0 : WorldV) (w : World) (hin : WorldIn w T0) :
    Calls Try.prog 4 #[.agg T0.cells] w fun e w' => e = .returned (.bool true) ∧ Below w.heap.size w w' := by
  obtain ⟨W0, hW0⟩ : ∃ V, V = w.alloc (.cells T0.cells 34) := ⟨_, rfl⟩
  obtain ⟨b2, hb2⟩ : ∃ b, b = w.heap.size := ⟨_, rfl⟩
  have hb0 : Below w.heap.size w W0 := by rw [hW0]; exact (Below.refl _ _).alloc (Nat.le_refl _) _
  have hq2 : W0.heap[b2]? = some (.cells T0.cells 34 (0, 0)) := by rw [hW0, hb2]; exact World.alloc_heap_new w _
  have cT := Lib.hid (hin.below hb0).tamed
  obtain ⟨⟨x0, x1, x2⟩, ⟨x3, x4, x5, x6, x7, x8, x9⟩, x10⟩ := world_cells hq2
  have HW0 : Hid (W0 = w.alloc (.cells #[.slice T0.aa T0.ar.length T0.ac, .slice T0.ra T0.rows.length T0.rc, .slice T0.ca T0.cs.length T0.cc, .int .i64 T0.R.hp, .slice T0.R.ha T0.R.hn T0.R.hc, .slice T0.R.pa T0.R.pos.length T0.R.pc, .slice T0.R.ta T0.R.tests.length T0.R.tc, .slice T0.R.na T0.R.neg.length T0.R.nc, .slice T0.R.va T0.R.nv T0.R.vc, .int .i64 T0.R.cl, .int .i64 T0.K] 34)) := Lib.hid hW0
  have Hb2 := Lib.hid hb2
  have Hb0 := Lib.hid hb0
  simp only [WorldV.cells] at cT ⊢
  clear hW0 hb2 hb0 hq2 hin
  go_enter Try.func4, Try.ntmps4
  go_upto_region 1 with fail
  rw [← HW0.out, ← Hb2.out]
  clear HW0
  go_upto_region 2 with (first | (go_at_call 11; (with_reducible refine cT.out.mono ?_); rintro e w1 ⟨T, rfl, hT, hb1, -⟩; simp only [WorldV.cells]; have HT1 := Lib.hid hT; have Hb1 := Lib.hid hb1; clear hT hb1))
  obtain ⟨W2, hW2⟩ : ∃ V, V = w1.alloc (.cells #[.slice T.aa T.ar.length T.ac, .slice T.ra T.rows.length T.rc, .slice T.ca T.cs.length T.cc, .int .i64 T.R.hp, .slice T.R.ha T.R.hn T.R.hc, .slice T.R.pa T.R.pos.length T.R.pc, .slice T.R.ta T.R.tests.length T.R.tc, .slice T.R.na T.R.neg.length T.R.nc, .slice T.R.va T.R.nv T.R.vc, .int .i64 T.R.cl, .int .i64 T.K] 34) := ⟨_, rfl⟩
  obtain ⟨b5, hb5⟩ : ∃ b, b = w1.heap.size := ⟨_, rfl⟩
  rw [← hW2, ← hb5]
  have hbw2 : Below w1.heap.size w1 W2 := by rw [hW2]; exact (Below.refl _ _).alloc (Nat.le_refl _) _
  have hq5 : W2.heap[b5]? = some (.cells T.cells 34 (0, 0)) := by rw [hW2, hb5]; exact World.alloc_heap_new w1 _
  have HT := Lib.hid (HT1.out.below hbw2)
  have HB2 : Hid (Below w.heap.size w W2) := Lib.hid (below_chain (below_chain Hb0.out Hb1.out) hbw2)
  obtain ⟨⟨y0, y1, y2⟩, ⟨y3, y4, y5, y6, y7, y8, y9⟩, y10⟩ := world_cells hq5
  clear hW2 hb5 hbw2 hq5 HT1 Hb1 x0 x1 x2 x3 x4 x5 x6 x7 x8 x9 x10 cT
  have cF : Hid (Calls Try.prog 12 #[.agg #[.slice T.aa T.ar.length T.ac, .slice T.ra T.rows.length T.rc, .slice T.ca T.cs.length T.cc, .int .i64 T.R.hp, .slice T.R.ha T.R.hn T.R.hc, .slice T.R.pa T.R.pos.length T.R.pc, .slice T.R.ta T.R.tests.length T.R.tc, .slice T.R.na T.R.neg.length T.R.nc, .slice T.R.va T.R.nv T.R.vc, .int .i64 T.R.cl, .int .i64 T.K]] W2 (FullEnd T W2)) := Lib.hid (full_any T _ W2 HT.out)
  go_upto_region 3 with (first | (go_at_call 12; (with_reducible refine cF.out.mono ?_); rintro e V1 ⟨sb, n1, rfl, h1, hv1⟩; have HS1 := Lib.hid h1; have HB1 := Lib.hid hv1; clear h1 hv1))
  have HT1 := Lib.hid (HT.out.below HB1.out)
  have y2 := on_cell HB1.out y2
  have y3 := on_cell HB1.out y3
  have y4 := on_cell HB1.out y4
  have y5 := on_cell HB1.out y5
  have y6 := on_cell HB1.out y6
  have y7 := on_cell HB1.out y7
  have y8 := on_cell HB1.out y8
  have y9 := on_cell HB1.out y9
  have y10 := on_cell HB1.out y10
  clear cF y0 y1 HT
  obtain ⟨rows, hrows⟩ : ∃ rows, rows = joinedL [] T.rows := ⟨_, rfl⟩
  have HJ : Hid (rows.length ≤ 30 ∧ (∀ r ∈ rows, IdsIn T.cs.length r.2) ∧ rows.Nodup) := Lib.hid (by rw [hrows]; exact ⟨by have := HT1.out.joined.1; omega, HT1.out.joined.2, joinedL_nodup _⟩)
  rw [← hrows] at HS1
  clear hrows
  have HK := HT1.out.K
  obtain ⟨k, hk⟩ := Int.eq_ofNat_of_zero_le HK.1
  have hkl : k ≤ (condsL T.R).length := by
    have := conds_len T.R
    omega
  rw [hk] at y10
  have cP : ∀ (j : Nat) (P : List (List Int)), P = pre rows T.cs T.R j → j ≤ (condsL T.R).length → ∀ V, Below V1.heap.size V1 V → Hid (Calls Try.prog 15 #[.pointer (some ⟨sb, 0, none⟩), .slice T.ca T.cs.length T.cc, .agg #[.int .i64 T.R.hp, .slice T.R.ha T.R.hn T.R.hc, .slice T.R.pa T.R.pos.length T.R.pc, .slice T.R.ta T.R.tests.length T.R.tc, .slice T.R.na T.R.neg.length T.R.nc, .slice T.R.va T.R.nv T.R.vc, .int .i64 T.R.cl], .int .i64 (j : Int)] V (AllEnd P V)) := fun j P hP hj V hV => Lib.hid (by
    rw [hP]
    have h := HT1.out.below hV
    exact prefix_L HS1.out hV T.R h.rule T.ca T.cc T.cs h.con h.ruleOk h.conOk.1 HJ.out.1 h.lens.1 HJ.out.2.1 h.rng j hj)
  have HCP := Lib.hid cP
  clear cP HK hk
  cases k with
  | zero =>
    have y10 : V1.cell? ⟨b5, 10, none⟩ = some (.int .i64 0) := y10
    have cP0 := HCP.out 0 [[]] pre_zero.symm (Nat.zero_le _) V1 (Below.refl _ _)
    rw [show ((0 : Nat) : Int) = 0 from rfl] at cP0
    clear HCP
    go_upto_region 5 with (first | (go_at_call 15; (with_reducible refine cP0.out.mono ?_); rintro e V2 ⟨v, ob, rfl, O2, hb2, -⟩; obtain ⟨a2, c2, rfl, hL⟩ := O2.lists))
    obtain ⟨g2, o2, l2, ai, ci, rfl, hl2, z0, -⟩ := lists_at hL (k := 0) (by simp)
    have hl2 : l2 = [] := by simpa using hl2.symm
    subst hl2
    simp only [List.length_nil, Nat.add_zero, List.length_cons, Nat.zero_add] at z0 ⊢
    have HB3 := Lib.hid hb2
    clear hL O2 hb2 cP0
    go_wp2_with (first | (go_at_call 17; (with_reducible refine (taken_any _).mono ?_); rintro e w8 ⟨rfl, hb8⟩))
    go_ret
    exact ⟨rfl, below_chain (below_chain (below_chain HB2.out HB1.out) HB3.out) hb8⟩
  | succ k =>
    have y10 : V1.cell? ⟨b5, 10, none⟩ = some (.int .i64 ((k : Int) + 1)) := by have := y10; rwa [show ((k + 1 : Nat) : Int) = (k : Int) + 1 by omega] at this
    obtain ⟨PA, hPA⟩ : ∃ P, P = pre rows T.cs T.R k := ⟨_, rfl⟩
    obtain ⟨PB, hPB⟩ : ∃ P, P = pre rows T.cs T.R (k + 1) := ⟨_, rfl⟩
    obtain ⟨m, hm⟩ : ∃ m, m = wid T.R k := ⟨_, rfl⟩
    have HG : Hid ((∀ x ∈ PB, m ≤ x.length ∧ x.take m ∈ PA ∧ IdsIn T.cs.length x ∧ x.length = wid T.R (k + 1)) ∧ (∀ y ∈ PA, y.length = m) ∧ (∀ p, T.R.pos[k]? = some p → (∀ x ∈ PB, (p.1, argsL p.2 x) ∈ rows) ∧ ∀ s ∈ p.2, SlotOk (wid T.R (k + 1)) T.cs.length s) ∧ (T.R.pos.length ≤ k → PB.length ≤ PA.length)) := Lib.hid (by
      rw [hPA, hPB, hm]
      exact grows_plain HJ.out.2.1 HJ.out.2.2 HT1.out.ruleOk k)
    have HSA : Hid (PA.length ≤ 1000000 ∧ ∀ x ∈ PA, x.length ≤ 1000000) := Lib.hid (by rw [hPA]; exact pre_small HJ.out.2.1 HT1.out.ruleOk HJ.out.1 HT1.out.lens.1 k)
    have HSB : Hid (PB.length ≤ 1000000 ∧ ∀ x ∈ PB, x.length ≤ 1000000) := Lib.hid (by rw [hPB]; exact pre_small HJ.out.2.1 HT1.out.ruleOk HJ.out.1 HT1.out.lens.1 (k + 1))
    have cPA := HCP.out k PA hPA (by omega) V1 (Below.refl _ _)
    have HCB := Lib.hid (fun V (hV : Below V1.heap.size V1 V) => HCP.out (k + 1) PB hPB hkl V hV)
    clear HCP hPA hPB hm
    have hw1 : IntKind.i64.wrap (k : Int) = (k : Int) := IntWalk.i64_in _ (by have := conds_len T.R; have := HT1.out.ruleOk.conds; omega)
    have hk0 : ((k : Int) + 1 == 0) = false := by simp; omega
    have hk0' : ¬ ((k : Int) + 1 = 0) := by omega
    go_upto_region 7 with (first | (go_at_call 15; (with_reducible refine cPA.out.mono ?_); rintro e V2 ⟨v, ob, rfl, O2, hb2, -⟩; obtain ⟨a2, c2, rfl, hL⟩ := O2.lists; have HLA := Lib.hid hL; have HB3 := Lib.hid hb2; clear hL O2 hb2))
    have y2 := on_cell HB3.out y2
    have y3 := on_cell HB3.out y3
    have y4 := on_cell HB3.out y4
    have y5 := on_cell HB3.out y5
    have y6 := on_cell HB3.out y6
    have y7 := on_cell HB3.out y7
    have y8 := on_cell HB3.out y8
    have y9 := on_cell HB3.out y9
    have y10 := on_cell HB3.out y10
    have cPB := HCB.out V2 HB3.out
    rw [show (((k + 1 : Nat) : Int)) = (k : Int) + 1 by omega] at cPB
    go_upto_region 8 with (first | (go_at_call 15; (with_reducible refine cPB.out.mono ?_); rintro e V3 ⟨v, ob, rfl, O3, hb3, -⟩; obtain ⟨a3, c3, rfl, hL3⟩ := O3.listsC; have HLB := Lib.hid hL3; have HB4 := Lib.hid hb3; clear hL3 O3 hb3))
    have HLA3 := Lib.hid (HLA.out.below HB4.out (Nat.le_refl _))
    have hbV : Below V1.heap.size V1 V3 := below_chain HB3.out HB4.out
    have HS3 := Lib.hid (HS1.out.below hbV)
    have HT3 := Lib.hid (HT1.out.below hbV)
    have y5 := on_cell HB4.out y5
    have y10 := on_cell HB4.out y10
    have HB5 : Hid (Below w.heap.size w V3) := Lib.hid (below_chain (below_chain HB2.out HB1.out) hbV)
    clear y2 y3 y4 y6 y7 y8 y9 cPA cPB HCB HLA hbV HS1 HT1 HB1 HB2 HB3 HB4
    obtain ⟨AN, hAN⟩ : ∃ n, n = PA.length := ⟨_, rfl⟩
    obtain ⟨BN, hBN⟩ : ∃ n, n = PB.length := ⟨_, rfl⟩
    obtain ⟨PN, hPN⟩ : ∃ n, n = T.R.pos.length := ⟨_, rfl⟩
    rw [← hAN, ← hBN]
    rw [← hPN] at y5
    have hPN4 : PN ≤ 4 := by rw [hPN]; exact HT3.out.lens.1
    have hk16 : k < 16 := by have := conds_len T.R; have := HT3.out.ruleOk.conds; omega
    have hBle : BN ≤ 1000000 := by rw [hBN]; exact HSB.out.1
    have hAle : AN ≤ 1000000 := by rw [hAN]; exact HSA.out.1
    have HAN := Lib.hid hAN
    have HBN := Lib.hid hBN
    have HPN := Lib.hid hPN
    clear hAN hBN hPN hkl
    have y5a := y5
    have y10a := y10
    go_upto_block 0 with fail
    clear y5 y10
    go_cut [] (fun w' => Hid (Below V3.heap.size V3 w'))
    case first =>
      have y5 := y5a
      have y10 := y10a
      go_wp2_with fail
      clear y5 y10
      go_loopw [77] (fun t w' => ∃ (i : Nat), t = .int .i64 i ∧ i ≤ BN ∧ Hid (Below V3.heap.size V3 w')) (fun t _ => BN - (intOf t).toNat)
      case atStart => exact ⟨0, rfl, Nat.zero_le _, Lib.hid (Below.refl _ _)⟩
      case round =>
        obtain ⟨i, rfl, hiB, HBr⟩ := hrel
        by_cases hlt : i < BN
        · obtain ⟨gb, ob, x, ai, ci, rfl, hx, z0, iI, hcap⟩ := listsC_at HLB.out (k := i) (by rw [← HBN.out]; exact hlt)
          have hxm := List.mem_of_getElem? hx
          obtain ⟨k1, k2, k3, k4⟩ := HG.out.1 x hxm
          have hpa : 0 < PA.length := List.length_pos_of_mem k2
          obtain ⟨ga, oa, l0, a0, c0, rfl, hl0, z1, -⟩ := lists_at HLA3.out (k := 0) hpa
          have hl0m := HG.out.2.1 l0 (List.mem_of_getElem? hl0)
          rw [hl0m, Nat.add_zero] at z1
          rw [← HAN.out] at hpa
          have hxl : x.length ≤ 1000000 := HSB.out.2 x hxm
          have hIT : Ints V3 ai (x.take m) := Mt.Ints.take iI m
          have hxt : (x.take m).length = m := by rw [List.length_take]; omega
          have z0 := below_cell HBr.out (Nat.le_refl _) z0
          have z1 := below_cell HBr.out (Nat.le_refl _) z1
          have cH := fun c' ci' => Lib.hid (has_any (some ⟨ga, oa, none⟩) ai c' ci' PA (x.take m) wr (HLA3.out.below HBr.out (Nat.le_refl _)) (Ints.old hIT HBr.out (Nat.le_refl _)) HSA.out.1 HSA.out.2 true (by simpa using k2))
          rw [hxt, ← HAN.out] at cH
          obtain ⟨xl, hxl'⟩ : ∃ n, n = x.length := ⟨_, rfl⟩
          have HXL := Lib.hid hxl'
          rw [← hxl'] at z0 k1 hxl
          have HX : Hid (IdsIn T.cs.length x ∧ x.length = wid T.R (k + 1) ∧ x ∈ PB) := Lib.hid ⟨k3, k4, hxm⟩
          have HII := Lib.hid iI
          have hA0 : ((AN : Int) == 0) = false := by simp; omega
          have hA0' : ¬ ((AN : Int) = 0) := by omega
          have hxm' : ¬ ((xl : Int) < (m : Int)) := by omega
          have zA : (0 : Int) < (AN : Int) := by omega
          have hml : m ≤ 1000000 := by omega
          have HC : Hid ((ai = none ∧ x = [] ∧ ci = 0) ∨ ∃ g, ai = some ⟨g, 0, none⟩ ∧ x.length ≤ ci ∧ ci ≤ maxLen) := Lib.hid hcap
          clear hx hxm k2 k3 k4 hpa hl0 hl0m hIT hxt hxl' iI hcap
          go_upto_region 13 with fail
          go_cut [103] (fun t w' => t = .bool false ∧ Hid (Below V3.heap.size V3 w'))
          case first =>
            rcases HC.out with ⟨rfl, e2, rfl⟩ | ⟨g, rfl, e2, e3⟩
            · have e4 : xl = 0 := by rw [HXL.out, e2]; rfl
              subst e4
              have e5 : m = 0 := by omega
              subst e5
              go_wp2_with (first | (go_at_call 18; (with_reducible refine (cH _ _).out.mono ?_); rintro e V4 ⟨rfl, hV4⟩))
              go_meet
              exact ⟨rfl, Lib.hid (below_chain HBr.out hV4)⟩
            · have hmc : m ≤ ci := by rw [← HXL.out] at e2; omega
              have hmci : (m : Int) ≤ (ci : Int) := by omega
              have zm : (0 : Int) ≤ (m : Int) := by omega
              go_wp2_with (first | (go_at_call 18; (with_reducible refine (cH _ _).out.mono ?_); rintro e V4 ⟨rfl, hV4⟩))
              go_meet
              exact ⟨rfl, Lib.hid (below_chain HBr.out hV4)⟩
          case rest =>
            obtain ⟨rfl, HBr⟩ := hcut
            clear z0 z1 cH hA0 hA0' hxm' zA
            have y5 := below_cell HBr.out (Nat.le_refl _) y5a
            have y10 := below_cell HBr.out (Nat.le_refl _) y10a
            by_cases hkP : k < PN
            · have hkP1 : (k : Int) + 1 ≤ (PN : Int) := by omega
              obtain ⟨p, hp⟩ : ∃ p, p = T.R.pos[k]'(by rw [← HPN.out]; exact hkP) := ⟨_, rfl⟩
              have hpk : T.R.pos[k]? = some p := by rw [hp]; exact List.getElem?_eq_getElem _
              obtain ⟨bp, op, hpa, hpc⟩ : ∃ b off, T.R.pa = some ⟨b, off, none⟩ ∧ ∀ (i : Nat) (p : Pat), T.R.pos[i]? = some p → V3.cell? ⟨b, off + i * 2, none⟩ = some (.int .i64 p.1) ∧ ∃ sa sc, V3.cell? ⟨b, off + i * 2 + 1, none⟩ = some (.slice sa p.2.length sc) ∧ Slots V3 sa p.2 := by
                rcases HT3.out.rule.pos with h | h
                · have := HPN.out; rw [h] at this; simp at this; omega
                · exact h
              obtain ⟨c0, sa, sc, c1, hSl⟩ := hpc k p hpk
              rw [hpa] at y5
              have c0 := below_cell HBr.out (Nat.le_refl _) c0
              have c1 := below_cell HBr.out (Nat.le_refl _) c1
              obtain ⟨hsat, hslot⟩ := HG.out.2.2.1 p hpk
              obtain ⟨hX1, hX2, hX3⟩ := HX.out
              have hp1 : Rng p.1 := HT3.out.rng.1 p (List.mem_of_getElem? hpk)
              have hp8 : p.2.length ≤ 8 := (HT3.out.ruleOk.pos p (List.mem_of_getElem? hpk)).2.1
              have cR := Lib.hid (rowOf_any p sa ai sc ci x wc (hSl.below HBr.out (Nat.le_refl _)) hslot (by rw [hX2]; exact Nat.le_refl _) hX1 (Ints.old HII.out HBr.out (Nat.le_refl _)) hp8)
              have hargs : ∀ v ∈ argsL p.2 x, Rng v := fun v hv => by
                obtain ⟨s, hs, rfl⟩ := List.mem_map.1 hv
                have := put_in (hslot s hs) (by rw [hX2]; exact Nat.le_refl _) hX1
                have := HT3.out.conOk.2.2
                unfold Rng
                omega
              have hal : (argsL p.2 x).length ≤ 9223372036854775807 := by unfold argsL; rw [List.length_map]; omega
              have cH := fun V (hV : Below wc.heap.size wc V) a c (hI : IntsZ (fun j => wc.heap.size ≤ j) V a c (argsL p.2 x)) => Lib.hid (has_L HS3.out (HBr.out.trans (hV.mono HBr.out.size)) p.1 a c (argsL p.2 x) hI hp1 hargs hal true (by simpa using hsat x hX3))
              rw [← HXL.out] at cR
              have HcH := Lib.hid cH
              obtain ⟨pp, sl⟩ := p
              simp only at c0 c1 cR HcH
              clear hp hpk hpa hpc hSl hsat hslot hX1 hX2 hX3 hp1 hp8 hargs hal cH
              have zk : (0 : Int) ≤ (k : Int) := by omega
              have zkP : (k : Int) < (PN : Int) := by omega
              go_upto_if 125 with (first | (go_at_call 20; (with_reducible refine cR.out.mono ?_); rintro e V5 ⟨ra, rc, rfl, hI5, hV5⟩; have cH5 := HcH.out V5 hV5 ra rc hI5) | (go_at_call 19; (with_reducible refine cH5.out.mono ?_); rintro e V6 ⟨rfl, hV6⟩; have HB6 : Hid (Below V3.heap.size V3 V6) := Lib.hid (below_chain (below_chain HBr.out hV5) hV6)))
              clear cR HcH cH5 hI5 hV5 hV6
              go_wp2_with fail
              go_roundw
              case rel => exact ⟨i + 1, by go_num, by omega, HB6⟩
              case measure => simp [intOf]; omega
            · have hkP1 : ¬ ((k : Int) + 1 ≤ (PN : Int)) := by omega
              go_wp2_with fail
              go_roundw
              case rel => exact ⟨i + 1, by go_num, by omega, HBr⟩
              case measure => simp [intOf]; omega
        · have hie : i = BN := by omega
          subst hie
          go_wp2_with fail
          go_meet
          exact HBr
    case rest =>
      have HBr := hcut
      have y5 := below_cell HBr.out (Nat.le_refl _) y5a
      have y10 := below_cell HBr.out (Nat.le_refl _) y10a
      by_cases hkP : k < PN
      · have hkP1 : ¬ ((PN : Int) < (k : Int) + 1) := by omega
        go_wp2_with (first | (go_at_call 17; (with_reducible refine (taken_any _).mono ?_); rintro e w8 ⟨rfl, hb8⟩))
        go_ret
        exact ⟨rfl, below_chain (below_chain HB5.out HBr.out) hb8⟩
      · have hkP1 : (PN : Int) < (k : Int) + 1 := by omega
        have hle : BN ≤ AN := by
          rw [HBN.out, HAN.out]
          exact HG.out.2.2.2 (by rw [← HPN.out]; omega)
        have hle1 : ¬ ((AN : Int) < (BN : Int)) := by omega
        clear hle
        go_wp2_with (first | (go_at_call 17; (with_reducible refine (taken_any _).mono ?_); rintro e w8 ⟨rfl, hb8⟩))
        go_ret
        exact ⟨rfl, below_chain (below_chain HB5.out HBr.out) hb8⟩
end Mt
end Go.Proofs.Ytkejjiohkhlnnaa

namespace Go.Proofs.Ytkejjiohkhlnnaa
open Go.RowKit Go.ChangeShapes Go.WideShapes
namespace Mt

theorem cellsInt : Try.prog.cellsOf 3 = 1 := by kernel_rfl
theorem cellsBool : Try.prog.cellsOf 4 = 1 := by kernel_rfl
theorem cellsSlot : Try.prog.cellsOf 58 = 2 := by kernel_rfl
theorem bytesInt : Try.prog.bytesOf 3 = 8 := by kernel_rfl
theorem bytesSlot : Try.prog.bytesOf 58 = 16 := by kernel_rfl

theorem addr_add (b o j : Nat) : (⟨b, o, none⟩ : Addr).add j = ⟨b, o + j, none⟩ := by unfold Addr.add; split <;> simp_all

section
variable {H : Type} {enc : TypeId × Value → H} {W : World} {held : Bool}

/-- a slice of integers, opened: the integers in it, that they fit, and how long its datum is -/
theorem open_intSlice {fuel : Nat} {v : Value} {x : DataW H × List MemPlace} (h : DataW.trod enc Try.prog W 0 (fun _ => true) held fuel 22 [v] = some x) :
    ∃ a c xs, v = .slice a xs.length c ∧ IntSlice W a c xs ∧ (∀ y ∈ xs, (Lit.int .i64 y).wf = true) ∧
      ((x.1 = .nil ∧ xs = []) ∨ ∃ els sp, x.1 = .slice els sp ∧ els.length = xs.length ∧ els.length + sp.length = c ∧ els = xs.map (fun y => .lit (.int .i64 y))) := by
  rcases Deep.open_slice1 Try.underlying22 cellsInt h with ⟨h1, rfl⟩ | ⟨a, len, cap, m, n, V, D, Pl, h1, _, hl, hm, hmm, rfl, hx⟩
  · simp at h1
    subst h1
    exact ⟨none, 0, [], rfl, ⟨.inl rfl, fun _ => ⟨rfl, rfl⟩⟩, by simp, .inl ⟨rfl, rfl⟩⟩
  · simp at h1 hmm
    subst h1; subst hmm
    have hi : ∀ i, i < len → ∃ y, W.cell? (a.add i) = some (.int .i64 y) ∧ D i = .lit (.int .i64 y) ∧ (Lit.int .i64 y).wf = true := by
      intro i hi
      obtain ⟨c1, c2⟩ := hx i (by omega)
      obtain ⟨y, e1, e2, e3⟩ := DataW.trod_int Try.underlying3 c2
      simp at e1
      rw [e1] at c1
      simp only [Prod.mk.injEq] at e2
      exact ⟨y, c1, e2.1, e3⟩
    obtain ⟨f, hf⟩ := Deep.choose_lt (α := Int) hi
    refine ⟨some a, m, (List.range len).map f, by simp, ⟨?_, fun h => by cases h⟩, ?_, .inr ⟨_, _, rfl, by simp, by simp; omega, ?_⟩⟩
    · rcases Nat.eq_zero_or_pos len with h0 | h0
      · exact .inl (by simp [h0])
      · obtain ⟨b, o, sp⟩ := a
        have hs : sp = none := by
          have := World.cell?_spot (hf 0 h0).1
          simpa [Addr.add] using this
        subst hs
        refine .inr ⟨b, o, rfl, fun i hi => ?_⟩
        have hi' : i < len := by simpa using hi
        have := (hf i hi').1
        rw [addr_add] at this
        simpa using this
    · intro y hy
      obtain ⟨i, hi, rfl⟩ := List.mem_map.1 hy
      exact (hf i (by simpa using hi)).2.2
    · rw [List.map_map]
      exact List.map_congr_left fun i hi => (hf i (by simpa using hi)).2.1

/-- a slice of slots, opened -/
theorem open_slotSlice {fuel : Nat} {v : Value} {x : DataW H × List MemPlace} (h : DataW.trod enc Try.prog W 0 (fun _ => true) held fuel 25 [v] = some x) :
    ∃ a c l, v = .slice a l.length c ∧ SlotSlice W a c l ∧ (∀ y ∈ l, (Lit.int .i64 y.2).wf = true) ∧
      ((x.1 = .nil ∧ l = []) ∨ ∃ els sp, x.1 = .slice els sp ∧ els.length = l.length ∧ els.length + sp.length = c) := by
  rcases Deep.open_slice Try.underlying25 h with ⟨h1, rfl⟩ | ⟨a, len, cap, m, n, D, Pl, h1, _, hl, hm, hmm, rfl, hx⟩
  · simp at h1
    subst h1
    exact ⟨none, 0, [], rfl, ⟨.inl rfl, fun _ => ⟨rfl, rfl⟩⟩, by simp, .inl ⟨rfl, rfl⟩⟩
  · simp at h1 hmm
    subst h1; subst hmm
    rw [cellsSlot] at hx
    have hi : ∀ i, i < len → ∃ s : Bool × Int, W.cell? (a.add (i * 2)) = some (.bool s.1) ∧ W.cell? (a.add (i * 2 + 1)) = some (.int .i64 s.2) ∧ (Lit.int .i64 s.2).wf = true := by
      intro i hi
      obtain ⟨cs, c1, c2⟩ := hx i (by omega)
      obtain ⟨_, hlen, hc⟩ := World.cells?_some c1
      match cs, hlen with
      | [u0, u1], _ =>
        obtain ⟨y0, y1, k, _, _, t0, t1⟩ := trod_struct2 Try.underlying58 c2
        have t0' : DataW.trod enc Try.prog W 0 (fun _ => true) held k 4 [u0] = some y0 := by simpa [cellsBool] using t0
        have t1' : DataW.trod enc Try.prog W 0 (fun _ => true) held k 3 [u1] = some y1 := by simpa [cellsInt] using t1
        obtain ⟨bv, e1, _⟩ := DataW.trod_bool Try.underlying4 t0'
        obtain ⟨nv, e2, _, e3⟩ := DataW.trod_int Try.underlying3 t1'
        simp at e1 e2
        subst e1; subst e2
        have g0 := hc 0 (by omega)
        have g1 := hc 1 (by omega)
        refine ⟨(bv, nv), ?_, ?_, e3⟩
        · simpa [Addr.add] using g0
        · rw [Deep.add_add] at g1
          simpa using g1
    obtain ⟨f, hf⟩ := Deep.choose_lt (α := Bool × Int) hi
    refine ⟨some a, m, (List.range len).map f, by simp, ⟨?_, fun h => by cases h⟩, ?_, .inr ⟨_, _, rfl, by simp, by simp; omega⟩⟩
    · rcases Nat.eq_zero_or_pos len with h0 | h0
      · exact .inl (by simp [h0])
      · obtain ⟨b, o, sp⟩ := a
        have hs : sp = none := by
          have := World.cell?_spot (hf 0 h0).1
          simpa [Addr.add] using this
        subst hs
        refine .inr ⟨b, o, rfl, fun i hi => ?_⟩
        have hi' : i < len := by simpa using hi
        obtain ⟨g0, g1, _⟩ := hf i hi'
        rw [addr_add] at g0 g1
        rw [← Nat.add_assoc] at g1
        simpa using And.intro g0 g1
    · intro y hy
      obtain ⟨i, hi, rfl⟩ := List.mem_map.1 hy
      exact (hf i (by simpa using hi)).2.2

end

theorem sized_pattern {H : Type} {ts : List TypeId} {ds : List (DataW H)} {j : Nat} {d0 : DataW H} {els sp : List (DataW H)} (hsz : (DataW.weightsEach Try.prog ts ds).all (· ≤ reachBytes) = true)
    (ht : ts[j]? = some 27) (hd : ds[j]? = some (.agg [d0, .slice els sp])) : (els.length + sp.length) * 16 ≤ 140737488351232 := by
  have := List.all_eq_true.1 hsz _ (DataW.weights_mem_each ht hd ((els.length + sp.length) * Try.prog.bytesOf 58) (by simp [DataW.weights, DataW.weightsEach, Try.underlying27, Try.underlying25]))
  rw [bytesSlot] at this
  exact of_decide_eq_true this
end Mt
end Go.Proofs.Ytkejjiohkhlnnaa

namespace Go.Proofs.Ytkejjiohkhlnnaa
open Go.RowKit Go.ChangeShapes Go.WideShapes
namespace Op

theorem one_le {H : Type} (d : DataW H) : 1 ≤ Rows.uptoBulk d := by
  cases d with
  | lit l => cases l <;> simp [Rows.uptoBulk]
  | nil => simp [Rows.uptoBulk]
  | ptr d => simp [Rows.uptoBulk]
  | slice elems spare => simp [Rows.uptoBulk]
  | agg parts => simp [Rows.uptoBulk]
  | iface t d => simp [Rows.uptoBulk]
  | map entries => simp [Rows.uptoBulk]
  | held h => simp [Rows.uptoBulk]
theorem length_le {H : Type} (l : List (DataW H)) : l.length ≤ Rows.uptoBulkAll l := by
  induction l with
  | nil => simp [Rows.uptoBulkAll]
  | cons x r ih => have := one_le x; simp only [Rows.uptoBulkAll, List.length_cons]; omega
theorem sum_le {H : Type} (n : Nat) (f : Nat → Nat) (D : Nat → DataW H) (h : ∀ i, i < n → f i ≤ Rows.uptoBulk (D i)) : ((List.range n).map f).sum ≤ Rows.uptoBulkAll ((List.range n).map D) := by
  have key : ∀ l : List Nat, (∀ i ∈ l, i < n) → (l.map f).sum ≤ Rows.uptoBulkAll (l.map D) := by
    intro l
    induction l with
    | nil => simp [Rows.uptoBulkAll]
    | cons x r ih =>
      intro hl
      have h1 := h x (hl x (by simp))
      have h2 := ih (fun i hi => hl i (List.mem_cons_of_mem _ hi))
      simp only [List.map_cons, List.sum_cons, Rows.uptoBulkAll]
      omega
  exact key _ (fun i hi => List.mem_range.1 hi)

theorem cellsInt : Try.prog.cellsOf 3 = 1 := by kernel_rfl
theorem cellsInts : Try.prog.cellsOf 22 = 1 := by kernel_rfl
theorem cellsRow : Try.prog.cellsOf 50 = 2 := by kernel_rfl
theorem cellsRows : Try.prog.cellsOf 23 = 1 := by kernel_rfl

theorem addr_add (b o j : Nat) : (⟨b, o, none⟩ : Addr).add j = ⟨b, o + j, none⟩ := by unfold Addr.add; split <;> simp_all
theorem rng_wf {y : Int} (h : (Lit.int .i64 y).wf = true) : Rng y := by
  simp [Lit.wf, IntKind.min, IntKind.max, IntKind.signed, IntKind.bits] at h
  exact ⟨by omega, by omega⟩

section
variable {H : Type} {enc : TypeId × Value → H} {W : World} {held : Bool}

theorem open_ints {fuel : Nat} {v : Value} {x : DataW H × List MemPlace} (h : DataW.trod enc Try.prog W 0 (fun _ => true) held fuel 22 [v] = some x) :
    ∃ a c xs, v = .slice a xs.length c ∧ IntsZ (fun _ => True) W a c xs ∧ (∀ y ∈ xs, Rng y) ∧ xs.length ≤ maxLen ∧ xs.length ≤ Rows.uptoBulk x.1 := by
  rcases Deep.open_slice1 Try.underlying22 cellsInt h with ⟨h1, rfl⟩ | ⟨a, len, cap, m, n, V, D, Pl, h1, _, hl, hm, hmm, rfl, hx⟩
  · simp at h1
    subst h1
    exact ⟨none, 0, [], rfl, ⟨.inl rfl, fun _ => ⟨rfl, rfl⟩⟩, by simp, by simp, by simp⟩
  · simp at h1 hmm
    subst h1; subst hmm
    have hi : ∀ i, i < len → ∃ y, W.cell? (a.add i) = some (.int .i64 y) ∧ (Lit.int .i64 y).wf = true := by
      intro i hi
      obtain ⟨c1, c2⟩ := hx i (by omega)
      obtain ⟨y, e1, e2, e3⟩ := DataW.trod_int Try.underlying3 c2
      simp at e1
      rw [e1] at c1
      exact ⟨y, c1, e3⟩
    obtain ⟨f, hf⟩ := Deep.choose_lt (α := Int) hi
    refine ⟨some a, m, (List.range len).map f, by simp, ⟨?_, fun h => by cases h⟩, ?_, by simp; omega, ?_⟩
    · rcases Nat.eq_zero_or_pos len with h0 | h0
      · exact .inl (by simp [h0])
      · obtain ⟨b, o, sp⟩ := a
        have hs : sp = none := by
          have := World.cell?_spot (hf 0 h0).1
          simpa [Addr.add] using this
        subst hs
        refine .inr ⟨b, o, rfl, trivial, fun i hi => ?_⟩
        have hi' : i < len := by simpa using hi
        have := (hf i hi').1
        rw [addr_add] at this
        simpa using this
    · intro y hy
      obtain ⟨i, hi, rfl⟩ := List.mem_map.1 hy
      exact rng_wf (hf i (by simpa using hi)).2
    · have := length_le ((List.range len).map D)
      simp only [Rows.uptoBulk, List.length_map, List.length_range] at this ⊢
      omega

theorem open_rows {fuel : Nat} {v : Value} {x : DataW H × List MemPlace} (h : DataW.trod enc Try.prog W 0 (fun _ => true) held fuel 23 [v] = some x) :
    ∃ a c l, v = .slice a l.length c ∧ RowsZ (fun _ => True) W a c l ∧ (∀ r ∈ l, RowOk r) ∧ l.length ≤ maxLen ∧ l.length ≤ Rows.uptoBulk x.1 := by
  rcases Deep.open_slice Try.underlying23 h with ⟨h1, rfl⟩ | ⟨a, len, cap, m, n, D, Pl, h1, _, hl, hm, hmm, rfl, hx⟩
  · simp at h1
    subst h1
    exact ⟨none, 0, [], rfl, ⟨.inl rfl, fun _ => ⟨rfl, rfl⟩⟩, by simp, by simp, by simp⟩
  · simp at h1 hmm
    subst h1; subst hmm
    rw [cellsRow] at hx
    have hi : ∀ i, i < len → ∃ s : Int × Option Addr × Nat × List Int, W.cell? (a.add (i * 2)) = some (.int .i64 s.1) ∧ W.cell? (a.add (i * 2 + 1)) = some (.slice s.2.1 s.2.2.2.length s.2.2.1) ∧ IntsZ (fun _ => True) W s.2.1 s.2.2.1 s.2.2.2 ∧ RowOk (s.1, s.2.2.2) := by
      intro i hi
      obtain ⟨cs, c1, c2⟩ := hx i (by omega)
      obtain ⟨_, hlen, hc⟩ := World.cells?_some c1
      match cs, hlen with
      | [u0, u1], _ =>
        obtain ⟨y0, y1, k, _, _, t0, t1⟩ := trod_struct2 Try.underlying50 c2
        have t0' : DataW.trod enc Try.prog W 0 (fun _ => true) held k 3 [u0] = some y0 := by simpa [cellsInt] using t0
        have t1' : DataW.trod enc Try.prog W 0 (fun _ => true) held k 22 [u1] = some y1 := by simpa [cellsInts] using t1
        obtain ⟨nv, e2, _, e3⟩ := DataW.trod_int Try.underlying3 t0'
        obtain ⟨ai, ci, xs, e4, hI, hR, hml, _⟩ := open_ints t1'
        simp at e2
        subst e2; subst e4
        have g0 := hc 0 (by omega)
        have g1 := hc 1 (by omega)
        refine ⟨(nv, ai, ci, xs), ?_, ?_, hI, rng_wf e3, by unfold maxLen at hml; simpa using hml, hR⟩
        · simpa [Addr.add] using g0
        · rw [Deep.add_add] at g1
          simpa using g1
    obtain ⟨f, hf⟩ := Deep.choose_lt (α := Int × Option Addr × Nat × List Int) hi
    refine ⟨some a, m, (List.range len).map (fun i => ((f i).1, (f i).2.2.2)), by simp, ⟨?_, fun h => by cases h⟩, ?_, by simp; omega, ?_⟩
    · rcases Nat.eq_zero_or_pos len with h0 | h0
      · exact .inl (by simp [h0])
      · obtain ⟨b, o, sp⟩ := a
        have hs : sp = none := by
          have := World.cell?_spot (hf 0 h0).1
          simpa [Addr.add] using this
        subst hs
        refine .inr ⟨b, o, rfl, trivial, fun i hi => ?_⟩
        have hi' : i < len := by simpa using hi
        obtain ⟨g0, g1, g2, _⟩ := hf i hi'
        rw [addr_add] at g0 g1
        rw [← Nat.add_assoc] at g1
        refine ⟨by simpa using g0, (f i).2.1, (f i).2.2.1, by simpa using g1, by simpa using g2⟩
    · intro y hy
      obtain ⟨i, hi, rfl⟩ := List.mem_map.1 hy
      exact (hf i (by simpa using hi)).2.2.2
    · have := length_le ((List.range len).map D)
      simp only [Rows.uptoBulk, List.length_map, List.length_range] at this ⊢
      omega

end
end Op
end Go.Proofs.Ytkejjiohkhlnnaa

namespace Go.Proofs.Ytkejjiohkhlnnaa
open Go.RowKit Go.ChangeShapes Go.WideShapes
namespace Ow
open Mt

theorem cellsInt64 : Try.prog.cellsOf 2 = 1 := by kernel_rfl
theorem cellsString : Try.prog.cellsOf 9 = 1 := by kernel_rfl
theorem cellsBool : Try.prog.cellsOf 4 = 1 := by kernel_rfl
theorem cellsInt : Try.prog.cellsOf 3 = 1 := by kernel_rfl
theorem cellsSlot : Try.prog.cellsOf 58 = 2 := by kernel_rfl
theorem cellsConst : Try.prog.cellsOf 65 = 3 := by kernel_rfl
theorem cellsTest : Try.prog.cellsOf 60 = 5 := by kernel_rfl
theorem cellsPat : Try.prog.cellsOf 27 = 2 := by kernel_rfl
theorem cellsRule : Try.prog.cellsOf 32 = 7 := by kernel_rfl
theorem cellsWorld : Try.prog.cellsOf 34 = 11 := by kernel_rfl
theorem cellsSlots : Try.prog.cellsOf 25 = 1 := by kernel_rfl
theorem cellsPats : Try.prog.cellsOf 28 = 1 := by kernel_rfl
theorem cellsTests : Try.prog.cellsOf 29 = 1 := by kernel_rfl
theorem cellsStrs : Try.prog.cellsOf 30 = 1 := by kernel_rfl
theorem cellsInts : Try.prog.cellsOf 22 = 1 := by kernel_rfl
theorem cellsRows : Try.prog.cellsOf 23 = 1 := by kernel_rfl
theorem cellsConsts : Try.prog.cellsOf 24 = 1 := by kernel_rfl
section
variable {H : Type} {enc : TypeId × Value → H} {W : World} {held : Bool}
/-- a slice's elements, cell by cell: a list of what each is -/
theorem open_list {α : Type} [Inhabited α] {t e : TypeId} {size : Nat} {fuel : Nat} {v : Value} {x : DataW H × List MemPlace} (ht : Try.prog.underlying t = some (.slice e)) (hs : Try.prog.cellsOf e = size) (hs1 : 1 ≤ size) (P : α → List Value → Prop) (hP : ∀ k cs y, cs.length = size → DataW.trod enc Try.prog W 0 (fun _ => true) held k e cs = some y → ∃ z, P z cs)
    (h : DataW.trod enc Try.prog W 0 (fun _ => true) held fuel t [v] = some x) :
    ∃ a c, ∃ l : List α, v = .slice a l.length c ∧ l.length ≤ maxLen ∧ (l = [] ∨ ∃ b off, a = some ⟨b, off, none⟩ ∧ ∀ (i : Nat) z, l[i]? = some z → ∃ cs, cs.length = size ∧ P z cs ∧ ∀ j u, cs[j]? = some u → W.cell? ⟨b, off + i * size + j, none⟩ = some u) := by
  rcases Deep.open_slice ht h with ⟨h1, rfl⟩ | ⟨a, len, cap, m, n, D, Pl, h1, _, hl, hm, hmm, rfl, hx⟩
  · simp at h1
    subst h1
    exact ⟨none, 0, [], rfl, Nat.zero_le _, .inl rfl⟩
  · simp at h1 hmm
    subst h1; subst hmm
    rw [hs] at hx
    have hi : ∀ i, i < len → ∃ z : α × List Value, z.2.length = size ∧ P z.1 z.2 ∧ ∀ j u, z.2[j]? = some u → W.cell? (a.add (i * size + j)) = some u := by
      intro i hi
      obtain ⟨cs, c1, c2⟩ := hx i (by omega)
      obtain ⟨_, hlen, hc⟩ := World.cells?_some c1
      obtain ⟨z, hz⟩ := hP _ _ _ hlen c2
      refine ⟨(z, cs), hlen, hz, fun j u hu => ?_⟩
      have hu : cs[j]? = some u := hu
      have hj : j < size := by have := (List.getElem?_eq_some_iff.1 hu).1; omega
      have g := hc j hj
      rw [Deep.add_add] at g
      rw [g]
      exact hu
    obtain ⟨f, hf⟩ := Deep.choose_lt (α := α × List Value) hi
    refine ⟨some a, m, (List.range len).map (fun i => (f i).1), by simp, by simp; omega, ?_⟩
    rcases Nat.eq_zero_or_pos len with h0 | h0
    · exact .inl (by simp [h0])
    · obtain ⟨b, o, sp⟩ := a
      have hsp : sp = none := by
        obtain ⟨q1, q2, q3⟩ := hf 0 h0
        have hl0 : 0 < (f 0).2.length := by omega
        have := World.cell?_spot (q3 0 _ (List.getElem?_eq_getElem hl0))
        simpa [Addr.add] using this
      subst hsp
      refine .inr ⟨b, o, rfl, fun i z hz => ?_⟩
      have hil : i < len := by simpa using (List.getElem?_eq_some_iff.1 hz).1
      obtain ⟨q1, q2, q3⟩ := hf i hil
      rw [List.getElem?_map, List.getElem?_range hil] at hz
      simp at hz
      subst hz
      refine ⟨(f i).2, q1, q2, fun j u hu => ?_⟩
      have := q3 j u hu
      rw [addr_add, ← Nat.add_assoc] at this
      exact this
set_option maxRecDepth 100000 in
theorem read_slot {k : Nat} {cs : List Value} {y : DataW H × List MemPlace} (hl : cs.length = 2) (h : DataW.trod enc Try.prog W 0 (fun _ => true) held k 58 cs = some y) : ∃ s : Sl, cs = [.bool s.1, .int .i64 s.2] := by
  match cs, hl with
  | [u0, u1], _ =>
    obtain ⟨y0, y1, n, _, _, t0, t1⟩ := trod_struct2 Try.underlying58 h
    have t0' : DataW.trod enc Try.prog W 0 (fun _ => true) held n 4 [u0] = some y0 := by simpa [cellsBool] using t0
    have t1' : DataW.trod enc Try.prog W 0 (fun _ => true) held n 3 [u1] = some y1 := by simpa [cellsInt] using t1
    obtain ⟨bv, e1, _⟩ := DataW.trod_bool Try.underlying4 t0'
    obtain ⟨nv, e2, _, e3⟩ := DataW.trod_int Try.underlying3 t1'
    simp at e1 e2
    subst e1; subst e2
    exact ⟨(bv, nv), rfl⟩
theorem open_slots {fuel : Nat} {v : Value} {x : DataW H × List MemPlace} (h : DataW.trod enc Try.prog W 0 (fun _ => true) held fuel 25 [v] = some x) : ∃ a c l, v = .slice a l.length c ∧ Slots W a l ∧ l.length ≤ maxLen := by
  obtain ⟨a, c, l, h1, h2, h3⟩ := open_list (α := Sl) Try.underlying25 cellsSlot (by omega) (fun s cs => cs = [.bool s.1, .int .i64 s.2]) (fun k cs y hl hy => read_slot hl hy) h
  refine ⟨a, c, l, h1, ?_, h2⟩
  rcases h3 with h3 | ⟨b, off, e, hc⟩
  · exact .inl h3
  · refine .inr ⟨b, off, e, fun i hi => ?_⟩
    obtain ⟨cs, _, rfl, q⟩ := hc i _ (List.getElem?_eq_getElem hi)
    exact ⟨q 0 _ rfl, q 1 _ rfl⟩
set_option maxRecDepth 100000 in
theorem read_const {k : Nat} {cs : List Value} {y : DataW H × List MemPlace} (hl : cs.length = 3) (h : DataW.trod enc Try.prog W 0 (fun _ => true) held k 65 cs = some y) : ∃ c : C3, cs = [.int .i64 c.1, .int .i64 c.2.1, .string c.2.2] ∧ C3Ok c := by
  match cs, hl with
  | [u0, u1, u2], _ =>
    obtain ⟨y0, y1, y2, n, _, _, t0, t1, t2⟩ := Deep.trod_struct3 Try.underlying65 h
    have t0' : DataW.trod enc Try.prog W 0 (fun _ => true) held n 3 [u0] = some y0 := by simpa [cellsInt] using t0
    have t1' : DataW.trod enc Try.prog W 0 (fun _ => true) held n 2 [u1] = some y1 := by simpa [cellsInt64] using t1
    have t2' : DataW.trod enc Try.prog W 0 (fun _ => true) held n 9 [u2] = some y2 := by simpa [cellsString] using t2
    obtain ⟨kv, e0, _, w0⟩ := DataW.trod_int Try.underlying3 t0'
    obtain ⟨nv, e1, _, w1⟩ := DataW.trod_int Try.underlying2 t1'
    obtain ⟨sv, e2, _, w2⟩ := DataW.trod_string Try.underlying9 t2'
    simp at e0 e1 e2
    subst e0; subst e1; subst e2
    exact ⟨(kv, nv, sv), rfl, Op.rng_wf w0, Op.rng_wf w1, by unfold maxLen; exact w2⟩
theorem open_consts {fuel : Nat} {v : Value} {x : DataW H × List MemPlace} (h : DataW.trod enc Try.prog W 0 (fun _ => true) held fuel 24 [v] = some x) : ∃ a c l, v = .slice a l.length c ∧ Consts W a l ∧ (∀ z ∈ l, C3Ok z) ∧ l.length ≤ maxLen := by
  obtain ⟨a, c, l, h1, h2, h3⟩ := open_list (α := C3) Try.underlying24 cellsConst (by omega) (fun s cs => cs = [.int .i64 s.1, .int .i64 s.2.1, .string s.2.2] ∧ C3Ok s) (fun k cs y hl hy => read_const hl hy) h
  refine ⟨a, c, l, h1, ?_, ?_, h2⟩
  · rcases h3 with h3 | ⟨b, off, e, hc⟩
    · exact .inl h3
    · refine .inr ⟨b, off, e, fun i hi => ?_⟩
      obtain ⟨cs, _, ⟨rfl, _⟩, q⟩ := hc i _ (List.getElem?_eq_getElem hi)
      exact ⟨q 0 _ rfl, q 1 _ rfl, q 2 _ rfl⟩
  · intro z hz
    rcases h3 with h3 | ⟨b, off, e, hc⟩
    · rw [h3] at hz; cases hz
    · obtain ⟨i, hi⟩ := List.mem_iff_getElem?.1 hz
      obtain ⟨cs, _, ⟨_, q⟩, _⟩ := hc i z hi
      exact q
set_option maxRecDepth 100000 in
theorem read_pat {k : Nat} {cs : List Value} {y : DataW H × List MemPlace} (hl : cs.length = 2) (h : DataW.trod enc Try.prog W 0 (fun _ => true) held k 27 cs = some y) : ∃ p : Pat, ∃ a c, cs = [.int .i64 p.1, .slice a p.2.length c] ∧ Slots W a p.2 ∧ p.2.length ≤ maxLen := by
  match cs, hl with
  | [u0, u1], _ =>
    obtain ⟨y0, y1, n, _, _, t0, t1⟩ := trod_struct2 Try.underlying27 h
    have t0' : DataW.trod enc Try.prog W 0 (fun _ => true) held n 3 [u0] = some y0 := by simpa [cellsInt] using t0
    have t1' : DataW.trod enc Try.prog W 0 (fun _ => true) held n 25 [u1] = some y1 := by simpa [cellsSlots] using t1
    obtain ⟨nv, e0, _, _⟩ := DataW.trod_int Try.underlying3 t0'
    obtain ⟨a, c, l, rfl, q1, q2⟩ := open_slots t1'
    simp at e0
    subst e0
    exact ⟨(nv, l), a, c, rfl, q1, q2⟩
theorem open_pats {fuel : Nat} {v : Value} {x : DataW H × List MemPlace} (h : DataW.trod enc Try.prog W 0 (fun _ => true) held fuel 28 [v] = some x) : ∃ a c l, v = .slice a l.length c ∧ Pats W a l := by
  obtain ⟨a, c, l, h1, h2, h3⟩ := open_list (α := Pat) Try.underlying28 cellsPat (by omega) (fun p cs => ∃ a c, cs = [.int .i64 p.1, .slice a p.2.length c] ∧ Slots W a p.2 ∧ p.2.length ≤ maxLen) (fun k cs y hl hy => read_pat hl hy) h
  refine ⟨a, c, l, h1, ?_⟩
  rcases h3 with h3 | ⟨b, off, e, hc⟩
  · exact .inl h3
  · refine .inr ⟨b, off, e, fun i p hp => ?_⟩
    obtain ⟨cs, _, ⟨sa, sc, rfl, hs, _⟩, q⟩ := hc i p hp
    exact ⟨q 0 _ rfl, sa, sc, q 1 _ rfl, hs⟩
set_option maxRecDepth 100000 in
theorem read_test {k : Nat} {cs : List Value} {y : DataW H × List MemPlace} (hl : cs.length = 5) (h : DataW.trod enc Try.prog W 0 (fun _ => true) held k 60 cs = some y) : ∃ t : Tst, cs = [.int .i64 t.1, .bool t.2.1.1, .int .i64 t.2.1.2, .bool t.2.2.1, .int .i64 t.2.2.2] := by
  match cs, hl with
  | [u0, u1, u2, u3, u4], _ =>
    obtain ⟨y0, y1, y2, n, _, _, t0, t1, t2⟩ := Deep.trod_struct3 Try.underlying60 h
    have t0' : DataW.trod enc Try.prog W 0 (fun _ => true) held n 3 [u0] = some y0 := by simpa [cellsInt] using t0
    have t1' : DataW.trod enc Try.prog W 0 (fun _ => true) held n 58 [u1, u2] = some y1 := by simpa [cellsInt, cellsSlot] using t1
    have t2' : DataW.trod enc Try.prog W 0 (fun _ => true) held n 58 [u3, u4] = some y2 := by simpa [cellsInt, cellsSlot] using t2
    obtain ⟨op, e0, _, _⟩ := DataW.trod_int Try.underlying3 t0'
    obtain ⟨s1, e1⟩ := read_slot (by rfl) t1'
    obtain ⟨s2, e2⟩ := read_slot (by rfl) t2'
    simp at e0 e1 e2
    obtain ⟨rfl, rfl⟩ := e1
    obtain ⟨rfl, rfl⟩ := e2
    subst e0
    exact ⟨(op, s1, s2), rfl⟩
theorem open_tests {fuel : Nat} {v : Value} {x : DataW H × List MemPlace} (h : DataW.trod enc Try.prog W 0 (fun _ => true) held fuel 29 [v] = some x) : ∃ a c l, v = .slice a l.length c ∧ Tsts W a l := by
  obtain ⟨a, c, l, h1, h2, h3⟩ := open_list (α := Tst) Try.underlying29 cellsTest (by omega) (fun t cs => cs = [.int .i64 t.1, .bool t.2.1.1, .int .i64 t.2.1.2, .bool t.2.2.1, .int .i64 t.2.2.2]) (fun k cs y hl hy => read_test hl hy) h
  refine ⟨a, c, l, h1, ?_⟩
  rcases h3 with h3 | ⟨b, off, e, hc⟩
  · exact .inl h3
  · refine .inr ⟨b, off, e, fun i p hp => ?_⟩
    obtain ⟨cs, _, rfl, q⟩ := hc i p hp
    exact ⟨q 0 _ rfl, q 1 _ rfl, q 2 _ rfl, q 3 _ rfl, q 4 _ rfl⟩
theorem open_strs {fuel : Nat} {v : Value} {x : DataW H × List MemPlace} (h : DataW.trod enc Try.prog W 0 (fun _ => true) held fuel 30 [v] = some x) : ∃ a n c, v = .slice a n c := by
  rcases Deep.open_slice Try.underlying30 h with ⟨h1, rfl⟩ | ⟨a, len, cap, m, n, D, Pl, h1, _⟩
  · simp at h1; exact ⟨none, 0, 0, h1⟩
  · simp at h1; exact ⟨_, _, _, h1⟩
set_option maxRecDepth 100000 in
/-- a rule's cells, read; its head's slots too -/
theorem read_rule {k : Nat} {cs : List Value} {y : DataW H × List MemPlace} (hl : cs.length = 7) (h : DataW.trod enc Try.prog W 0 (fun _ => true) held k 32 cs = some y) : ∃ (R : RuleV) (hs : List Sl), cs = R.cells.toList ∧ RuleIn W R ∧ R.hn = hs.length ∧ Slots W R.ha hs ∧ hs.length ≤ maxLen := by
  match cs, hl with
  | [u0, u1, u2, u3, u4, u5, u6], _ =>
    obtain ⟨xs, n, _, hD, hl7, hlx, hf⟩ := DataW.trod_struct Try.underlying32 h
    match xs, hlx with
    | [y0, y1, y2, y3, y4, y5], _ =>
      have t0 := hf 0 _ rfl
      have t1 := hf 1 _ rfl
      have t2 := hf 2 _ rfl
      have t3 := hf 3 _ rfl
      have t4 := hf 4 _ rfl
      have t5 := hf 5 _ rfl
      simp [cellsPat, cellsPats, cellsTests, cellsStrs, cellsInt] at t0 t1 t2 t3 t4 t5
      obtain ⟨hd, ha, hc, e0, hS, hm⟩ := read_pat (by rfl) t0
      obtain ⟨pa, pc, pos, rfl, hP⟩ := open_pats t1
      obtain ⟨ta, tc, ts, rfl, hT⟩ := open_tests t2
      obtain ⟨na, nc, ns, rfl, hN⟩ := open_pats t3
      obtain ⟨va, nv, vc, rfl⟩ := open_strs t4
      obtain ⟨cl, e5, _, _⟩ := DataW.trod_int Try.underlying3 t5
      simp at e0 e5
      obtain ⟨rfl, rfl⟩ := e0
      subst e5
      exact ⟨⟨hd.1, ha, hd.2.length, hc, pa, pc, pos, ta, tc, ts, na, nc, ns, va, nv, vc, cl⟩, hd.2, rfl, ⟨hP, hT, hN⟩, rfl, hS, hm⟩
set_option maxRecDepth 100000 in
/-- a world that is handed in -/
theorem open_world {r : Reach} {b0 : Nat} {v : Value} {d : DataW H} {p : List MemPlace} (hv : Value.okWide Try.prog W r b0 34 v) (h : DataW.Trod enc Try.prog W 0 (fun _ => true) held 34 v d p) :
    ∃ (T : WorldV) (hs : List Sl), v = .agg T.cells ∧ WorldIn W T ∧ T.R.hn = hs.length ∧ Slots W T.R.ha hs ∧ hs.length ≤ maxLen ∧ (∀ x ∈ T.ar, Rng x) := by
  obtain ⟨cs, rfl, hsz⟩ := okWide_struct Try.underlying34 hv
  rw [cellsWorld] at hsz
  obtain ⟨cs⟩ := cs
  match cs, hsz with
  | [u0, u1, u2, u3, u4, u5, u6, u7, u8, u9, u10], _ =>
    obtain ⟨fuel, hf⟩ := h
    obtain ⟨xs, n, _, hD, hl5, hlx, hf⟩ := DataW.trod_struct Try.underlying34 hf
    match xs, hlx with
    | [y0, y1, y2, y3, y4], _ =>
      have t0 := hf 0 _ rfl
      have t1 := hf 1 _ rfl
      have t2 := hf 2 _ rfl
      have t3 := hf 3 _ rfl
      have t4 := hf 4 _ rfl
      simp [Value.cells, cellsInts, cellsRows, cellsConsts, cellsRule, cellsInt] at t0 t1 t2 t3 t4
      obtain ⟨aa, ac, ar, rfl, hA, hAr, _, _⟩ := Op.open_ints t0
      obtain ⟨ra, rc, rows, rfl, hR, _, _, _⟩ := Op.open_rows t1
      obtain ⟨ca, cc, cs, rfl, hC, hCo, hCm⟩ := open_consts t2
      obtain ⟨R, hs, e3, hRu, hh, hSl, hm⟩ := read_rule (by rfl) t3
      obtain ⟨K, e4, _, _⟩ := DataW.trod_int Try.underlying3 t4
      simp at e4
      subst e4
      simp [RuleV.cells] at e3
      obtain ⟨rfl, rfl, rfl, rfl, rfl, rfl, rfl⟩ := e3
      exact ⟨⟨aa, ac, ar, ra, rc, rows, ca, cc, cs, R, K⟩, hs, rfl, ⟨hA.ints, hR, hC, hCo, hRu, hCm⟩, hh, hSl, hm, hAr⟩
set_option maxRecDepth 100000 in
/-- a pattern that is handed in -/
theorem open_pattern {r : Reach} {b0 : Nat} {v : Value} {d : DataW H} {p : List MemPlace} (hv : Value.okWide Try.prog W r b0 27 v) (h : DataW.Trod enc Try.prog W 0 (fun _ => true) held 27 v d p) :
    ∃ (q : Pat) (a : Option Addr) (c : Nat), v = .agg #[.int .i64 q.1, .slice a q.2.length c] := by
  obtain ⟨cs, rfl, hsz⟩ := okWide_struct Try.underlying27 hv
  rw [cellsPat] at hsz
  obtain ⟨cs⟩ := cs
  obtain ⟨fuel, hf⟩ := h
  obtain ⟨q, a, c, e, _, _⟩ := read_pat (by simpa using hsz) (by simpa [Value.cells] using hf)
  exact ⟨q, a, c, by rw [e]⟩
end
end Ow
end Go.Proofs.Ytkejjiohkhlnnaa

namespace Go.Proofs.Ytkejjiohkhlnnaa.matchGrowsLaw
open Go.ChangeShapes Go.WideShapes Go.ChangeAt Go.RowKit Go.Joins
open Go.ChangeMaps (open_string shut_string)

theorem own : ownKnob Try.prog.godebug = none := by kernel_rfl
theorem laidOut : laidOutB Try.prog = true := by kernel_rfl

set_option maxRecDepth 100000 in
theorem lifted (os : Os) (started : os.Started) (H : Type) (enc : TypeId × Value → H) :
    ReturnsInHanded {} Try.checked os 4 .any (Rows.matchGrowsSpec.pre6 enc Try.prog Try.f4 Rows.matchGrowsRow.domain false) (Rows.matchGrowsSpec.post enc Try.prog Try.f4 false true false false) := by
  refine returnsInHanded_of_change_sized (C := Try.checked) own started (by kernel_rfl) Try.func4
    (ChangeSpec.witness6 (enc := enc) (C := Try.checked) false ⟨#[], #[.agg #[.slice none 0 0, .slice none 0 0, .slice none 0 0, .int .i64 0, .slice none 0 0, .slice none 0 0, .slice none 0 0, .slice none 0 0, .slice none 0 0, .int .i64 0, .int .i64 0]], []⟩ 8 (by kernel_rfl) (by kernel_rfl) (by kernel_rfl) (by kernel_rfl)) ?_
  intro W base args ds gs before hval0 hW _ hsz0 _
  have hsz : (DataW.weightsEach Try.prog (Try.f4.params.toList ++ Rows.matchGrowsSpec.plain.varTypes Try.prog) (ds ++ gs)).all (· ≤ reachBytes) = true := hsz0
  clear hsz0
  have hval : ∀ (j : Nat) t v, Try.f4.params[j]? = some t → args[j]? = some v → Value.okWide Try.prog W .any base t v := hval0
  have hW' := hW
  obtain ⟨p, q, hA0, hV, rfl, hfz, hnd⟩ := hW
  have hA : DataW.TrodAll enc Try.prog W 0 (fun _ => true) true Try.f4.params.toList args.toList ds p := hA0
  rw [Try.params4] at hA hval hsz
  obtain ⟨v0, vs0, d0, ds0, p0, q0, hargs, rfl, rfl, h0, r0⟩ := trodAll_cons hA
  obtain ⟨rfl, rfl, rfl⟩ := trodAll_nil r0
  obtain rfl : args = #[v0] := by cases args; simp_all
  obtain ⟨rfl, rfl⟩ := trodVars_none hV
  have k0 := h0
  have lt0 : ∀ x ∈ p0, x.block < W.heap.size := by obtain ⟨m, hm⟩ := k0; exact DataW.trod_lt m _ _ _ hm
  obtain ⟨T0, hd0, rfl, I0, dn0, ds0', dm0, ra0⟩ := Ow.open_world (hval 0 34 v0 rfl rfl) h0
  clear hA0 hval0
  simp only [List.append_nil] at hW'
  refine (Mt.matchGrows_any T0 W I0).mono fun e W' ⟨he, bel⟩ => ?_
  subst he
  exact ⟨_, rfl, _, _, _, [], _, [], hW', trodAll_mk1 (shut_bool Try.underlying4 _), (trodAll_cons_mk (Below.trod laidOut (by kernel_rfl) (of_decide_eq_true (by kernel_rfl)) k0 bel lt0) trodAll_mk0), rfl, bel.frame _, fun h => by cases h⟩

theorem proved : Rows.MatchGrowsSaid :=
  OpenClaim.holds_of_wide 4 Try.f4 rfl rfl rfl rfl rfl rfl rfl ⟨rfl, rfl, rfl, rfl, rfl⟩ rfl rfl rfl rfl rfl (by kernel_rfl) Try.func4 (by kernel_rfl)
    (of_decide_eq_true (by kernel_rfl)) (by unfold Func.isWrapper; first | (rw [if_pos (by decide +kernel)]; kernel_rfl) | (rw [if_neg (by decide +kernel)]; exact ⟨rfl, rfl⟩))
    (fun os started H enc _ => lifted os started H enc)
#print axioms proved
end Go.Proofs.Ytkejjiohkhlnnaa.matchGrowsLaw
