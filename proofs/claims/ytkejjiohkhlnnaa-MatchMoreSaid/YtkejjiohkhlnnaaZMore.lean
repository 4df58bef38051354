/-
  The law MatchMore is proved: for every input the call returns true, and its arguments read behind it as they read before. No condition.
-/
import Derived.Test.YtkejjiohkhlnnaaZ7
import Derived.Deep.CutBlock
import Derived.Deep.RegionHeld3
import Derived.Deep.Slices
import Derived.Test.YtkejjiohkhlnnaaCopies
import Derived.ProofKit
import Derived.OpenShut
import Derived.ShutString
import Derived.ChangeOld
import Derived.SizedLaws
import Derived.Lib.SmallJoins
import Derived.Test.YtkejjiohkhlnnaaSBatch
import Derived.Below
namespace Go.Proofs.Ytkejjiohkhlnnaa
open Go.RowKit
namespace Mt

/-- a world as a law is handed it -/
structure WorldIn (w : World) (T : WorldV) : Prop where
  ars : Ints w T.aa T.ar
  rows : RowsZ (fun _ => True) w T.ra T.rc T.rows
  con : Consts w T.ca T.cs
  conOk : ∀ c ∈ T.cs, C3Ok c
  rule : RuleIn w T.R
  many : T.cs.length ≤ maxLen
theorem WorldIn.below {w V : World} {T : WorldV} (h : WorldIn w T) (hb : Below w.heap.size w V) : WorldIn V T :=
  ⟨h.ars.below hb, h.rows.keep (fun j hj _ => hb.block j hj) (fun _ _ h => h), h.con.below hb (Nat.le_refl _), h.conOk, h.rule.below hb (Nat.le_refl _), h.many⟩
theorem WorldIn.tamed {w : World} {T : WorldV} (h : WorldIn w T) : Calls Try.prog 11 #[.agg T.cells] w (TamedEnd T w) := tamed_any T w h.ars h.rows h.con h.conOk h.rule h.many
/-- a world's cells in a block -/
theorem world_cells {w : World} {b : Nat} {T : WorldV} {ty : TypeId} (h : w.heap[b]? = some (.cells T.cells ty (0, 0))) : (w.cell? ⟨b, 0, none⟩ = some (.slice T.aa T.ar.length T.ac) ∧ w.cell? ⟨b, 1, none⟩ = some (.slice T.ra T.rows.length T.rc) ∧ w.cell? ⟨b, 2, none⟩ = some (.slice T.ca T.cs.length T.cc)) ∧ (w.cell? ⟨b, 3, none⟩ = some (.int .i64 T.R.hp) ∧ w.cell? ⟨b, 4, none⟩ = some (.slice T.R.ha T.R.hn T.R.hc) ∧ w.cell? ⟨b, 5, none⟩ = some (.slice T.R.pa T.R.pos.length T.R.pc) ∧ w.cell? ⟨b, 6, none⟩ = some (.slice T.R.ta T.R.tests.length T.R.tc) ∧ w.cell? ⟨b, 7, none⟩ = some (.slice T.R.na T.R.neg.length T.R.nc) ∧ w.cell? ⟨b, 8, none⟩ = some (.slice T.R.va T.R.nv T.R.vc) ∧ w.cell? ⟨b, 9, none⟩ = some (.int .i64 T.R.cl)) ∧ w.cell? ⟨b, 10, none⟩ = some (.int .i64 T.K) := by
  refine ⟨⟨?_, ?_, ?_⟩, ⟨?_, ?_, ?_, ?_, ?_, ?_, ?_⟩, ?_⟩ <;> simp [World.cell?, h, WorldV.cells]
theorem rev_take {α : Type} {l : List α} {i j : Nat} {x : α} (h : j + i + 1 = l.length) (hx : l[j]? = some x) (hi : i < l.length) : l.reverse.take (i + 1) = l.reverse.take i ++ [x] := by
  have e : l.reverse[i]? = some x := by
    rw [List.getElem?_reverse hi]
    have : l.length - 1 - i = j := by omega
    rw [this]
    exact hx
  exact take_snoc' e
theorem joinedL_nod : ∀ (m l : List Row), l.Nodup → (joinedL l m).Nodup
  | [], l, h => h
  | r :: m, l, h => by
    have e : joinedL l (r :: m) = joinedL (if r ∈ l then l else l ++ [r]) m := rfl
    rw [e]
    refine joinedL_nod m _ ?_
    split
    · exact h
    · rename_i hn
      rw [List.nodup_append]
      exact ⟨h, by simp, fun a ha b hb => by rw [List.mem_singleton] at hb; subst hb; exact fun e => hn (e ▸ ha)⟩
theorem joinedL_nodup (m : List Row) : (joinedL [] m).Nodup := joinedL_nod m [] List.nodup_nil
theorem below_chain {w V V2 : World} (h : Below w.heap.size w V) (k : Below V.heap.size V V2) : Below w.heap.size w V2 := h.trans (k.mono h.size)
theorem joinedL_app (l a b : List Row) : joinedL l (a ++ b) = joinedL (joinedL l a) b := by
  unfold joinedL
  rw [List.foldl_append]
/-- one row in a block of its own, its list somewhere else -/
theorem rows_one {w : World} {Z1 Z : Nat → Prop} {pp : Int} {ai : Option Addr} {ci : Nat} {xs : List Int} {ty : TypeId} (hI : IntsZ Z1 w ai ci xs) (hz : ∀ j, Z1 j → Z j) (hn : Z w.heap.size) (_ : 0 ≤ w.heap.size) : RowsZ Z (w.alloc (.cells #[.int .i64 pp, .slice ai xs.length ci] ty)) (some ⟨w.heap.size, 0, none⟩) 1 [(pp, xs)] := by
  have hq := World.alloc_heap_new w (.cells #[.int .i64 pp, .slice ai xs.length ci] ty)
  have hb : Below w.heap.size w (w.alloc (.cells #[.int .i64 pp, .slice ai xs.length ci] ty)) := (Below.refl _ _).alloc (Nat.le_refl _) _
  refine ⟨.inr ⟨_, 0, rfl, hn, fun i hi => ?_⟩, fun e => by cases e⟩
  match i, hi with
  | 0, _ => exact ⟨cell_of hq rfl, ai, ci, cell_of hq rfl, hI.keep (fun j hj _ => hb.block j hj) (fun j _ h => hz j h)⟩
  | i + 1, hi => exact absurd hi (by simp)
/-- an answer of Prefix is small -/
theorem pre_small {rows : List Row} {cs : List C3} {R : RuleV} (hr : ∀ r ∈ rows, IdsIn cs.length r.2) (ok : RuleOk R cs.length) (h1 : rows.length ≤ 30) (h2 : R.pos.length ≤ 4) (k : Nat) : (pre rows cs R k).length ≤ 1000000 ∧ ∀ x ∈ pre rows cs R k, x.length ≤ 1000000 := by
  refine ⟨?_, fun x hx => ?_⟩
  · unfold pre
    rw [(srtL_perm _ _ _).length_eq]
    have := res_few (cs := cs) h1 h2 k
    omega
  · have h1 := ((pre_iff hr ok _ x).1 hx).1
    have h2 := (wid_is ok k).2
    have h3 := ok.vars
    omega
end Mt
end Go.Proofs.Ytkejjiohkhlnnaa

namespace Go.Proofs.Ytkejjiohkhlnnaa
open Go.RowKit
namespace Mt
open Sq (Oth)

set_option maxHeartbeats 4000000 in
set_option maxRecDepth 8000 in
theorem put_any {d L : Nat} (s : Sl) (a : Option Addr) (c : Nat) (x : List Int) (w : World) (hs : SlotOk L d s) (hl : L ≤ x.length) (hx : Ints w a x) :
    Calls Try.prog 52 #[.agg #[.bool s.1, .int .i64 s.2], .slice a x.length c] w fun e w' => e = .returned (.int .i64 (putL s x)) ∧ Below w.heap.size w w' := by
  obtain ⟨b, n⟩ := s
  obtain ⟨h0, h1⟩ := hs
  simp only at h0 h1
  obtain ⟨k, rfl⟩ := Int.eq_ofNat_of_zero_le h0
  unfold putL
  cases b with
  | true =>
    simp only [if_true] at h1 ⊢
    have hk : k < x.length := by omega
    obtain ⟨g, o, rfl, y, c1, HY⟩ := ints_some hx hk
    have e : x.getD (k : Int).toNat 0 = y := by rw [Int.toNat_natCast, List.getD_eq_getElem?_getD, HY.out]; rfl
    rw [e]
    obtain ⟨N, hN⟩ : ∃ N, N = x.length := ⟨_, rfl⟩
    rw [← hN] at hk ⊢
    have zk : (0 : Int) ≤ (k : Int) := by omega
    have zkN : (k : Int) < (N : Int) := by omega
    obtain ⟨W0, hW0⟩ : ∃ V, V = w.alloc (.cells #[.bool true, .int .i64 (k : Int)] 58) := ⟨_, rfl⟩
    have hb0 : Below w.heap.size w W0 := by rw [hW0]; exact (Below.refl _ _).alloc (Nat.le_refl _) _
    have c1 := on_cell hb0 c1
    have q0 : W0.cell? ⟨w.heap.size, 0, none⟩ = some (.bool true) := by rw [hW0]; simp
    have q1 : W0.cell? ⟨w.heap.size, 1, none⟩ = some (.int .i64 (k : Int)) := by rw [hW0]; simp
    have HW0 := Lib.hid hW0
    clear hx hN e h0 h1 hW0
    go_enter Try.func52, Try.ntmps52
    go_upto_region 1 with fail
    rw [← HW0.out]
    go_wp2_with fail
    go_ret
    exact ⟨rfl, hb0⟩
  | false =>
    simp only [Bool.false_eq_true, if_false]
    go_enter Try.func52, Try.ntmps52
    go_wp2_with fail
    go_ret
    exact ⟨rfl, (Below.refl _ _).alloc (Nat.le_refl _) _⟩
/-- what rowOf leaves -/
def RowOfEnd (p : Int) (xs : List Int) (w : World) (e : Ending) (w' : World) : Prop := ∃ a c, e = .returned (.agg #[.int .i64 p, .slice a xs.length c]) ∧ IntsZ (fun j => w.heap.size ≤ j) w' a c xs ∧ Below w.heap.size w w'
theorem args_take_snoc {l : List Sl} {x : List Int} {j : Nat} {s : Sl} (h : l[j]? = some s) : (argsL l x).take (j + 1) = (argsL l x).take j ++ [putL s x] := by
  apply take_snoc'
  unfold argsL
  rw [List.getElem?_map, h]
  rfl
theorem put_in {d L : Nat} {s : Sl} {x : List Int} (hs : SlotOk L d s) (hl : L ≤ x.length) (hx : IdsIn d x) : 0 ≤ putL s x ∧ putL s x < d := by
  obtain ⟨b, n⟩ := s
  obtain ⟨h0, h1⟩ := hs
  unfold putL
  cases b with
  | false => exact ⟨h0, by simpa using h1⟩
  | true =>
    simp only [if_true] at h0 h1 ⊢
    have hlt : n.toNat < x.length := by omega
    rw [List.getD_eq_getElem?_getD, List.getElem?_eq_getElem hlt]
    exact hx _ (List.getElem_mem _)
set_option linter.unusedSimpArgs false in
set_option maxHeartbeats 8000000 in
set_option maxRecDepth 100000 in
theorem rowOf_any {d L : Nat} (p : Pat) (pa a : Option Addr) (pc c : Nat) (x : List Int) (w : World) (hp : Slots w pa p.2) (hs : ∀ s ∈ p.2, SlotOk L d s) (hl : L ≤ x.length) (hi : IdsIn d x) (hx : Ints w a x) (h8 : p.2.length ≤ 8) :
    Calls Try.prog 20 #[.agg #[.int .i64 p.1, .slice pa p.2.length pc], .slice a x.length c] w (RowOfEnd p.1 (argsL p.2 x) w) := by
  obtain ⟨pr, l⟩ := p
  simp only at hp hs h8 ⊢
  have HP := Lib.hid hp
  have HS := Lib.hid hs
  have HI := Lib.hid hi
  have cP := fun s (hs : s ∈ l) W (hW : Below w.heap.size w W) => Lib.hid (put_any (d := d) (L := L) s a c x W (HS.out s hs) hl (hx.below hW))
  obtain ⟨A, hA⟩ : ∃ A, A = argsL l x := ⟨_, rfl⟩
  have HA := Lib.hid hA
  rw [← hA]
  obtain ⟨N, hN⟩ : ∃ N, N = l.length := ⟨_, rfl⟩
  have HN := Lib.hid hN
  have HAl : Hid (A.length = N) := Lib.hid (by rw [hA, hN]; simp [argsL])
  rw [← hN] at h8 ⊢
  clear hp hs hA hN hx hi
  obtain ⟨b2, hb2⟩ : ∃ b, b = w.heap.size := ⟨_, rfl⟩
  obtain ⟨b4, hb4⟩ : ∃ b, b = w.heap.size + 1 := ⟨_, rfl⟩
  obtain ⟨b5, hb5⟩ : ∃ b, b = w.heap.size + 1 + 1 := ⟨_, rfl⟩
  obtain ⟨W0, hW0⟩ : ∃ V, V = ((w.alloc (.cells #[.int .i64 pr, .slice pa N pc] 27)).alloc (.cells #[.int .i64 0, .slice none 0 0] 50)).alloc (.cells #[.int .i64 pr, .slice none 0 0] 50) := ⟨_, rfl⟩
  obtain ⟨q2, q4, q5⟩ := blk3 w (.cells #[.int .i64 pr, .slice pa N pc] 27) (.cells #[.int .i64 0, .slice none 0 0] 50) (.cells #[.int .i64 pr, .slice none 0 0] 50)
  rw [← hW0] at q2 q4 q5
  rw [← hb2] at q2
  rw [← hb4] at q4
  rw [← hb5] at q5
  have hb0 : Below w.heap.size w W0 := by rw [hW0]; exact (((Below.refl _ _).alloc (Nat.le_refl _) _).alloc (by simp) _).alloc (by simp; omega) _
  have hs0 : W0.heap.size = w.heap.size + 3 := by rw [hW0]; simp
  have y1 : W0.cell? ⟨b2, 1, none⟩ = some (.slice pa N pc) := by simp [World.cell?, q2]
  have HW0 := Lib.hid hW0
  have Hbs : Hid (b2 = w.heap.size ∧ b4 = w.heap.size + 1 ∧ b5 = w.heap.size + 1 + 1 ∧ W0.heap.size = w.heap.size + 3) := Lib.hid ⟨hb2, hb4, hb5, hs0⟩
  have HB0 := Lib.hid hb0
  have Hq4 := Lib.hid q4
  have HI0 : Hid (ISt b5 pr W0 W0 (.slice none 0 0) [] d) := Lib.hid ⟨Oth.refl _ _, q5, World.ownsRow_nil _ _ _ _, fun x hx => (by cases hx)⟩
  clear hW0 hb2 hb4 hb5 hs0 hb0 q2 q4 q5
  go_enter Try.func20, Try.ntmps20
  go_upto_region 2 with fail
  rw [← HW0.out, ← Hbs.out.2.2.1, ← Hbs.out.2.1, ← Hbs.out.1]
  go_upto_block 0 with fail
  clear y1
  go_cut [] (fun w' => ∃ (u : Value), Hid (ISt b5 pr W0 w' u A d))
  case first =>
    have y1 : W0.cell? ⟨b2, 1, none⟩ = some (.slice pa N pc) := by
      have := (blk3 w (.cells #[.int .i64 pr, .slice pa N pc] 27) (.cells #[.int .i64 0, .slice none 0 0] 50) (.cells #[.int .i64 pr, .slice none 0 0] 50)).1
      rw [← HW0.out, ← Hbs.out.1] at this
      simp [World.cell?, this]
    go_wp2_with fail
    clear y1
    go_loopw [14] (fun t w' => ∃ (j : Nat) (u : Value) (li : List Int), t = .int .i64 j ∧ j ≤ N ∧ Hid (ISt b5 pr W0 w' u li d) ∧ Hid (li = A.take j)) (fun t _ => N - (intOf t).toNat)
    case atStart => exact ⟨0, _, [], rfl, Nat.zero_le _, HI0, Lib.hid (by simp)⟩
    case round =>
      clear HI0
      obtain ⟨j, u, li, rfl, hjN, HI9, HLi⟩ := hrel
      obtain ⟨ua, uc, rfl⟩ := owns_shape' HI9.out.own
      by_cases hlt : j < N
      · obtain ⟨s, hs⟩ : ∃ s, s = l[j]'(by rw [← HN.out]; exact hlt) := ⟨_, rfl⟩
        have Hs : Hid (l[j]? = some s) := Lib.hid (by rw [hs]; exact List.getElem?_eq_getElem _)
        clear hs
        have hold : Below w.heap.size w wr := HB0.out.trans (HI9.out.oth.low (by have := Hbs.out; omega) HB0.out.size)
        rcases HP.out with h | ⟨bp, op, rfl, hpp⟩
        · rw [HN.out, h] at hlt; simp at hlt
        · obtain ⟨v0, n0, c0, c1, HQ⟩ := slots_at hpp (k := j) (by rw [← HN.out]; exact hlt)
          have hsv : s = (v0, n0) := by have := HQ.out; rw [Hs.out] at this; exact Option.some.inj this
          subst hsv
          have c0 := below_cell hold (Nat.le_refl _) c0
          have c1 := below_cell hold (Nat.le_refl _) c1
          have Hsm : Hid (SlotOk L d (v0, n0)) := Lib.hid (HS.out _ (List.mem_of_getElem? Hs.out))
          have hlle : li.length < 8 := by rw [HLi.out, List.length_take]; omega
          have Hold := Lib.hid hold
          clear hpp hold HQ
          go_upto_region 5 with fail
          obtain ⟨W1, hW1⟩ : ∃ V, V = wr.alloc (.cells #[.bool v0, .int .i64 n0] 58) := ⟨_, rfl⟩
          obtain ⟨b7, hb7⟩ : ∃ b, b = wr.heap.size := ⟨_, rfl⟩
          rw [← hW1, ← hb7]
          have hbw1 : Below wr.heap.size wr W1 := by rw [hW1]; exact (Below.refl _ _).alloc (Nat.le_refl _) _
          have z0 : W1.cell? ⟨b7, 0, none⟩ = some (.bool v0) := by rw [hW1, hb7]; simp
          have z1 : W1.cell? ⟨b7, 1, none⟩ = some (.int .i64 n0) := by rw [hW1, hb7]; simp
          have h7n : b7 ≠ b5 := by have := HI9.out.oth.size; have := Hbs.out; omega
          have HI8 := Lib.hid (HI9.out.below hbw1)
          have cP1 := fun W (hW : Below W1.heap.size W1 W) => cP (v0, n0) (List.mem_of_getElem? Hs.out) W (Hold.out.trans ((hbw1.trans (hW.mono hbw1.size)).mono Hold.out.size))
          simp only at cP1
          have h5lt : b5 < W0.heap.size := by have := Hbs.out; omega
          have h7lt : b7 < W1.heap.size := by rw [hW1, hb7]; simp
          have q1 := HI8.out.cells.2
          have Hvb : Hid (∀ g, (Value.slice ua li.length uc).ownBlock = some g → b7 ≠ g) := Lib.hid (fun g hg => by have := (HI9.out.own.lt g hg).2; omega)
          clear hW1 hb7 hbw1 HI9 c0 c1
          obtain ⟨V0, hV0⟩ : ∃ V, V = W1.drew := ⟨_, rfl⟩
          have hd1 : Below W1.heap.size W1 V0 := by rw [hV0]; exact (Below.refl _ _).drew
          have HI7 := Lib.hid (HI8.out.below hd1)
          have q1 := on_cell hd1 q1
          have z0 := on_cell hd1 z0
          have z1 := on_cell hd1 z1
          have hown := HI7.out.own
          have hlow := HI7.out.oth.size
          have hb0 := Below.refl V0.heap.size V0
          clear HI8
          refine wp_region_noPanic ?_
          refine wp_region_held_drew (S := (fun w' => w'.cell? ⟨b7, 0, none⟩ = some (.bool v0) ∧ w'.cell? ⟨b7, 1, none⟩ = some (.int .i64 n0))) (by kernel_rfl) ?_ (fun hHeld => ?_)
          · rw [← hV0]; exact ⟨z0, z1⟩
          rw [← hV0] at hHeld ⊢
          clear hV0
          refine wpAnyH_take (i := 0) (oi := ⟨some 18, _, _, _, _, _⟩) (v := ?_) rfl (by kernel_rfl) (by kernel_rfl) (by kernel_rfl) (fun _ _ _ h => h) (Or.inl ⟨by rfl, ?_⟩) (by assumption) ?_
          rotate_left 1
          · intro w hSw
            (try dsimp only at hSw)
            go_simp
            all_goals with_reducible rfl
          (try simp only [Act.put, List.setIfInBounds_toArray, List.set_cons_zero, List.set_cons_succ])
          refine wpAnyH_take (i := 2) (oi := ⟨some 20, _, _, _, _, _⟩) (v := ?_) rfl (by kernel_rfl) (by kernel_rfl) (by kernel_rfl) (fun _ _ _ h => h) (Or.inl ⟨by rfl, ?_⟩) (by assumption) ?_
          rotate_left 1
          · intro w hSw
            (try dsimp only at hSw)
            go_simp
            all_goals with_reducible rfl
          (try simp only [Act.put, List.setIfInBounds_toArray, List.set_cons_zero, List.set_cons_succ])
          refine wpAnyH_take (i := 3) (oi := ⟨some 21, _, _, _, _, _⟩) (v := ?_) rfl (by kernel_rfl) (by kernel_rfl) (by kernel_rfl) (fun _ _ _ h => h) (Or.inl ⟨by rfl, ?_⟩) (by assumption) ?_
          rotate_left 1
          · intro w hSw
            (try dsimp only at hSw)
            go_simp
            all_goals with_reducible rfl
          (try simp only [Act.put, List.setIfInBounds_toArray, List.set_cons_zero, List.set_cons_succ])
          refine wpAnyH_ready (rs := [1, 4]) (by kernel_rfl) (by simp) ?_
          refine AllReadyH.cons (o := _) rfl (fun K hK => ?_) ?_
          · have tt := on_cell hb0 q1
            go_simp
            clear tt
            refine hK.out _ _ ?_ (fun hHeld => ?_)
            · exact ⟨on_cell hb0 z0, on_cell hb0 z1⟩
            clear hK K
            (try simp only [Act.put, List.setIfInBounds_toArray, List.set_cons_zero, List.set_cons_succ])
            refine wpAnyH_ready (rs := [4]) (by kernel_rfl) (by simp) ?_
            refine AllReadyH.cons (o := _) rfl (fun K hK => ?_) ?_
            · go_simp
              with_reducible refine (cP1 _ (hd1.trans (hb0.mono hd1.size))).out.mono ?_
              rintro e V2 ⟨rfl, hb2'⟩
              have hb2 : Below V0.heap.size V0 V2 := hb0.trans (hb2'.mono hb0.size)
              clear hb2'
              refine hK.out _ _ ?_ (fun hHeld => ?_)
              · exact ⟨on_cell hb2 z0, on_cell hb2 z1⟩
              clear hK K
              (try simp only [Act.put, List.setIfInBounds_toArray, List.set_cons_zero, List.set_cons_succ])
              refine wpAnyH_ready (rs := [5]) (by kernel_rfl) (by simp) ?_
              refine AllReadyH.cons (o := _) rfl (fun K hK => ?_) ?_
              · go_simp
                obtain ⟨V3, hV3⟩ : ∃ W, W = V2.alloc (.cells #[.int .i64 (putL (v0, n0) x)] 3) := ⟨_, rfl⟩
                obtain ⟨b8, hb8⟩ : ∃ b, b = V2.heap.size := ⟨_, rfl⟩
                rw [← hV3, ← hb8]
                have hb3 : Below V0.heap.size V0 V3 := by rw [hV3]; exact hb2.alloc hb2.size _
                have src3 : Source V3 (some ⟨b8, 0, none⟩) 1 1 [.int .i64 (putL (v0, n0) x)] := by rw [hV3, hb8]; exact source_new V2 [.int .i64 (putL (v0, n0) x)] 3
                clear hV3 hb8
                refine hK.out _ _ ?_ (fun hHeld => ?_)
                · exact ⟨on_cell hb3 z0, on_cell hb3 z1⟩
                clear hK K
                (try simp only [Act.put, List.setIfInBounds_toArray, List.set_cons_zero, List.set_cons_succ])
                refine wpAnyH_ready (rs := [6]) (by kernel_rfl) (by simp) ?_
                refine AllReadyH.cons (o := _) rfl (fun K hK => ?_) ?_
                · have hz3 := hb3.size
                  refine step_append_any elemInt _ rfl _ _ rfl W0.heap.size (.slice ua li.length uc) li.length (li.map (Value.int .i64)) rfl (owns_below hown hb3 (Nat.le_refl _)) (some ⟨b8, 0, none⟩) 1 1 [.int .i64 (putL (v0, n0) x)] rfl src3 rfl (by simp [Value.oneCell']) (by unfold maxLen; omega) (by omega) (by omega) ?_
                  intro v' V4 hown4 hgrow4 hblk4
                  obtain ⟨va4, vc4, rfl⟩ := owns_shape' hown4
                  obtain ⟨p1, p2, p3⟩ := HI7.out.push h5lt hb3 hgrow4 hown4 (put_in Hsm.out hl HI.out)
                  have P1 := Lib.hid p1
                  have hS4 : V4.cell? ⟨b7, 0, none⟩ = some (.bool v0) ∧ V4.cell? ⟨b7, 1, none⟩ = some (.int .i64 n0) := ⟨hgrow4.cell (on_cell hb3 z0) (fun e => Hvb.out _ e.symm rfl), hgrow4.cell (on_cell hb3 z1) (fun e => Hvb.out _ e.symm rfl)⟩
                  clear p1 hown4 hgrow4 hblk4 src3
                  refine hK.out _ _ ?_ (fun hHeld => ?_)
                  · exact hS4
                  clear hK K
                  (try simp only [Act.put, List.setIfInBounds_toArray, List.set_cons_zero, List.set_cons_succ])
                  refine wpAnyH_take (i := 7) (oi := ⟨some 25, _, _, _, _, _⟩) (v := ?_) rfl (by kernel_rfl) (by kernel_rfl) (by kernel_rfl) (fun _ _ _ h => h) (Or.inl ⟨by rfl, ?_⟩) (by assumption) ?_
                  rotate_left 1
                  · intro w hSw
                    (try dsimp only at hSw)
                    go_simp
                    all_goals with_reducible rfl
                  (try simp only [Act.put, List.setIfInBounds_toArray, List.set_cons_zero, List.set_cons_succ])
                  refine wpAnyH_ready (rs := [8]) (by kernel_rfl) (by simp) ?_
                  refine AllReadyH.cons (o := _) rfl (fun K hK => ?_) ?_
                  · go_simp
                    refine hK.out _ _ ?_ (fun hHeld => ?_)
                    · exact ⟨(World.cell?_setCell_far _ _ _ _ (Ne.symm h7n)).trans hS4.1, (World.cell?_setCell_far _ _ _ _ (Ne.symm h7n)).trans hS4.2⟩
                    clear hK K
                    (try simp only [Act.put, List.setIfInBounds_toArray, List.set_cons_zero, List.set_cons_succ])
                    refine wpAnyH_done (by kernel_rfl) ?_ _
                    refine NoPanic.normal ?_
                    have HLX : Hid (li ++ [putL (v0, n0) x] = A.take (j + 1)) := Lib.hid (by rw [HLi.out, HA.out, args_take_snoc Hs.out])
                    clear hS4 hHeld
                    go_wp2
                    go_roundw
                    case rel => first | exact ⟨j + 1, by go_num, by omega, _, _, P1, HLX⟩ | exact ⟨j + 1, _, _, by go_num, by omega, P1, HLX⟩
                    case measure => simp [intOf]; omega
                  exact AllReadyH.nil
                exact AllReadyH.nil
              exact AllReadyH.nil
            exact AllReadyH.nil
          refine AllReadyH.cons (o := _) rfl (fun K hK => ?_) ?_
          · go_simp
            with_reducible refine (cP1 _ (hd1.trans (hb0.mono hd1.size))).out.mono ?_
            rintro e V2 ⟨rfl, hb2'⟩
            have hb2 : Below V0.heap.size V0 V2 := hb0.trans (hb2'.mono hb0.size)
            clear hb2'
            refine hK.out _ _ ?_ (fun hHeld => ?_)
            · exact ⟨on_cell hb2 z0, on_cell hb2 z1⟩
            clear hK K
            (try simp only [Act.put, List.setIfInBounds_toArray, List.set_cons_zero, List.set_cons_succ])
            refine wpAnyH_ready (rs := [1, 5]) (by kernel_rfl) (by simp) ?_
            refine AllReadyH.cons (o := _) rfl (fun K hK => ?_) ?_
            · have tt := on_cell hb2 q1
              go_simp
              clear tt
              refine hK.out _ _ ?_ (fun hHeld => ?_)
              · exact ⟨on_cell hb2 z0, on_cell hb2 z1⟩
              clear hK K
              (try simp only [Act.put, List.setIfInBounds_toArray, List.set_cons_zero, List.set_cons_succ])
              refine wpAnyH_ready (rs := [5]) (by kernel_rfl) (by simp) ?_
              refine AllReadyH.cons (o := _) rfl (fun K hK => ?_) ?_
              · go_simp
                obtain ⟨V3, hV3⟩ : ∃ W, W = V2.alloc (.cells #[.int .i64 (putL (v0, n0) x)] 3) := ⟨_, rfl⟩
                obtain ⟨b8, hb8⟩ : ∃ b, b = V2.heap.size := ⟨_, rfl⟩
                rw [← hV3, ← hb8]
                have hb3 : Below V0.heap.size V0 V3 := by rw [hV3]; exact hb2.alloc hb2.size _
                have src3 : Source V3 (some ⟨b8, 0, none⟩) 1 1 [.int .i64 (putL (v0, n0) x)] := by rw [hV3, hb8]; exact source_new V2 [.int .i64 (putL (v0, n0) x)] 3
                clear hV3 hb8
                refine hK.out _ _ ?_ (fun hHeld => ?_)
                · exact ⟨on_cell hb3 z0, on_cell hb3 z1⟩
                clear hK K
                (try simp only [Act.put, List.setIfInBounds_toArray, List.set_cons_zero, List.set_cons_succ])
                refine wpAnyH_ready (rs := [6]) (by kernel_rfl) (by simp) ?_
                refine AllReadyH.cons (o := _) rfl (fun K hK => ?_) ?_
                · have hz3 := hb3.size
                  refine step_append_any elemInt _ rfl _ _ rfl W0.heap.size (.slice ua li.length uc) li.length (li.map (Value.int .i64)) rfl (owns_below hown hb3 (Nat.le_refl _)) (some ⟨b8, 0, none⟩) 1 1 [.int .i64 (putL (v0, n0) x)] rfl src3 rfl (by simp [Value.oneCell']) (by unfold maxLen; omega) (by omega) (by omega) ?_
                  intro v' V4 hown4 hgrow4 hblk4
                  obtain ⟨va4, vc4, rfl⟩ := owns_shape' hown4
                  obtain ⟨p1, p2, p3⟩ := HI7.out.push h5lt hb3 hgrow4 hown4 (put_in Hsm.out hl HI.out)
                  have P1 := Lib.hid p1
                  have hS4 : V4.cell? ⟨b7, 0, none⟩ = some (.bool v0) ∧ V4.cell? ⟨b7, 1, none⟩ = some (.int .i64 n0) := ⟨hgrow4.cell (on_cell hb3 z0) (fun e => Hvb.out _ e.symm rfl), hgrow4.cell (on_cell hb3 z1) (fun e => Hvb.out _ e.symm rfl)⟩
                  clear p1 hown4 hgrow4 hblk4 src3
                  refine hK.out _ _ ?_ (fun hHeld => ?_)
                  · exact hS4
                  clear hK K
                  (try simp only [Act.put, List.setIfInBounds_toArray, List.set_cons_zero, List.set_cons_succ])
                  refine wpAnyH_take (i := 7) (oi := ⟨some 25, _, _, _, _, _⟩) (v := ?_) rfl (by kernel_rfl) (by kernel_rfl) (by kernel_rfl) (fun _ _ _ h => h) (Or.inl ⟨by rfl, ?_⟩) (by assumption) ?_
                  rotate_left 1
                  · intro w hSw
                    (try dsimp only at hSw)
                    go_simp
                    all_goals with_reducible rfl
                  (try simp only [Act.put, List.setIfInBounds_toArray, List.set_cons_zero, List.set_cons_succ])
                  refine wpAnyH_ready (rs := [8]) (by kernel_rfl) (by simp) ?_
                  refine AllReadyH.cons (o := _) rfl (fun K hK => ?_) ?_
                  · go_simp
                    refine hK.out _ _ ?_ (fun hHeld => ?_)
                    · exact ⟨(World.cell?_setCell_far _ _ _ _ (Ne.symm h7n)).trans hS4.1, (World.cell?_setCell_far _ _ _ _ (Ne.symm h7n)).trans hS4.2⟩
                    clear hK K
                    (try simp only [Act.put, List.setIfInBounds_toArray, List.set_cons_zero, List.set_cons_succ])
                    refine wpAnyH_done (by kernel_rfl) ?_ _
                    refine NoPanic.normal ?_
                    have HLX : Hid (li ++ [putL (v0, n0) x] = A.take (j + 1)) := Lib.hid (by rw [HLi.out, HA.out, args_take_snoc Hs.out])
                    clear hS4 hHeld
                    go_wp2
                    go_roundw
                    case rel => first | exact ⟨j + 1, by go_num, by omega, _, _, P1, HLX⟩ | exact ⟨j + 1, _, _, by go_num, by omega, P1, HLX⟩
                    case measure => simp [intOf]; omega
                  exact AllReadyH.nil
                exact AllReadyH.nil
              exact AllReadyH.nil
            refine AllReadyH.cons (o := _) rfl (fun K hK => ?_) ?_
            · go_simp
              obtain ⟨V3, hV3⟩ : ∃ W, W = V2.alloc (.cells #[.int .i64 (putL (v0, n0) x)] 3) := ⟨_, rfl⟩
              obtain ⟨b8, hb8⟩ : ∃ b, b = V2.heap.size := ⟨_, rfl⟩
              rw [← hV3, ← hb8]
              have hb3 : Below V0.heap.size V0 V3 := by rw [hV3]; exact hb2.alloc hb2.size _
              have src3 : Source V3 (some ⟨b8, 0, none⟩) 1 1 [.int .i64 (putL (v0, n0) x)] := by rw [hV3, hb8]; exact source_new V2 [.int .i64 (putL (v0, n0) x)] 3
              clear hV3 hb8
              refine hK.out _ _ ?_ (fun hHeld => ?_)
              · exact ⟨on_cell hb3 z0, on_cell hb3 z1⟩
              clear hK K
              (try simp only [Act.put, List.setIfInBounds_toArray, List.set_cons_zero, List.set_cons_succ])
              refine wpAnyH_ready (rs := [1]) (by kernel_rfl) (by simp) ?_
              refine AllReadyH.cons (o := _) rfl (fun K hK => ?_) ?_
              · have tt := on_cell hb3 q1
                go_simp
                clear tt
                refine hK.out _ _ ?_ (fun hHeld => ?_)
                · exact ⟨on_cell hb3 z0, on_cell hb3 z1⟩
                clear hK K
                (try simp only [Act.put, List.setIfInBounds_toArray, List.set_cons_zero, List.set_cons_succ])
                refine wpAnyH_ready (rs := [6]) (by kernel_rfl) (by simp) ?_
                refine AllReadyH.cons (o := _) rfl (fun K hK => ?_) ?_
                · have hz3 := hb3.size
                  refine step_append_any elemInt _ rfl _ _ rfl W0.heap.size (.slice ua li.length uc) li.length (li.map (Value.int .i64)) rfl (owns_below hown hb3 (Nat.le_refl _)) (some ⟨b8, 0, none⟩) 1 1 [.int .i64 (putL (v0, n0) x)] rfl src3 rfl (by simp [Value.oneCell']) (by unfold maxLen; omega) (by omega) (by omega) ?_
                  intro v' V4 hown4 hgrow4 hblk4
                  obtain ⟨va4, vc4, rfl⟩ := owns_shape' hown4
                  obtain ⟨p1, p2, p3⟩ := HI7.out.push h5lt hb3 hgrow4 hown4 (put_in Hsm.out hl HI.out)
                  have P1 := Lib.hid p1
                  have hS4 : V4.cell? ⟨b7, 0, none⟩ = some (.bool v0) ∧ V4.cell? ⟨b7, 1, none⟩ = some (.int .i64 n0) := ⟨hgrow4.cell (on_cell hb3 z0) (fun e => Hvb.out _ e.symm rfl), hgrow4.cell (on_cell hb3 z1) (fun e => Hvb.out _ e.symm rfl)⟩
                  clear p1 hown4 hgrow4 hblk4 src3
                  refine hK.out _ _ ?_ (fun hHeld => ?_)
                  · exact hS4
                  clear hK K
                  (try simp only [Act.put, List.setIfInBounds_toArray, List.set_cons_zero, List.set_cons_succ])
                  refine wpAnyH_take (i := 7) (oi := ⟨some 25, _, _, _, _, _⟩) (v := ?_) rfl (by kernel_rfl) (by kernel_rfl) (by kernel_rfl) (fun _ _ _ h => h) (Or.inl ⟨by rfl, ?_⟩) (by assumption) ?_
                  rotate_left 1
                  · intro w hSw
                    (try dsimp only at hSw)
                    go_simp
                    all_goals with_reducible rfl
                  (try simp only [Act.put, List.setIfInBounds_toArray, List.set_cons_zero, List.set_cons_succ])
                  refine wpAnyH_ready (rs := [8]) (by kernel_rfl) (by simp) ?_
                  refine AllReadyH.cons (o := _) rfl (fun K hK => ?_) ?_
                  · go_simp
                    refine hK.out _ _ ?_ (fun hHeld => ?_)
                    · exact ⟨(World.cell?_setCell_far _ _ _ _ (Ne.symm h7n)).trans hS4.1, (World.cell?_setCell_far _ _ _ _ (Ne.symm h7n)).trans hS4.2⟩
                    clear hK K
                    (try simp only [Act.put, List.setIfInBounds_toArray, List.set_cons_zero, List.set_cons_succ])
                    refine wpAnyH_done (by kernel_rfl) ?_ _
                    refine NoPanic.normal ?_
                    have HLX : Hid (li ++ [putL (v0, n0) x] = A.take (j + 1)) := Lib.hid (by rw [HLi.out, HA.out, args_take_snoc Hs.out])
                    clear hS4 hHeld
                    go_wp2
                    go_roundw
                    case rel => first | exact ⟨j + 1, by go_num, by omega, _, _, P1, HLX⟩ | exact ⟨j + 1, _, _, by go_num, by omega, P1, HLX⟩
                    case measure => simp [intOf]; omega
                  exact AllReadyH.nil
                exact AllReadyH.nil
              exact AllReadyH.nil
            exact AllReadyH.nil
          exact AllReadyH.nil
      · have hje : j = N := by omega
        subst hje
        have e : li = A := by rw [HLi.out, ← HAl.out, List.take_length]
        subst e
        go_wp2_with fail
        go_meet
        exact ⟨_, HI9⟩
  case rest =>
    clear HI0
    obtain ⟨u, HI9⟩ := hcut
    obtain ⟨ua, uc, rfl⟩ := owns_shape' HI9.out.own
    have q0 := HI9.out.cells.1
    have q1 := HI9.out.cells.2
    have h4 := (HI9.out.oth.keep b4 (by have := Hbs.out; omega) (by have := Hbs.out; omega)).trans Hq4.out
    have e0 : wc.cell? ⟨b4, 0, none⟩ = some (.int .i64 0) := by simp [World.cell?, h4]
    have e1 : wc.cell? ⟨b4, 1, none⟩ = some (.slice none 0 0) := by simp [World.cell?, h4]
    have f0 : wc.frozen? ⟨b4, 0, none⟩ = false := by simp [World.frozen?, h4]
    have f1 : wc.frozen? ⟨b4, 1, none⟩ = false := by simp [World.frozen?, h4]
    have HF : Hid (∀ V, V = (wc.setCell ⟨b4, 0, none⟩ (.int .i64 pr)).setCell ⟨b4, 1, none⟩ (.slice ua A.length uc) → V.cell? ⟨b4, 0, none⟩ = some (.int .i64 pr) ∧ V.cell? ⟨b4, 1, none⟩ = some (.slice ua A.length uc) ∧ RowOfEnd pr A w (.returned (.agg #[.int .i64 pr, .slice ua A.length uc])) V) := Lib.hid (fun V hV => by
      have hg : V.heap[b4]? = some (.cells #[.int .i64 pr, .slice ua A.length uc] 50 (0, 0)) := by rw [hV]; simpa using heap_setCell (j := 1) (heap_setCell (j := 0) h4 (.int .i64 pr)) (.slice ua A.length uc)
      have hlo4 : w.heap.size ≤ b4 := by have := Hbs.out; omega
      have hbw : Below w.heap.size w wc := HB0.out.trans (HI9.out.oth.low (by have := Hbs.out; omega) HB0.out.size)
      refine ⟨by simp [World.cell?, hg], by simp [World.cell?, hg], ua, uc, rfl, ?_, ?_⟩
      · have hown : V.ownsRow w.heap.size 3 1 (.slice ua A.length uc) A.length (A.map (Value.int .i64)) := by
          rw [hV]
          have hz := Hbs.out
          refine owns_base (owns_block HI9.out.own (fun g hg => ?_)) HB0.out.size
          have := (HI9.out.own.lt g hg).1
          rw [Below.heap_setCell _ _ _ _ (fun e => by have e : g = b4 := e; omega), Below.heap_setCell _ _ _ _ (fun e => by have e : g = b4 := e; omega)]
        exact intsZ_of_row hown
      · rw [hV]
        exact (hbw.setCell (p := ⟨b4, 0, none⟩) hlo4 _).setCell (p := ⟨b4, 1, none⟩) hlo4 _)
    clear h4
    go_wp2_with fail
    generalize hV : ((World.setCell wc _ _).setCell _ _) = V
    obtain ⟨k0, k1, HE⟩ := HF.out V hV.symm
    clear hV
    refine bodyPost_ret (v := .agg #[.int .i64 pr, .slice ua A.length uc]) (by simp [results, Try.results20, go_sem, k0, k1]) rfl ?_
    exact HE
set_option maxHeartbeats 4000000 in
set_option maxRecDepth 8000 in
theorem has_any (aa xa : Option Addr) (ca xc : Nat) (ls : List (List Int)) (x : List Int) (w : World) (ha : ListsV w aa ls) (hx : Ints w xa x) (hm : ls.length ≤ 1000000) (hs : ∀ y ∈ ls, y.length ≤ 1000000) (R : Bool) (hR : R = decide (x ∈ ls)) :
    Calls Try.prog 18 #[.slice aa ls.length ca, .slice xa x.length xc] w fun e w' => e = .returned (.bool R) ∧ Below w.heap.size w w' := by
  have HA := Lib.hid ha
  have HX := Lib.hid hx
  have HS := Lib.hid hs
  have HR := Lib.hid hR
  obtain ⟨n, hn⟩ : ∃ n, n = ls.length := ⟨_, rfl⟩
  obtain ⟨xl, hxl⟩ : ∃ n, n = x.length := ⟨_, rfl⟩
  rw [← hn] at hm ⊢
  have Hn := Lib.hid hn
  have Hxl := Lib.hid hxl
  rw [← hxl]
  clear ha hx hs hR hn hxl
  go_enter Try.func18, Try.ntmps18
  go_wp2_with fail
  go_loopw [8] (fun t wr => ∃ k : Nat, t = .int .i64 k ∧ k ≤ n ∧ Below w.heap.size w wr ∧ Hid (∀ y ∈ ls.take k, y ≠ x)) (fun t _ => n - (intOf t).toNat)
  case atStart => exact ⟨0, rfl, Nat.zero_le _, Below.refl _ _, Lib.hid (fun y hy => by simp at hy)⟩
  case round =>
    obtain ⟨k, rfl, hk, hbel, HK⟩ := hrel
    by_cases hlt : k < n
    · obtain ⟨b1, o1, l1, a1, c1, rfl, hy, x1, i1⟩ := lists_at HA.out (k := k) (by rw [← Hn.out]; exact hlt)
      have HY := Lib.hid hy
      have hl1 := HS.out l1 (List.mem_of_getElem? hy)
      have e1 := below_cell hbel (Nat.le_refl _) x1
      have cI := Lib.hid (sameInts_any a1 xa c1 xc l1 x wr (Ints.old i1 hbel (Nat.le_refl _)) (Ints.old HX.out hbel (Nat.le_refl _)) (by omega))
      obtain ⟨d, hd⟩ : ∃ d, d = decide (l1 = x) := ⟨_, rfl⟩
      rw [← hd, ← Hxl.out] at cI
      have Hd := Lib.hid hd
      clear hy x1 i1 hd
      cases d with
      | true =>
        have hRt : R = true := by
          rw [HR.out]
          have e : l1 = x := by simpa using Hd.out.symm
          rw [← e]
          simpa using List.mem_of_getElem? HY.out
        subst hRt
        go_wp2_with (first | (go_at_call 31; (with_reducible refine cI.out.mono ?_); rintro e V ⟨rfl, nd, hV⟩))
        go_ret
        exact ⟨rfl, by rw [← hV]; exact below_drewN hbel nd⟩
      | false =>
        have HK2 : Hid (∀ y ∈ ls.take (k + 1), y ≠ x) := Lib.hid (by
          have e : l1 ≠ x := by simpa using Hd.out.symm
          rw [take_snoc' HY.out]
          intro y hy
          rcases List.mem_append.1 hy with hy | hy
          · exact HK.out y hy
          · rw [List.mem_singleton] at hy; rw [hy]; exact e)
        clear HK
        go_upto_if 16 with (first | (go_at_call 31; (with_reducible refine cI.out.mono ?_); rintro e V ⟨rfl, nd, hV⟩; have hbV : Below w.heap.size w V := (by rw [← hV]; exact below_drewN hbel nd)))
        clear hV cI
        go_wp2_with fail
        go_roundw
        case rel => exact ⟨k + 1, by go_num, by omega, hbV, HK2⟩
        case measure => simp [intOf]; omega
    · have hRf : R = false := by
        rw [HR.out]
        have := HK.out
        rw [List.take_of_length_le (by rw [← Hn.out]; omega)] at this
        simpa using fun h => this x h rfl
      subst hRf
      go_wp2_with fail
      go_ret
      exact ⟨rfl, hbel⟩
set_option maxHeartbeats 4000000 in
set_option maxRecDepth 8000 in
theorem within_any (aa ab : Option Addr) (ca cb : Nat) (xs ys : List (List Int)) (w : World) (ha : ListsV w aa xs) (hb : ListsV w ab ys) (hm : xs.length ≤ 1000000) (hm2 : ys.length ≤ 1000000) (hs : ∀ y ∈ ys, y.length ≤ 1000000) (R : Bool) (hR : R = decide (∀ x ∈ xs, x ∈ ys)) :
    Calls Try.prog 23 #[.slice aa xs.length ca, .slice ab ys.length cb] w fun e w' => e = .returned (.bool R) ∧ Below w.heap.size w w' := by
  have HA := Lib.hid ha
  have HB := Lib.hid hb
  have HS := Lib.hid hs
  have HR := Lib.hid hR
  obtain ⟨n, hn⟩ : ∃ n, n = xs.length := ⟨_, rfl⟩
  obtain ⟨m, hm'⟩ : ∃ n, n = ys.length := ⟨_, rfl⟩
  rw [← hn] at hm ⊢
  rw [← hm'] at hm2
  rw [← hm']
  have Hn := Lib.hid hn
  have Hm := Lib.hid hm'
  clear ha hb hs hR hn hm'
  go_enter Try.func23, Try.ntmps23
  go_wp2_with fail
  go_loopw [9] (fun t wr => ∃ k : Nat, t = .int .i64 k ∧ k ≤ n ∧ Below w.heap.size w wr ∧ Hid (∀ y ∈ xs.take k, y ∈ ys)) (fun t _ => n - (intOf t).toNat)
  case atStart => exact ⟨0, rfl, Nat.zero_le _, Below.refl _ _, Lib.hid (fun y hy => by simp at hy)⟩
  case round =>
    obtain ⟨k, rfl, hk, hbel, HK⟩ := hrel
    by_cases hlt : k < n
    · obtain ⟨b1, o1, l1, a1, c1, rfl, hy, x1, i1⟩ := lists_at HA.out (k := k) (by rw [← Hn.out]; exact hlt)
      have HY := Lib.hid hy
      have e1 := below_cell hbel (Nat.le_refl _) x1
      obtain ⟨d, hd⟩ : ∃ d, d = decide (l1 ∈ ys) := ⟨_, rfl⟩
      have cI := Lib.hid (has_any ab a1 cb c1 ys l1 wr (HB.out.below hbel (Nat.le_refl _)) (Ints.old i1 hbel (Nat.le_refl _)) (by rw [← Hm.out]; exact hm2) HS.out d hd)
      rw [← Hm.out] at cI
      have Hd := Lib.hid hd
      clear hy x1 i1 hd
      cases d with
      | false =>
        have hRt : R = false := by
          rw [HR.out]
          have e : l1 ∉ ys := by simpa using Hd.out.symm
          simp only [decide_eq_false_iff_not]
          exact fun h => e (h l1 (List.mem_of_getElem? HY.out))
        subst hRt
        go_wp2_with (first | (go_at_call 18; (with_reducible refine cI.out.mono ?_); rintro e V ⟨rfl, hV⟩))
        go_ret
        exact ⟨rfl, hbel.trans (hV.mono hbel.size)⟩
      | true =>
        have HK2 : Hid (∀ y ∈ xs.take (k + 1), y ∈ ys) := Lib.hid (by
          have e : l1 ∈ ys := by simpa using Hd.out.symm
          rw [take_snoc' HY.out]
          intro y hy
          rcases List.mem_append.1 hy with hy | hy
          · exact HK.out y hy
          · rw [List.mem_singleton] at hy; rw [hy]; exact e)
        clear HK
        go_upto_if 16 with (first | (go_at_call 18; (with_reducible refine cI.out.mono ?_); rintro e V ⟨rfl, hV⟩; have hbV : Below w.heap.size w V := hbel.trans (hV.mono hbel.size)))
        clear hV cI
        go_wp2_with fail
        go_roundw
        case rel => exact ⟨k + 1, by go_num, by omega, hbV, HK2⟩
        case measure => simp [intOf]; omega
    · have hRf : R = true := by
        rw [HR.out]
        have := HK.out
        rw [List.take_of_length_le (by rw [← Hn.out]; omega)] at this
        simpa using this
      subst hRf
      go_wp2_with fail
      go_ret
      exact ⟨rfl, hbel⟩
set_option maxHeartbeats 4000000 in
set_option maxRecDepth 8000 in
theorem names_any (aa : Option Addr) (ca : Nat) (ps : List Pat) (pred : Int) (w : World) (ha : Pats w aa ps) (hm : ps.length ≤ 1000000) (R : Bool) (hR : R = decide (∃ p ∈ ps, p.1 = pred)) :
    Calls Try.prog 22 #[.slice aa ps.length ca, .int .i64 pred] w fun e w' => e = .returned (.bool R) ∧ Below w.heap.size w w' := by
  have HA := Lib.hid ha
  have HR := Lib.hid hR
  obtain ⟨n, hn⟩ : ∃ n, n = ps.length := ⟨_, rfl⟩
  rw [← hn] at hm ⊢
  have Hn := Lib.hid hn
  clear ha hR hn
  go_enter Try.func22, Try.ntmps22
  go_wp2_with fail
  go_loopw [9] (fun t wr => ∃ k : Nat, t = .int .i64 k ∧ k ≤ n ∧ Below w.heap.size w wr ∧ Hid (∀ p ∈ ps.take k, p.1 ≠ pred)) (fun t _ => n - (intOf t).toNat)
  case atStart => exact ⟨0, rfl, Nat.zero_le _, Below.refl _ _, Lib.hid (fun y hy => by simp at hy)⟩
  case round =>
    obtain ⟨k, rfl, hk, hbel, HK⟩ := hrel
    by_cases hlt : k < n
    · obtain ⟨b1, o1, rfl, hc⟩ : ∃ b off, aa = some ⟨b, off, none⟩ ∧ ∀ (i : Nat) (p : Pat), ps[i]? = some p → w.cell? ⟨b, off + i * 2, none⟩ = some (.int .i64 p.1) ∧ ∃ sa sc, w.cell? ⟨b, off + i * 2 + 1, none⟩ = some (.slice sa p.2.length sc) ∧ Slots w sa p.2 := by
        rcases HA.out with h | h
        · rw [Hn.out, h] at hlt; simp at hlt
        · exact h
      obtain ⟨p, hp⟩ : ∃ p, p = ps[k]'(by rw [← Hn.out]; exact hlt) := ⟨_, rfl⟩
      have Hp : Hid (ps[k]? = some p) := Lib.hid (by rw [hp]; exact List.getElem?_eq_getElem _)
      obtain ⟨c0, sa, sc, c1, -⟩ := hc k p Hp.out
      obtain ⟨pp, sl⟩ := p
      have c0 := below_cell hbel (Nat.le_refl _) c0
      have c1 := below_cell hbel (Nat.le_refl _) c1
      simp only at c0 c1
      clear hp hc
      obtain ⟨W1, hW1⟩ : ∃ V, V = wr.alloc (.cells #[.int .i64 pp, .slice sa sl.length sc] 27) := ⟨_, rfl⟩
      have hbw : Below w.heap.size w W1 := by rw [hW1]; exact hbel.alloc hbel.size _
      have HW1 := Lib.hid hW1
      clear hW1
      by_cases he : pp = pred
      · have hRt : R = true := by
          rw [HR.out]
          simp only [decide_eq_true_eq]
          exact ⟨_, List.mem_of_getElem? Hp.out, he⟩
        subst hRt
        have he2 : (pp == pred) = true := by simp [he]
        clear he
        go_wp2_with fail
        go_ret
        rw [← HW1.out]
        exact ⟨rfl, hbw⟩
      · have HK2 : Hid (∀ p ∈ ps.take (k + 1), p.1 ≠ pred) := Lib.hid (by
          rw [take_snoc' Hp.out]
          intro y hy
          rcases List.mem_append.1 hy with hy | hy
          · exact HK.out y hy
          · rw [List.mem_singleton] at hy; rw [hy]; exact he)
        clear HK
        have he2 : (pp == pred) = false := by simp [he]
        clear he
        go_wp2_with fail
        rw [← HW1.out]
        go_roundw
        case rel => exact ⟨k + 1, by go_num, by omega, hbw, HK2⟩
        case measure => simp [intOf]; omega
    · have hRf : R = false := by
        rw [HR.out]
        have := HK.out
        rw [List.take_of_length_le (by rw [← Hn.out]; omega)] at this
        simp only [decide_eq_false_iff_not]
        exact fun ⟨p, hp, e⟩ => this p hp e
      subst hRf
      go_wp2_with fail
      go_ret
      exact ⟨rfl, hbel⟩
end Mt
end Go.Proofs.Ytkejjiohkhlnnaa

namespace Go.Proofs.Ytkejjiohkhlnnaa
open Go.RowKit
namespace Mt

theorem mem_one {R1 : List Row} {r0 r : Row} : r ∈ joinedL R1 [r0] ↔ r ∈ R1 ∨ r = r0 := by rw [joinedL_mem]; simp
theorem more_plain {R1 : List Row} {r0 : Row} {cs : List C3} {R : RuleV} (hr : ∀ r ∈ R1, IdsIn cs.length r.2) (h0 : IdsIn cs.length r0.2) (ok : RuleOk R cs.length) (n : Nat) :
    (∀ r ∈ joinedL R1 [r0], IdsIn cs.length r.2) ∧ (r0 ∈ R1 → pre R1 cs R n = pre (joinedL R1 [r0]) cs R n) ∧
    ((∀ p ∈ R.neg, p.1 ≠ r0.1) → ∀ x ∈ pre R1 cs R n, x ∈ pre (joinedL R1 [r0]) cs R n) ∧ ((∀ p ∈ R.pos, p.1 ≠ r0.1) → ∀ x ∈ pre (joinedL R1 [r0]) cs R n, x ∈ pre R1 cs R n) ∧
    (∀ x ∈ pre (joinedL R1 [r0]) cs R n, x ∉ pre R1 cs R n → ∃ p ∈ R.pos, (p.1, argsL p.2 x) = r0) ∧ (∀ x ∈ pre R1 cs R n, x ∉ pre (joinedL R1 [r0]) cs R n → ∃ p ∈ R.neg, (p.1, argsL p.2 x) = r0) := by
  have hr2 : ∀ r ∈ joinedL R1 [r0], IdsIn cs.length r.2 := fun r h => by
    rcases mem_one.1 h with h | rfl
    · exact hr r h
    · exact h0
  have cm : ∀ q ∈ (condsL R).take n, (∃ p ∈ R.pos, q = .pos p) ∨ (∃ t, q = .tst t) ∨ ∃ p ∈ R.neg, q = .neg p := fun q hq => by
    have hq := List.mem_of_mem_take hq
    unfold condsL at hq
    rcases List.mem_append.1 hq with hq | hq
    · rcases List.mem_append.1 hq with hq | hq
      · obtain ⟨p, hp, rfl⟩ := List.mem_map.1 hq; exact .inl ⟨p, hp, rfl⟩
      · obtain ⟨p, hp, rfl⟩ := List.mem_map.1 hq; exact .inr (.inl ⟨p, rfl⟩)
    · obtain ⟨p, hp, rfl⟩ := List.mem_map.1 hq; exact .inr (.inr ⟨p, hp, rfl⟩)
  have up : ∀ x, x ∈ pre R1 cs R n → (∀ p ∈ R.neg, (p.1, argsL p.2 x) ≠ r0) → x ∈ pre (joinedL R1 [r0]) cs R n := fun x hx h => by
    obtain ⟨h1, h2, h3⟩ := (pre_iff hr ok n x).1 hx
    refine (pre_iff hr2 ok n x).2 ⟨h1, h2, fun q hq => ?_⟩
    have := h3 q hq
    rcases cm q hq with ⟨p, hp, rfl⟩ | ⟨t, rfl⟩ | ⟨p, hp, rfl⟩
    · exact mem_one.2 (.inl this)
    · exact this
    · intro hm
      rcases mem_one.1 hm with hm | hm
      · exact this hm
      · exact h p hp hm
  have dn : ∀ x, x ∈ pre (joinedL R1 [r0]) cs R n → (∀ p ∈ R.pos, (p.1, argsL p.2 x) ≠ r0) → x ∈ pre R1 cs R n := fun x hx h => by
    obtain ⟨h1, h2, h3⟩ := (pre_iff hr2 ok n x).1 hx
    refine (pre_iff hr ok n x).2 ⟨h1, h2, fun q hq => ?_⟩
    have := h3 q hq
    rcases cm q hq with ⟨p, hp, rfl⟩ | ⟨t, rfl⟩ | ⟨p, hp, rfl⟩
    · rcases mem_one.1 this with hm | hm
      · exact hm
      · exact absurd hm (h p hp)
    · exact this
    · intro hm
      exact this (mem_one.2 (.inl hm))
  refine ⟨hr2, fun h => by rw [joinedL_self R1 [r0] (fun r hr => by rw [List.mem_singleton] at hr; rw [hr]; exact h)], fun h x hx => up x hx fun p hp e => h p hp (congrArg Prod.fst e), fun h x hx => dn x hx fun p hp e => h p hp (congrArg Prod.fst e), fun x hx hn => ?_, fun x hx hn => ?_⟩
  · apply Classical.byContradiction
    intro hc
    exact hn (dn x hx fun p hp e => hc ⟨p, hp, e⟩)
  · apply Classical.byContradiction
    intro hc
    exact hn (up x hx fun p hp e => hc ⟨p, hp, e⟩)
/-- the cells of rows whose lists' addresses are known -/
abbrev RowA := Row × Option Addr × Nat
def rowCells (l : List RowA) : List Value := l.flatMap fun r => [.int .i64 r.1.1, .slice r.2.1 r.1.2.length r.2.2]
theorem rowCells_length (l : List RowA) : (rowCells l).length = l.length * 2 := by
  induction l with
  | nil => rfl
  | cons t l ih => simp only [rowCells, List.flatMap_cons, List.length_append, List.length_cons, List.length_nil] at ih ⊢; omega
theorem rowCells_at (l : List RowA) (i : Nat) (h : i < l.length) : (rowCells l)[i * 2]? = some (.int .i64 l[i].1.1) ∧ (rowCells l)[i * 2 + 1]? = some (.slice l[i].2.1 l[i].1.2.length l[i].2.2) := by
  induction l generalizing i with
  | nil => simp at h
  | cons c l ih =>
    cases i with
    | zero => simp [rowCells]
    | succ i =>
      have := ih i (by simpa using h)
      have e : (i + 1) * 2 = i * 2 + 1 + 1 := by omega
      rw [e]
      simpa [rowCells] using this
/-- rows, read with their addresses -/
theorem rows_read {Z : Nat → Prop} {w : World} {a : Option Addr} {c : Nat} {l : List Row} (h : RowsZ Z w a c l) : ∃ la : List RowA, la.map (·.1) = l ∧ Source w a l.length c (rowCells la) ∧ ∀ r ∈ la, IntsZ Z w r.2.1 r.2.2 r.1.2 := by
  rcases h.1 with h0 | ⟨b, off, ha, hz, hc⟩
  · subst h0
    refine ⟨[], rfl, ?_, fun r hr => by cases hr⟩
    cases a with
    | none => exact .inl ⟨rfl, rfl, (h.2 rfl).2, rfl⟩
    | some ad => exact .inr ⟨ad, rfl, fun j u hu => by simp [rowCells] at hu⟩
  · subst ha
    have key : ∀ i, i < l.length → ∃ z : RowA, l[i]? = some z.1 ∧ w.cell? ⟨b, off + i * 2, none⟩ = some (.int .i64 z.1.1) ∧ w.cell? ⟨b, off + i * 2 + 1, none⟩ = some (.slice z.2.1 z.1.2.length z.2.2) ∧ IntsZ Z w z.2.1 z.2.2 z.1.2 := fun i hi => by
      obtain ⟨c0, ai, ci, c1, hI⟩ := hc i hi
      exact ⟨(l[i], ai, ci), List.getElem?_eq_getElem hi, c0, c1, hI⟩
    obtain ⟨f, hf⟩ := Deep.choose_lt (α := RowA) key
    have hl : ((List.range l.length).map f).map (·.1) = l := by
      apply List.ext_getElem?
      intro i
      by_cases hi : i < l.length
      · rw [List.map_map, List.getElem?_map, List.getElem?_range hi, (hf i hi).1]
        rfl
      · rw [List.getElem?_eq_none (by simpa using hi), List.getElem?_eq_none (by omega)]
    refine ⟨(List.range l.length).map f, hl, .inr ⟨_, rfl, fun j u hu => ?_⟩, fun r hr => ?_⟩
    · have hj := (List.getElem?_eq_some_iff.1 hu).1
      rw [rowCells_length, List.length_map, List.length_range] at hj
      have hi : j / 2 < l.length := by omega
      obtain ⟨q0, q1⟩ := rowCells_at ((List.range l.length).map f) (j / 2) (by simpa using hi)
      obtain ⟨f1, f2, f3, f4⟩ := hf _ hi
      simp only [List.getElem_map, List.getElem_range] at q0 q1
      have e : (⟨b, off, none⟩ : Addr).add j = ⟨b, off + j, none⟩ := by unfold Addr.add; split <;> simp_all
      rw [e]
      rcases Nat.mod_two_eq_zero_or_one j with hm | hm
      · have hj2 : j = j / 2 * 2 := by omega
        rw [hj2] at hu ⊢
        rw [q0] at hu
        cases hu
        exact f2
      · have hj2 : j = j / 2 * 2 + 1 := by omega
        rw [hj2] at hu ⊢
        rw [q1] at hu
        cases hu
        rw [← Nat.add_assoc]
        exact f3
    · obtain ⟨i, hi, rfl⟩ := List.mem_map.1 hr
      exact (hf i (List.mem_range.1 hi)).2.2.2
/-- rows in a row of the call's own -/
theorem rows_own {Z : Nat → Prop} {w : World} {B : Nat} {a : Option Addr} {n c : Nat} {la : List RowA} (h : w.ownsRow B 50 2 (.slice a n c) la.length (rowCells la)) (hz : ∀ j, B ≤ j → Z j) (hI : ∀ r ∈ la, IntsZ Z w r.2.1 r.2.2 r.1.2) : RowsZ Z w a c (la.map (·.1)) := by
  rcases owns_form h with ⟨h0, h1, _⟩ | ⟨g, cap, h5, hb, _, _, _, _, hc, _⟩
  · have : la = [] := List.eq_nil_of_length_eq_zero h1
    subst this
    cases h0
    exact ⟨.inl rfl, fun _ => ⟨rfl, rfl⟩⟩
  · cases h5
    refine ⟨.inr ⟨g, 0, rfl, hz g hb, fun i hi => ?_⟩, fun e => by cases e⟩
    have hi' : i < la.length := by simpa using hi
    obtain ⟨q0, q1⟩ := rowCells_at la i hi'
    rw [Nat.zero_add]
    simp only [List.getElem_map]
    exact ⟨hc _ _ q0, la[i].2.1, la[i].2.2, hc _ _ q1, hI _ (List.getElem_mem _)⟩
theorem rowCells_one (l : List RowA) : ∀ u ∈ rowCells l, u.oneCell' = true := by
  intro u hu
  obtain ⟨r, hr, hu⟩ := List.mem_flatMap.1 hu
  simp at hu
  rcases hu with rfl | rfl <;> rfl
/-- the rows behind the first -/
theorem rows_tail {Z : Nat → Prop} {w : World} {g o c : Nat} {l : List Row} (h : RowsZ Z w (some ⟨g, o, none⟩) c l) (hl : l ≠ []) : RowsZ Z w (some ⟨g, o + 2, none⟩) (c - 1) l.tail := by
  rcases h.1 with h0 | ⟨b, off, ha, hz, hc⟩
  · exact absurd h0 hl
  · cases ha
    refine ⟨.inr ⟨g, o + 2, rfl, hz, fun i hi => ?_⟩, fun e => by cases e⟩
    rw [List.length_tail] at hi
    obtain ⟨c0, ai, ci, c1, hI⟩ := hc (i + 1) (by omega)
    have e1 : o + (i + 1) * 2 = o + 2 + i * 2 := by omega
    rw [e1] at c0 c1
    refine ⟨by rw [List.getElem_tail]; exact c0, ai, ci, by rw [List.getElem_tail]; exact c1, by rw [List.getElem_tail]; exact hI⟩
/-- Full of some rows -/
def FullEndR (ar : List Int) (rows : List Row) (w : World) (e : Ending) (w' : World) : Prop := ∃ sb n1, e = .returned (.pointer (some ⟨sb, 0, none⟩)) ∧ StoreL (w.heap.size + 1) n1 24 ar (joinedL [] rows) sb w' ∧ Below w.heap.size w w'
set_option maxHeartbeats 4000000 in
set_option maxRecDepth 100000 in
theorem full_rows {Z1 Z2 : Nat → Prop} (T : WorldV) (w : World) (hA : IntsZ Z1 w T.aa T.ac T.ar) (hAo : T.ar.length ≤ 5 ∧ ∀ x ∈ T.ar, 0 ≤ x ∧ x ≤ 3) (hR : RowsZ Z2 w T.ra T.rc T.rows) (hf : ∀ r ∈ T.rows, FitsRow T.ar r) (h24 : T.rows.length ≤ 24) : Calls Try.prog 12 #[.agg T.cells] w (FullEndR T.ar T.rows w) := by
  obtain ⟨W0, hW0⟩ : ∃ V, V = w.alloc (.cells T.cells 34) := ⟨_, rfl⟩
  have hb0 : Below w.heap.size w W0 := by rw [hW0]; exact (Below.refl _ _).alloc (Nat.le_refl _) _
  have hs0 : W0.heap.size = w.heap.size + 1 := by rw [hW0]; simp
  have hA0 : IntsZ Z1 W0 T.aa T.ac T.ar := hA.below hb0 (Nat.le_refl _)
  have hR0 : RowsZ (fun j => j < W0.heap.size) W0 T.ra T.rc T.rows := hR.keep (fun j hj _ => hb0.block j hj) (fun j hj _ => by omega)
  have cN := Lib.hid (new_L T.aa T.ac T.ar W0 hA0 (fun x hx => by have := hAo.2 x hx; omega) (by have := hAo.1; omega))
  have cA : Hid (∀ sb w1, StoreL W0.heap.size w1.heap.size 0 T.ar [] sb w1 → Below W0.heap.size W0 w1 → Calls Try.prog 21 #[.pointer (some ⟨sb, 0, none⟩), .slice T.ra T.rows.length T.rc] w1 fun e w' => ∃ k : Int, e = .returned (.tuple #[.int .i64 k, .int .i64 0]) ∧ StoreL W0.heap.size w'.heap.size (0 + T.rows.length) T.ar (joinedL [] T.rows) sb w' ∧ KeepZ (Free W0.heap.size w1.heap.size) w1 w') := Lib.hid (fun sb w1 hs hb => by
    refine add_L hs (Below.refl _ _) T.ra T.rc T.rows ?_ hf (by omega)
    exact hR0.keep (fun j hj _ => hb.block j hj) (fun j hj _ => .inl hj))
  obtain ⟨RN, hRN⟩ : ∃ n, n = T.rows.length := ⟨_, rfl⟩
  obtain ⟨AN, hAN⟩ : ∃ n, n = T.ar.length := ⟨_, rfl⟩
  obtain ⟨ra, hra⟩ : ∃ n, n = T.ra := ⟨_, rfl⟩
  obtain ⟨rc, hrc⟩ : ∃ n, n = T.rc := ⟨_, rfl⟩
  obtain ⟨aa, haa⟩ : ∃ n, n = T.aa := ⟨_, rfl⟩
  obtain ⟨ac, hac⟩ : ∃ n, n = T.ac := ⟨_, rfl⟩
  obtain ⟨rows, hrows⟩ : ∃ n, n = T.rows := ⟨_, rfl⟩
  obtain ⟨ar, har⟩ : ∃ n, n = T.ar := ⟨_, rfl⟩
  rw [← hRN, ← hra, ← hrc, ← har] at cA
  rw [← hAN, ← haa, ← hac, ← har] at cN
  unfold FullEndR
  rw [← hrows] at cA ⊢
  rw [← har]
  rw [← hRN] at h24
  have y0 : W0.cell? ⟨w.heap.size, 0, none⟩ = some (.slice aa AN ac) := by rw [hW0, haa, hAN, hac]; simp [WorldV.cells]
  have y1 : W0.cell? ⟨w.heap.size, 1, none⟩ = some (.slice ra RN rc) := by rw [hW0, hra, hRN, hrc]; simp [WorldV.cells]
  have HW0 := Lib.hid hW0
  have Hs0 := Lib.hid hs0
  have Hb0 := Lib.hid hb0
  clear hW0 hs0 hb0 hRN hAN hra hrc haa hac hrows har hA hAo hR hf hA0 hR0
  go_enter Try.func12, Try.ntmps12
  go_upto_region 1 with fail
  rw [← HW0.out]
  go_upto_region 2 with (first | (go_at_call 25; (with_reducible refine cN.out.mono ?_); rintro e w1 ⟨sb, rfl, h1, hb1⟩; replace y1 := on_cell hb1 y1))
  have cA2 := Lib.hid (cA.out sb w1 h1 hb1)
  have Hb1 := Lib.hid hb1
  clear h1 hb1 cA cN
  go_wp2_with (first | (go_at_call 21; (with_reducible refine cA2.out.mono ?_); rintro e w2 ⟨k, rfl, h2, hk2⟩))
  go_ret
  have hz := Hs0.out
  have hz1 := Hb1.out.size
  refine ⟨sb, w2.heap.size, rfl, ?_, (Hb0.out.trans (Hb1.out.mono (by omega))).trans (hk2.below (by omega) (by omega))⟩
  obtain ⟨σ, τ, q1, q2, q3, q4, q5, q6⟩ := h2
  rw [← hz]
  exact ⟨σ, τ, q1, q2, q3, by omega, q5, q6⟩
end Mt
end Go.Proofs.Ytkejjiohkhlnnaa

namespace Go.Proofs.Ytkejjiohkhlnnaa
open Go.RowKit
namespace Mt

set_option linter.unusedSimpArgs false in
set_option maxHeartbeats 8000000 in
set_option maxRecDepth 100000 in
theorem uses_any {d L : Nat} (aa : Option Addr) (ca : Nat) (ps : List Pat) (q : Int) (ra : Option Addr) (rc : Nat) (xs : List Int) (sa : Option Addr) (sc : Nat) (x : List Int) (w : World) (ha : Pats w aa ps) (hm : ps.length ≤ 1000000) (hs : ∀ p ∈ ps, ∀ s ∈ p.2, SlotOk L d s) (h8 : ∀ p ∈ ps, p.2.length ≤ 8) (hl : L ≤ x.length) (hi : IdsIn d x) (hx : Ints w sa x) (hr : Ints w ra xs) (_ : xs.length ≤ 1000000) (R : Bool) (hR : R = decide (∃ p ∈ ps, (p.1, argsL p.2 x) = (q, xs))) :
    Calls Try.prog 24 #[.slice aa ps.length ca, .agg #[.int .i64 q, .slice ra xs.length rc], .slice sa x.length sc] w fun e w' => e = .returned (.bool R) ∧ Below w.heap.size w w' := by
  have HA := Lib.hid ha
  have HR := Lib.hid hR
  have H8 := Lib.hid h8
  have cR := fun (p : Pat) (pa : Option Addr) (pc : Nat) (hp : p ∈ ps) W (hW : Below w.heap.size w W) (hS : Slots W pa p.2) => Lib.hid (rowOf_any p pa sa pc sc x W hS (hs p hp) hl hi (hx.below hW) (h8 p hp))
  have cI := fun (a : Option Addr) (c : Nat) (ys : List Int) W (hW : Below w.heap.size w W) (hy : Ints W a ys) (h : ys.length ≤ 1000000) => Lib.hid (sameInts_any a ra c rc ys xs W hy (hr.below hW) (by omega))
  obtain ⟨W0, hW0⟩ : ∃ V, V = w.alloc (.cells #[.int .i64 q, .slice ra xs.length rc] 50) := ⟨_, rfl⟩
  obtain ⟨b4, hb4⟩ : ∃ b, b = w.heap.size := ⟨_, rfl⟩
  have hb0 : Below w.heap.size w W0 := by rw [hW0]; exact (Below.refl _ _).alloc (Nat.le_refl _) _
  have y0 : W0.cell? ⟨b4, 0, none⟩ = some (.int .i64 q) := by rw [hW0, hb4]; simp
  have y1 : W0.cell? ⟨b4, 1, none⟩ = some (.slice ra xs.length rc) := by rw [hW0, hb4]; simp
  obtain ⟨n, hn⟩ : ∃ n, n = ps.length := ⟨_, rfl⟩
  obtain ⟨xl, hxl⟩ : ∃ n, n = x.length := ⟨_, rfl⟩
  obtain ⟨xsl, hxsl⟩ : ∃ n, n = xs.length := ⟨_, rfl⟩
  rw [← hxl] at cR
  rw [← hxsl] at cI
  have HW0 := Lib.hid hW0
  have Hb4 := Lib.hid hb4
  have Hb0 := Lib.hid hb0
  rw [← hxsl] at y1 HW0
  rw [← hn] at hm ⊢
  rw [← hxl, ← hxsl]
  have Hn := Lib.hid hn
  clear ha hs h8 hi hx hr hR hW0 hb4 hb0 hn hl hxl hxsl
  go_enter Try.func24, Try.ntmps24
  go_upto_region 1 with fail
  rw [← HW0.out, ← Hb4.out]
  go_wp2_with fail
  go_loopw [12] (fun t wr => ∃ k : Nat, t = .int .i64 k ∧ k ≤ n ∧ Below W0.heap.size W0 wr ∧ Hid (∀ p ∈ ps.take k, (p.1, argsL p.2 x) ≠ (q, xs))) (fun t _ => n - (intOf t).toNat)
  case atStart => exact ⟨0, rfl, Nat.zero_le _, Below.refl _ _, Lib.hid (fun y hy => by simp at hy)⟩
  case round =>
    obtain ⟨k, rfl, hk, hbel, HK⟩ := hrel
    have y0 := on_cell hbel y0
    have y1 := on_cell hbel y1
    by_cases hlt : k < n
    · obtain ⟨b1, o1, rfl, hc⟩ : ∃ b off, aa = some ⟨b, off, none⟩ ∧ ∀ (i : Nat) (p : Pat), ps[i]? = some p → w.cell? ⟨b, off + i * 2, none⟩ = some (.int .i64 p.1) ∧ ∃ sa sc, w.cell? ⟨b, off + i * 2 + 1, none⟩ = some (.slice sa p.2.length sc) ∧ Slots w sa p.2 := by
        rcases HA.out with h | h
        · rw [Hn.out, h] at hlt; simp at hlt
        · exact h
      obtain ⟨p, hp⟩ : ∃ p, p = ps[k]'(by rw [← Hn.out]; exact hlt) := ⟨_, rfl⟩
      have Hp : Hid (ps[k]? = some p) := Lib.hid (by rw [hp]; exact List.getElem?_eq_getElem _)
      obtain ⟨c0, pa, pc, c1, hS⟩ := hc k p Hp.out
      have hmem := List.mem_of_getElem? Hp.out
      have hal : (argsL p.2 x).length ≤ 8 := by unfold argsL; rw [List.length_map]; exact H8.out p hmem
      obtain ⟨A, hA⟩ : ∃ A, A = argsL p.2 x := ⟨_, rfl⟩
      have HAe := Lib.hid hA
      have hbw : Below w.heap.size w wr := below_chain Hb0.out hbel
      have c0 := below_cell hbw (Nat.le_refl _) c0
      have c1 := below_cell hbw (Nat.le_refl _) c1
      obtain ⟨W1, hW1⟩ : ∃ V, V = wr.alloc (.cells #[.int .i64 p.1, .slice pa p.2.length pc] 27) := ⟨_, rfl⟩
      have hbw1 : Below wr.heap.size wr W1 := by rw [hW1]; exact (Below.refl _ _).alloc (Nat.le_refl _) _
      have cR1 := cR p pa pc hmem W1 (below_chain hbw hbw1) (hS.below (below_chain hbw hbw1) (Nat.le_refl _))
      rw [← hA] at cR1 hal
      have q0 : W1.cell? ⟨wr.heap.size, 0, none⟩ = some (.int .i64 p.1) := by rw [hW1]; simp
      have q1 : W1.cell? ⟨wr.heap.size, 1, none⟩ = some (.slice pa p.2.length pc) := by rw [hW1]; simp
      have y0 := on_cell hbw1 y0
      have y1 := on_cell hbw1 y1
      have HW1 := Lib.hid hW1
      have Hbw1 := Lib.hid hbw1
      have Hbw := Lib.hid hbw
      have HKp : Hid ((p.1, A) ≠ (q, xs) → ∀ r ∈ ps.take (k + 1), (r.1, argsL r.2 x) ≠ (q, xs)) := Lib.hid (fun hne => by
        rw [take_snoc' Hp.out]
        intro y hy
        rcases List.mem_append.1 hy with hy | hy
        · exact HK.out y hy
        · rw [List.mem_singleton] at hy; rw [hy, ← HAe.out]; exact hne)
      have HRt : Hid ((p.1, A) = (q, xs) → R = true) := Lib.hid (fun he => by
        rw [HR.out]
        simp only [decide_eq_true_eq]
        exact ⟨p, List.mem_of_getElem? Hp.out, by rw [← HAe.out]; exact he⟩)
      obtain ⟨pp, sl⟩ := p
      simp only at c0 c1 cR1 q0 q1 HKp HRt HW1
      clear hp hc hS hmem hA hW1 hbw1 hbw HK
      go_upto_region 4 with fail
      rw [← HW1.out]
      clear c0 c1
      go_upto_region 5 with (first | (go_at_call 20; (with_reducible refine cR1.out.mono ?_); rintro e V5 ⟨a5, c5, rfl, hI5, hV5⟩))
      obtain ⟨W6, hW6⟩ : ∃ V, V = V5.alloc (.cells #[.int .i64 pp, .slice a5 A.length c5] 50) := ⟨_, rfl⟩
      obtain ⟨b9, hb9⟩ : ∃ b, b = V5.heap.size := ⟨_, rfl⟩
      have hb6 : Below V5.heap.size V5 W6 := by rw [hW6]; exact (Below.refl _ _).alloc (Nat.le_refl _) _
      have z0 : W6.cell? ⟨b9, 0, none⟩ = some (.int .i64 pp) := by rw [hW6, hb9]; simp
      have z1 : W6.cell? ⟨b9, 1, none⟩ = some (.slice a5 A.length c5) := by rw [hW6, hb9]; simp
      have y0 := on_cell hb6 (on_cell hV5 y0)
      have y1 := on_cell hb6 (on_cell hV5 y1)
      have hbr : Below W0.heap.size W0 W6 := below_chain (below_chain (below_chain hbel Hbw1.out) hV5) hb6
      have cI1 := cI a5 c5 A W6 (below_chain Hb0.out hbr) (hI5.ints.below hb6) (by omega)
      obtain ⟨dd, hdd⟩ : ∃ d, d = decide (A = xs) := ⟨_, rfl⟩
      rw [← hdd] at cI1
      have Hdd := Lib.hid hdd
      have Hbr := Lib.hid hbr
      rw [← hW6, ← hb9]
      clear hW6 hb9 hb6 hV5 hI5 hbr hdd cR1 q0 q1
      by_cases he : pp = q
      · subst he
        have he2 : (pp == pp) = true := by simp
        cases dd with
        | true =>
          have hRt : R = true := HRt.out (by have : A = xs := (by simpa using Hdd.out.symm); rw [this])
          subst hRt
          go_wp2_with (first | (go_at_call 31; (with_reducible refine cI1.out.mono ?_); rintro e V7 ⟨rfl, nd, hV7⟩))
          go_ret
          exact ⟨rfl, by rw [← hV7]; exact below_drewN (below_chain Hb0.out Hbr.out) nd⟩
        | false =>
          have hK2 := HKp.out (by
            have : A ≠ xs := by simpa using Hdd.out.symm
            exact fun e => this (congrArg Prod.snd e))
          have HK2 := Lib.hid hK2
          clear hK2
          go_upto_if 30 with (first | (go_at_call 31; (with_reducible refine cI1.out.mono ?_); rintro e V7 ⟨rfl, nd, hV7⟩; have hb7 : Below W0.heap.size W0 V7 := (by rw [← hV7]; exact below_drewN Hbr.out nd)))
          clear hV7 cI1
          go_wp2_with fail
          go_roundw
          case rel => exact ⟨k + 1, by go_num, by omega, hb7, HK2⟩
          case measure => simp [intOf]; omega
      · have he2 : (pp == q) = false := by simp [he]
        have hK2 := HKp.out (fun e => he (congrArg Prod.fst e))
        have HK2 := Lib.hid hK2
        have hb7 := Hbr.out
        clear hK2 he cI1
        go_wp2_with fail
        go_roundw
        case rel => exact ⟨k + 1, by go_num, by omega, hb7, HK2⟩
        case measure => simp [intOf]; omega
    · have hRf : R = false := by
        rw [HR.out]
        have := HK.out
        rw [List.take_of_length_le (by rw [← Hn.out]; omega)] at this
        simp only [decide_eq_false_iff_not]
        exact fun ⟨p, hp, e⟩ => this p hp e
      subst hRf
      go_wp2_with fail
      go_ret
      exact ⟨rfl, below_chain Hb0.out hbel⟩
theorem OutV.keep {ob : Nat} {v : Value} {acc : List (List Int)} {w w' : World} (O : OutV ob v acc w) (h : ∀ j, ob ≤ j → j < w.heap.size → w'.heap[j]? = w.heap[j]?) : OutV ob v acc w' := by
  obtain ⟨hs, h1, h2, h3⟩ := O.row
  refine ⟨(h ob (Nat.le_refl _) (Array.getElem?_eq_some_iff.1 O.box).1).trans O.box, hs, owns_block h1 (fun g hg => h g (by have := (h1.lt g hg).1; omega) (h1.lt g hg).2), fun i xs hx => ?_, h3⟩
  obtain ⟨u, k1, k2, k3⟩ := h2 i xs hx
  exact ⟨u, k1, owns_block k2 (fun g hg => h g (by have := (k2.lt g hg).1; omega) (k2.lt g hg).2), k3⟩
theorem source_below {w V : World} {ao : Option Addr} {m c : Nat} {news : List Value} (h : Source w ao m c news) (hb : Below w.heap.size w V) : Source V ao m c news := by
  rcases h with h | ⟨ad, ha, hc⟩
  · exact .inl h
  · exact .inr ⟨ad, ha, fun j u hu => (hb.cell (World.block_lt_of_cell? _ _ (hc j u hu))).trans (hc j u hu)⟩
/-- a row just laid into a block of its own -/
theorem own_new (w : World) (c0 c1 : Value) : (w.alloc (.cells #[c0, c1] 50)).ownsRow w.heap.size 50 2 (.slice (some ⟨w.heap.size, 0, none⟩) 1 1) 1 [c0, c1] :=
  ⟨rfl, .inr ⟨w.heap.size, 1, #[c0, c1], rfl, Nat.le_refl _, World.alloc_heap_new w _, Nat.le_refl _, by unfold maxLen; omega, rfl, rfl⟩⟩
set_option linter.unusedSimpArgs false in
set_option maxHeartbeats 16000000 in
set_option maxRecDepth 100000 in
theorem matchMore_any (T0 : WorldV) (q : Int) (qa : Option Addr) (qx : List Int) (qc : Nat) (w : World) (hin : WorldIn w T0) (hq : IntsZ (fun _ => True) w qa qc qx) (hlen : T0.rows.length * 32 ≤ 140737488351232) :
    Calls Try.prog 5 #[.agg T0.cells, .agg #[.int .i64 q, .slice qa qx.length qc]] w fun e w' => e = .returned (.bool true) ∧ Below w.heap.size w w' := by
  obtain ⟨W0, hW0⟩ : ∃ V, V = (w.alloc (.cells T0.cells 34)).alloc (.cells #[.int .i64 q, .slice qa qx.length qc] 50) := ⟨_, rfl⟩
  obtain ⟨b2, hb2⟩ : ∃ b, b = w.heap.size := ⟨_, rfl⟩
  obtain ⟨b3, hb3⟩ : ∃ b, b = w.heap.size + 1 := ⟨_, rfl⟩
  have hb0 : Below w.heap.size w W0 := by rw [hW0]; exact ((Below.refl _ _).alloc (Nat.le_refl _) _).alloc (by simp) _
  have hs0 : W0.heap.size = w.heap.size + 2 := by rw [hW0]; simp
  have hq2 : W0.heap[b2]? = some (.cells T0.cells 34 (0, 0)) := by rw [hW0, hb2]; exact (Below.heap_alloc _ _ _ (by simp)).trans (World.alloc_heap_new w _)
  have hq3 : W0.heap[b3]? = some (.cells #[.int .i64 q, .slice qa qx.length qc] 50 (0, 0)) := by
    rw [hW0, hb3]
    have := World.alloc_heap_new (w.alloc (.cells T0.cells 34)) (.cells #[.int .i64 q, .slice qa qx.length qc] 50)
    rwa [World.size_alloc] at this
  obtain ⟨⟨x0, x1, x2⟩, ⟨x3, x4, x5, x6, x7, x8, x9⟩, x10⟩ := world_cells hq2
  have HW0 : Hid (W0 = (w.alloc (.cells #[.slice T0.aa T0.ar.length T0.ac, .slice T0.ra T0.rows.length T0.rc, .slice T0.ca T0.cs.length T0.cc, .int .i64 T0.R.hp, .slice T0.R.ha T0.R.hn T0.R.hc, .slice T0.R.pa T0.R.pos.length T0.R.pc, .slice T0.R.ta T0.R.tests.length T0.R.tc, .slice T0.R.na T0.R.neg.length T0.R.nc, .slice T0.R.va T0.R.nv T0.R.vc, .int .i64 T0.R.cl, .int .i64 T0.K] 34)).alloc (.cells #[.int .i64 q, .slice qa qx.length qc] 50)) := Lib.hid hW0
  have Hb2 := Lib.hid hb2
  have Hb3 := Lib.hid hb3
  have Hs0 := Lib.hid hs0
  have Hb0 := Lib.hid hb0
  have Hq2 := Lib.hid hq2
  have Hin := Lib.hid hin
  have Hq := Lib.hid hq
  have z0 : W0.cell? ⟨b3, 0, none⟩ = some (.int .i64 q) := by simp [World.cell?, hq3]
  have z1 : W0.cell? ⟨b3, 1, none⟩ = some (.slice qa qx.length qc) := by simp [World.cell?, hq3]
  simp only [WorldV.cells]
  obtain ⟨la, hla1, hla2, hla3⟩ := rows_read hin.rows
  have hlal : la.length = T0.rows.length := by rw [← hla1, List.length_map]
  have Hla := Lib.hid (And.intro hla1 hla3)
  obtain ⟨RN, hRN⟩ : ∃ n, n = T0.rows.length := ⟨_, rfl⟩
  rw [← hRN] at x1 hlen hla2 hlal HW0 ⊢
  have HRN := Lib.hid hRN
  have Hlal := Lib.hid hlal
  have Hsrc := Lib.hid hla2
  have f1 : W0.frozen? ⟨b2, 1, none⟩ = false := by simp [World.frozen?, hq2]
  clear hW0 hb2 hb3 hs0 hb0 hq2 hq3 hin hq x0 x2 x3 x4 x5 x6 x7 x8 x9 x10 hla1 hla2 hla3 hlal hRN
  go_enter Try.func5, Try.ntmps5
  go_upto_region 1 with fail
  rw [← HW0.out, ← Hb3.out, ← Hb2.out]
  have x1a : (W0.alloc (.cells #[.int .i64 q, .slice qa qx.length qc] 50)).cell? ⟨b2, 1, none⟩ = some (.slice T0.ra RN T0.rc) := on_cell ((Below.refl _ _).alloc (Nat.le_refl _) _) x1
  have hown1 := own_new W0 (.int .i64 q) (.slice qa qx.length qc)
  have hsrc1 : Source (W0.alloc (.cells #[.int .i64 q, .slice qa qx.length qc] 50)) T0.ra RN T0.rc (rowCells la) := source_below Hsrc.out (below_chain Hb0.out ((Below.refl _ _).alloc (Nat.le_refl _) _))
  have hlen1 : (rowCells la).length = RN * 2 := by rw [rowCells_length, Hlal.out]
  have hmx1 : 1 + RN ≤ maxLen := by unfold maxLen; omega
  have hby1 : (1 + RN) * 32 ≤ 140737488355328 := by omega
  have hbs1 : W0.heap.size ≤ (W0.alloc (.cells #[.int .i64 q, .slice qa qx.length qc] 50)).heap.size := by simp
  have HGr : Hid (∀ V : World, (W0.alloc (.cells #[.int .i64 q, .slice qa qx.length qc] 50)).grownBy V (some W0.heap.size) → V.heap[b2]? = some (.cells T0.cells 34 (0, 0)) ∧ V.frozen? ⟨b2, 1, none⟩ = false ∧ V.cell? ⟨b2, 1, none⟩ = some (.slice T0.ra RN T0.rc)) := Lib.hid (fun V hg => by
    have h2lt := (Array.getElem?_eq_some_iff.1 Hq2.out).1
    have h : V.heap[b2]? = some (.cells T0.cells 34 (0, 0)) := by
      rw [hg.block b2 (by simp; omega) (by intro e; injection e with e; omega), Below.heap_alloc _ _ _ (by omega)]
      exact Hq2.out
    exact ⟨h, by simp [World.frozen?, h], by rw [HRN.out]; simp [World.cell?, h, WorldV.cells]⟩)
  go_upto_region 2 with (at_builtin; refine wpList_append_any elemRow _ rfl _ _ rfl W0.heap.size (.slice (some ⟨W0.heap.size, 0, none⟩) 1 1) 1 [.int .i64 q, .slice qa qx.length qc] rfl hown1 T0.ra RN T0.rc (rowCells la) rfl hsrc1 hlen1 (rowCells_one la) hmx1 hby1 hbs1 ?_; intro v' w2 hown2 hgrow2 hblk2; obtain ⟨va3, vc3, rfl⟩ := owns_shape' hown2; have Hown := Lib.hid hown2; have Hgrow := Lib.hid hgrow2; obtain ⟨hb2w, f1, x1⟩ := HGr.out _ hgrow2; have Hb2w := Lib.hid hb2w; clear hb2w hown2 hgrow2 hblk2)
  obtain ⟨w3, hw3⟩ : ∃ V, V = w2.setCell ⟨b2, 1, none⟩ (.slice va3 (1 + RN) vc3) := ⟨_, rfl⟩
  rw [← hw3]
  obtain ⟨T1, hT1⟩ : ∃ T1 : WorldV, T1 = ⟨T0.aa, T0.ac, T0.ar, va3, vc3, (q, qx) :: T0.rows, T0.ca, T0.cc, T0.cs, T0.R, T0.K⟩ := ⟨_, rfl⟩
  have hz3 := Hgrow.out.size
  have hbw3 : Below w.heap.size w w3 := by
    have hz := Hs0.out
    have hb2 := Hb2.out
    have b1 : Below w.heap.size w (W0.alloc (.cells #[.int .i64 q, .slice qa qx.length qc] 50)) := below_chain Hb0.out ((Below.refl _ _).alloc (Nat.le_refl _) _)
    have b2' : Below w.heap.size w w2 := b1.grown Hgrow.out b1.size (fun k e => by have e : some W0.heap.size = some k := e; injection e with e; omega)
    rw [hw3]
    exact b2'.setCell (p := ⟨b2, 1, none⟩) (by simp only; omega) _
  have hq2' : w3.heap[b2]? = some (.cells T1.cells 34 (0, 0)) := by
    rw [hw3, hT1]
    have := heap_setCell (j := 1) Hb2w.out (.slice va3 (1 + RN) vc3)
    rw [this]
    have e : 1 + RN = ((q, qx) :: T0.rows).length := by rw [List.length_cons, ← HRN.out]; omega
    rw [e]
    rfl
  have hin1 : WorldIn w3 T1 := by
    have h0 := Hin.out.below hbw3
    rw [hT1]
    refine ⟨h0.ars, ?_, h0.con, h0.conOk, h0.rule, h0.many⟩
    have hown : w3.ownsRow W0.heap.size 50 2 (.slice va3 (1 + RN) vc3) (1 + RN) ([.int .i64 q, .slice qa qx.length qc] ++ rowCells la) := by
      rw [hw3]
      refine owns_block Hown.out (fun g hg => Below.heap_setCell _ _ _ _ (fun e => ?_))
      have h1 := (Hown.out.lt g hg).1
      have hz := Hs0.out
      have hb2 := Hb2.out
      have e : g = b2 := e
      omega
    have e1 : ((((q, qx), qa, qc) : RowA) :: la).length = 1 + RN := by rw [List.length_cons, Hlal.out]; omega
    have h2 := rows_own (la := (((q, qx), qa, qc) : RowA) :: la) (Z := fun _ => True) (n := 1 + RN) (by rw [e1]; exact hown) (fun _ _ => trivial) (fun r hr => by
      rcases List.mem_cons.1 hr with rfl | hr
      · exact Hq.out.below hbw3 (Nat.le_refl _)
      · exact (Hla.out.2 r hr).below hbw3 (Nat.le_refl _))
    rw [List.map_cons, Hla.out.1] at h2
    exact h2
  have hrl : T1.rows.length = RN + 1 := by rw [hT1, HRN.out]; rfl
  have Hrl := Lib.hid hrl
  obtain ⟨⟨x0, x1, x2⟩, ⟨x3, x4, x5, x6, x7, x8, x9⟩, x10⟩ := world_cells hq2'
  have cT := Lib.hid hin1.tamed
  simp only [WorldV.cells] at cT
  have Hw3 := Lib.hid hbw3
  clear hw3 hT1 hz3 hbw3 hq2' hin1 hrl HGr Hgrow Hown Hb2w f1 x1a hown1 hsrc1 hlen1 hmx1 hby1 hbs1 z0 z1 Hin Hq Hla Hsrc Hlal Hq2
  go_upto_region 3 with (first | (go_at_call 11; (with_reducible refine cT.out.mono ?_); rintro e w4 ⟨T, rfl, hT, hb4, hTl, -⟩; simp only [WorldV.cells]; have HT1 := Lib.hid hT; have Hb4 := Lib.hid hb4; have HTl := Lib.hid hTl; clear hT hb4 hTl))
  obtain ⟨W5, hW5⟩ : ∃ V, V = w4.alloc (.cells #[.slice T.aa T.ar.length T.ac, .slice T.ra T.rows.length T.rc, .slice T.ca T.cs.length T.cc, .int .i64 T.R.hp, .slice T.R.ha T.R.hn T.R.hc, .slice T.R.pa T.R.pos.length T.R.pc, .slice T.R.ta T.R.tests.length T.R.tc, .slice T.R.na T.R.neg.length T.R.nc, .slice T.R.va T.R.nv T.R.vc, .int .i64 T.R.cl, .int .i64 T.K] 34) := ⟨_, rfl⟩
  obtain ⟨b5, hb5⟩ : ∃ b, b = w4.heap.size := ⟨_, rfl⟩
  rw [← hW5, ← hb5]
  have hbw5 : Below w4.heap.size w4 W5 := by rw [hW5]; exact (Below.refl _ _).alloc (Nat.le_refl _) _
  have hq5 : W5.heap[b5]? = some (.cells T.cells 34 (0, 0)) := by rw [hW5, hb5]; exact World.alloc_heap_new w4 _
  have HT4 := HT1
  have Hb45 := Lib.hid hbw5
  have H5lo : Hid (w4.heap.size ≤ b5) := Lib.hid (by omega)
  have Hw4s : Hid (w.heap.size ≤ w4.heap.size) := Lib.hid (Nat.le_trans Hw3.out.size Hb4.out.size)
  have HB5 : Hid (Below w.heap.size w W5) := Lib.hid (below_chain (below_chain Hw3.out Hb4.out) hbw5)
  have Hq5 := Lib.hid hq5
  clear hW5 hb5 hbw5 HT1 Hb4 x0 x1 x2 x3 x4 x5 x6 x7 x8 x9 x10 cT
  obtain ⟨⟨y0, y1, y2⟩, ⟨y3, y4, y5, y6, y7, y8, y9⟩, y10⟩ := world_cells hq5
  have hRTl : T.rows.length = min (RN + 1) 24 := by rw [HTl.out, Hrl.out]
  have hRT1 : 1 ≤ T.rows.length := by omega
  obtain ⟨gr, hgr, hcap, hcm⟩ : ∃ g, T.ra = some ⟨g, 0, none⟩ ∧ T.rows.length ≤ T.rc ∧ T.rc ≤ maxLen := by
    obtain ⟨rcells, hro, -⟩ := id HT4.out.rows
    rcases owns_form hro with ⟨-, h0, -⟩ | ⟨g, cap, h5, -, -, hnc, hcm, -, -, -⟩
    · omega
    · injection h5 with e1 e2 e3
      exact ⟨g, e1, by rw [e3]; exact hnc, by rw [e3]; exact hcm⟩
  have hrz := HT4.out.rows.rows
  rw [hgr] at hrz y1
  obtain ⟨r0, tl, htl⟩ : ∃ r l, T.rows = r :: l := by
    rcases hh : T.rows with _ | ⟨r, l⟩
    · rw [hh] at hRT1; simp at hRT1
    · exact ⟨r, l, rfl⟩
  have hrt := rows_tail hrz (by rw [htl]; simp)
  obtain ⟨a0, c0, u0, u1, hI0⟩ : ∃ a c, w4.cell? ⟨gr, 0, none⟩ = some (.int .i64 r0.1) ∧ w4.cell? ⟨gr, 1, none⟩ = some (.slice a r0.2.length c) ∧ IntsZ (fun j => w3.heap.size ≤ j) w4 a c r0.2 := by
    rcases hrz.1 with h | ⟨b, off, hb, -, hc⟩
    · rw [htl] at h; simp at h
    · cases hb
      obtain ⟨d0, ai, ci, d1, dI⟩ := hc 0 (by omega)
      simp only [htl] at d0 d1 dI
      exact ⟨ai, ci, by simpa using d0, by simpa using d1, dI⟩
  obtain ⟨m, hm⟩ : ∃ m, m = tl.length := ⟨_, rfl⟩
  have hRTm : T.rows.length = m + 1 := by rw [htl, hm]; rfl
  rw [hRTm] at y1 hcap
  rw [htl, List.tail_cons] at hrt
  have Htl := Lib.hid (And.intro htl hm)
  have Hrt := Lib.hid hrt
  have HI0 := Lib.hid hI0
  have hm23 : m ≤ 23 := by omega
  obtain ⟨rcp, hrcp⟩ : ∃ n, T.rc = n + 1 := ⟨T.rc - 1, by omega⟩
  rw [hrcp] at y1
  have Hrcp := Lib.hid hrcp
  have Hgr := Lib.hid hgr
  have Hmr : Hid (m ≤ rcp) := Lib.hid (by omega)
  obtain ⟨p0, xs0⟩ := r0
  simp only at u0 u1
  have u0 := on_cell Hb45.out u0
  have u1 := on_cell Hb45.out u1
  clear hRTl hRT1 hcm hrz htl hrt hI0 hm hRTm hgr hrcp hcap
  go_upto_region 4 with fail
  obtain ⟨W6, hW6⟩ : ∃ V, V = W5.alloc (.cells #[.int .i64 p0, .slice a0 xs0.length c0] 50) := ⟨_, rfl⟩
  obtain ⟨b6, hb6⟩ : ∃ b, b = W5.heap.size := ⟨_, rfl⟩
  rw [← hW6, ← hb6]
  have hbw6 : Below W5.heap.size W5 W6 := by rw [hW6]; exact (Below.refl _ _).alloc (Nat.le_refl _) _
  have hq5' : W6.heap[b5]? = some (.cells T.cells 34 (0, 0)) := (hbw6.block b5 (Array.getElem?_eq_some_iff.1 Hq5.out).1).trans Hq5.out
  have hq6 : W6.heap[b6]? = some (.cells #[.int .i64 p0, .slice a0 xs0.length c0] 50 (0, 0)) := by rw [hW6, hb6]; exact World.alloc_heap_new W5 _
  have y1 := on_cell hbw6 y1
  have f1 : W6.frozen? ⟨b5, 1, none⟩ = false := by simp [World.frozen?, hq5']
  have Hq5' := Lib.hid hq5'
  have Hq6 := Lib.hid hq6
  have Hbw6 := Lib.hid hbw6
  have H56 : Hid (b5 < W5.heap.size ∧ b6 = W5.heap.size ∧ b6 < W6.heap.size) := Lib.hid ⟨(Array.getElem?_eq_some_iff.1 Hq5.out).1, hb6, (Array.getElem?_eq_some_iff.1 hq6).1⟩
  clear hW6 hb6 hbw6 hq5' hq6 hq5
  go_upto_region 5 with fail
  obtain ⟨nad, hnad⟩ : ∃ a, a = (if rcp = 0 then some (⟨gr, 0, none⟩ : Addr) else some (⟨gr, 2, none⟩ : Addr)) := ⟨_, rfl⟩
  rw [← hnad]
  obtain ⟨W7, hW7⟩ : ∃ V, V = W6.setCell ⟨b5, 1, none⟩ (.slice nad m rcp) := ⟨_, rfl⟩
  rw [← hW7]
  obtain ⟨T', hT'⟩ : ∃ T' : WorldV, T' = ⟨T.aa, T.ac, T.ar, nad, rcp, tl, T.ca, T.cc, T.cs, T.R, T.K⟩ := ⟨_, rfl⟩
  have hq7 : W7.heap[b5]? = some (.cells T'.cells 34 (0, 0)) := by
    rw [hW7, hT', heap_setCell (j := 1) Hq5'.out (.slice nad m rcp), Htl.out.2]
    rfl
  have hlo7 : w4.heap.size ≤ b5 := H5lo.out
  have hbw7 : Below w4.heap.size W6 W7 := by rw [hW7]; exact (Below.refl _ _).setCell (p := ⟨b5, 1, none⟩) hlo7 _
  have hbw57 : Below w4.heap.size W5 W7 := (Hbw6.out.mono (by have := H56.out; omega)).trans hbw7
  have hb47 : Below w4.heap.size w4 W7 := Hb45.out.trans hbw57
  have hT7 : TameW w3.heap.size W7 T := HT4.out.below hb47
  have hI7 : IntsZ (fun j => j < w4.heap.size) W7 a0 c0 xs0 := HI0.out.keep (fun j hj _ => hb47.block j hj) (fun j hj _ => hj)
  have hR7 : RowsZ (fun j => j < w4.heap.size) W7 nad rcp tl := by
    by_cases h0 : rcp = 0
    · have hm0 : tl = [] := List.eq_nil_of_length_eq_zero (by rw [← Htl.out.2]; have := Hmr.out; omega)
      rw [hm0, hnad, if_pos h0]
      exact ⟨.inl rfl, fun e => by cases e⟩
    · rw [hnad, if_neg h0]
      have h := Hrt.out
      rw [Hrcp.out, Nat.add_sub_cancel] at h
      exact h.keep (fun j hj _ => hb47.block j hj) (fun j hj _ => hj)
  have hq67 : W7.heap[b6]? = some (.cells #[.int .i64 p0, .slice a0 xs0.length c0] 50 (0, 0)) := by
    rw [hW7, Below.heap_setCell _ _ _ _ (fun e => by have e : b6 = b5 := e; have := H56.out; omega)]
    exact Hq6.out
  have hmem0 : (p0, xs0) ∈ T.rows := by rw [Htl.out.1]; exact List.mem_cons_self ..
  have hmemt : ∀ r ∈ tl, r ∈ T.rows := fun r hr => by rw [Htl.out.1]; exact List.mem_cons_of_mem _ hr
  have hjl : (joinedL [] tl).length ≤ 24 ∧ ∀ r ∈ joinedL [] tl, IdsIn T.cs.length r.2 := by
    have h1 := joinedL_length [] tl
    have h2 := hT7.rowsOk.1
    have h3 : T.rows.length = tl.length + 1 := by rw [Htl.out.1]; rfl
    refine ⟨by simp only [List.length_nil] at h1; omega, fun r hr => hT7.ids r (hmemt r ?_)⟩
    rcases (joinedL_mem _ _ _).1 hr with h | h
    · cases h
    · exact h
  have cF : Hid (Calls Try.prog 12 #[.agg T'.cells] W7 (FullEndR T.ar tl W7)) := Lib.hid (by
    rw [hT']
    exact full_rows ⟨T.aa, T.ac, T.ar, nad, rcp, tl, T.ca, T.cc, T.cs, T.R, T.K⟩ W7 (intsZ_of_row hT7.ars) hT7.arOk.2 hR7 (fun r hr => hT7.rowsOk.2.1 r (hmemt r hr)) (by have h2 := hT7.rowsOk.1; have h3 : T.rows.length = tl.length + 1 := (by rw [Htl.out.1]; rfl); simp only; omega))
  obtain ⟨⟨v0, v1, v2⟩, ⟨v3, v4, v5, v6, v7, v8, v9⟩, v10⟩ := world_cells hq7
  have hTe : T'.aa = T.aa ∧ T'.ac = T.ac ∧ T'.ar = T.ar ∧ T'.ra = nad ∧ T'.rc = rcp ∧ T'.rows = tl ∧ T'.ca = T.ca ∧ T'.cc = T.cc ∧ T'.cs = T.cs ∧ T'.R = T.R ∧ T'.K = T.K := by rw [hT']; exact ⟨rfl, rfl, rfl, rfl, rfl, rfl, rfl, rfl, rfl, rfl, rfl⟩
  obtain ⟨t0, t1, t2, t3, t4, t5, t6, t7, t8, t9, t10⟩ := hTe
  simp only [WorldV.cells] at cF
  rw [t0, t1, t2] at v0 cF
  rw [t3, t4, t5, ← Htl.out.2] at v1 cF
  rw [t6, t7, t8] at v2 cF
  rw [t9] at v3 v4 v5 v6 v7 v8 v9 cF
  rw [t10] at v10 cF
  have e0 : W7.cell? ⟨b6, 0, none⟩ = some (.int .i64 p0) := by simp [World.cell?, hq67]
  have e1 : W7.cell? ⟨b6, 1, none⟩ = some (.slice a0 xs0.length c0) := by simp [World.cell?, hq67]
  have HC7 := Lib.hid (And.intro v2 (And.intro v3 (And.intro v4 (And.intro v5 (And.intro v6 (And.intro v7 (And.intro v8 (And.intro v9 (And.intro e0 e1)))))))))
  have HT7 := Lib.hid hT7
  have HI7 := Lib.hid hI7
  have Hjl := Lib.hid hjl
  have Hmem0 := Lib.hid hmem0
  have Hmemt := Lib.hid hmemt
  have HB7 : Hid (Below w.heap.size w W7 ∧ w4.heap.size ≤ W7.heap.size ∧ b5 < W7.heap.size ∧ b6 < W7.heap.size) := Lib.hid (by
    have hz := HB5.out.size
    have h5 := H56.out
    have hs := Hbw6.out.size
    have hs7 := hbw7.size
    have hz4 := Hw4s.out
    refine ⟨HB5.out.trans (hbw57.mono hz4), ?_, by omega, by omega⟩
    have := H5lo.out
    omega)
  clear hnad hW7 hT' hq7 hlo7 hbw7 hbw57 hb47 hT7 hI7 hR7 hq67 hmem0 hmemt hjl t0 t1 t2 t3 t4 t5 t6 t7 t8 t9 t10 y0 y1 y2 y3 y4 y5 y6 y7 y8 y9 y10 u0 u1 f1 HT4 Hb45 HB5 Hq5 Hq5' Hq6 Hbw6 H56 Hrt HI0 Hrcp Hmr Hgr Hrl HTl HRN hlen
  go_upto_region 6 with (first | (go_at_call 12; (with_reducible refine cF.out.mono ?_); rintro e V1 ⟨sb, n1, rfl, h1, hv1⟩; have HS1 := Lib.hid h1; have HV1 := Lib.hid hv1; clear h1 hv1))
  have v2 := on_cell HV1.out v2
  have v3 := on_cell HV1.out v3
  have v4 := on_cell HV1.out v4
  have v5 := on_cell HV1.out v5
  have v6 := on_cell HV1.out v6
  have v7 := on_cell HV1.out v7
  have v8 := on_cell HV1.out v8
  have v9 := on_cell HV1.out v9
  have e0 := on_cell HV1.out e0
  have e1 := on_cell HV1.out e1
  clear v0 v1 v10 cF
  obtain ⟨R1, hR1⟩ : ∃ R1, R1 = joinedL [] tl := ⟨_, rfl⟩
  rw [← hR1] at HS1 Hjl
  clear hR1
  obtain ⟨R2, hR2⟩ : ∃ R2, R2 = joinedL R1 [(p0, xs0)] := ⟨_, rfl⟩
  obtain ⟨PO, hPO⟩ : ∃ P, P = pre R1 T.cs T.R (condsL T.R).length := ⟨_, rfl⟩
  obtain ⟨PN, hPN⟩ : ∃ P, P = pre R2 T.cs T.R (condsL T.R).length := ⟨_, rfl⟩
  have hid0 : IdsIn T.cs.length xs0 := HT7.out.ids _ Hmem0.out
  have HM : Hid ((∀ r ∈ R2, IdsIn T.cs.length r.2) ∧ ((p0, xs0) ∈ R1 → PO = PN) ∧ ((∀ p ∈ T.R.neg, p.1 ≠ p0) → ∀ x ∈ PO, x ∈ PN) ∧ ((∀ p ∈ T.R.pos, p.1 ≠ p0) → ∀ x ∈ PN, x ∈ PO) ∧ (∀ x ∈ PN, x ∉ PO → ∃ p ∈ T.R.pos, (p.1, argsL p.2 x) = (p0, xs0)) ∧ (∀ x ∈ PO, x ∉ PN → ∃ p ∈ T.R.neg, (p.1, argsL p.2 x) = (p0, xs0))) := Lib.hid (by
    rw [hPO, hPN, hR2]
    exact more_plain Hjl.out.2 hid0 HT7.out.ruleOk _)
  have hR2l : R2.length ≤ 25 := by
    rw [hR2]
    have h1 := joinedL_length R1 [(p0, xs0)]
    have h2 := Hjl.out.1
    simp only [List.length_singleton] at h1
    omega
  have HXO : Hid ((PO.length ≤ 1000000 ∧ ∀ x ∈ PO, x.length ≤ 1000000) ∧ ∀ x ∈ PO, x.length = T.R.nv ∧ IdsIn T.cs.length x) := Lib.hid (by
    rw [hPO]
    refine ⟨pre_small Hjl.out.2 HT7.out.ruleOk (by have := Hjl.out.1; omega) HT7.out.lens.1 _, fun x hx => ?_⟩
    obtain ⟨h1, h2, -⟩ := (pre_iff Hjl.out.2 HT7.out.ruleOk _ x).1 hx
    exact ⟨by rw [h1, wid_all HT7.out.ruleOk (Nat.le_refl _)], h2⟩)
  have HXN : Hid ((PN.length ≤ 1000000 ∧ ∀ x ∈ PN, x.length ≤ 1000000) ∧ ∀ x ∈ PN, x.length = T.R.nv ∧ IdsIn T.cs.length x) := Lib.hid (by
    rw [hPN]
    refine ⟨pre_small HM.out.1 HT7.out.ruleOk (by omega) HT7.out.lens.1 _, fun x hx => ?_⟩
    obtain ⟨h1, h2, -⟩ := (pre_iff HM.out.1 HT7.out.ruleOk _ x).1 hx
    exact ⟨by rw [h1, wid_all HT7.out.ruleOk (Nat.le_refl _)], h2⟩)
  have hT1 := HT7.out.below HV1.out
  have cA1 : Hid (Calls Try.prog 14 #[.pointer (some ⟨sb, 0, none⟩), .slice T.ca T.cs.length T.cc, .agg #[.int .i64 T.R.hp, .slice T.R.ha T.R.hn T.R.hc, .slice T.R.pa T.R.pos.length T.R.pc, .slice T.R.ta T.R.tests.length T.R.tc, .slice T.R.na T.R.neg.length T.R.nc, .slice T.R.va T.R.nv T.R.vc, .int .i64 T.R.cl]] V1 (AllEnd PO V1)) := Lib.hid (by
    rw [hPO]
    exact all_L HS1.out (Below.refl _ _) T.R hT1.rule T.ca T.cc T.cs hT1.con hT1.ruleOk hT1.conOk.1 (by have := Hjl.out.1; omega) hT1.lens.1 Hjl.out.2 hT1.rng)
  have HPN := Lib.hid hPN
  have HR2 := Lib.hid hR2
  have HR2l := Lib.hid hR2l
  clear hPO hPN hR2 hR2l hT1 hid0
  go_upto_region 7 with (first | (go_at_call 14; (with_reducible refine cA1.out.mono ?_); rintro e V2 ⟨v, ob, rfl, O2, hb2, hob⟩; obtain ⟨a2, c2, rfl, -⟩ := O2.lists; have HO2 := Lib.hid O2; have HV2 := Lib.hid hb2; have Hob := Lib.hid hob; clear O2 hb2 hob))
  have v2 := on_cell HV2.out v2
  have v3 := on_cell HV2.out v3
  have v4 := on_cell HV2.out v4
  have v5 := on_cell HV2.out v5
  have v6 := on_cell HV2.out v6
  have v7 := on_cell HV2.out v7
  have v8 := on_cell HV2.out v8
  have v9 := on_cell HV2.out v9
  have e0 := on_cell HV2.out e0
  have e1 := on_cell HV2.out e1
  clear cA1
  obtain ⟨bw, hbw⟩ : ∃ b, b = decide ((p0, xs0) ∈ R1) := ⟨_, rfl⟩
  have hfit0 := HT7.out.rowsOk.2.1 _ Hmem0.out
  have hp0 : Rng p0 := by
    have h1 := hfit0.1
    have h2 := hfit0.2.1
    have h3 := HT7.out.arOk
    simp only at h1 h2
    unfold Rng
    omega
  have hx0 : ∀ v ∈ xs0, Rng v := fun v hv => by
    have := hfit0.2.2.2.2 v hv
    unfold Rng
    omega
  have hb72 : Below W7.heap.size W7 V2 := below_chain HV1.out HV2.out
  have hI2 : IntsZ (fun j => j < w4.heap.size) V2 a0 c0 xs0 := HI7.out.keep (fun j hj _ => hb72.block j hj) (fun _ _ h => h)
  have hx8 : xs0.length ≤ 8 := hfit0.2.2.2.1
  have cH := Lib.hid (has_L HS1.out HV2.out p0 a0 c0 xs0 hI2 hp0 hx0 (by omega) bw (by rw [hbw]; simp))
  have Hbw := Lib.hid hbw
  have HI2 := Lib.hid hI2
  have Hb72 := Lib.hid hb72
  have Hfit0 := Lib.hid hfit0
  clear hbw hfit0 hp0 hx0 hb72 hI2
  go_upto_region 8 with (first | (go_at_call 19; (with_reducible refine cH.out.mono ?_); rintro e V3 ⟨rfl, hv3⟩; have HV3 := Lib.hid hv3; clear hv3))
  have v2 := on_cell HV3.out v2
  have v3 := on_cell HV3.out v3
  have v4 := on_cell HV3.out v4
  have v5 := on_cell HV3.out v5
  have v6 := on_cell HV3.out v6
  have v7 := on_cell HV3.out v7
  have v8 := on_cell HV3.out v8
  have v9 := on_cell HV3.out v9
  have e0 := on_cell HV3.out e0
  have e1 := on_cell HV3.out e1
  clear cH
  have cAdd : Hid (Calls Try.prog 21 #[.pointer (some ⟨sb, 0, none⟩), .slice (some ⟨V3.heap.size, 0, none⟩) 1 1] (V3.alloc (.cells #[.int .i64 p0, .slice a0 xs0.length c0] 50)) fun e w' => ∃ k : Int, e = .returned (.tuple #[.int .i64 k, .int .i64 0]) ∧ Hid (∃ n2, StoreL (W7.heap.size + 1) n2 25 T.ar R2 sb w') ∧ Hid (Below W7.heap.size W7 w') ∧ Hid (OutV ob (.slice a2 PO.length c2) PO w')) := Lib.hid (by
    have hba : Below V3.heap.size V3 (V3.alloc (.cells #[.int .i64 p0, .slice a0 xs0.length c0] 50)) := (Below.refl _ _).alloc (Nat.le_refl _) _
    have hb23 := HV3.out
    have hb13 : Below V1.heap.size V1 (V3.alloc (.cells #[.int .i64 p0, .slice a0 xs0.length c0] 50)) := below_chain (below_chain HV2.out hb23) hba
    have hn1 : n1 ≤ V1.heap.size := by obtain ⟨σ, τ, q1, q2, q3, q4, q5, q6⟩ := HS1.out; exact q5.2
    have hz2 := HV2.out.size
    have hz3 := hb23.size
    have hz7 := HB7.out
    have hzV1 := HV1.out.size
    have h := add_L HS1.out hb13 (some ⟨V3.heap.size, 0, none⟩) 1 [(p0, xs0)] (rows_one (w := V3) (HI2.out.keep (w' := V3) (Z' := fun j => j < w4.heap.size) (fun j hj _ => hb23.block j hj) (fun _ _ h => h)) (fun j (hj : j < w4.heap.size) => .inl (by omega)) (.inr (by omega)) (Nat.zero_le _)) (fun r hr => by rw [List.mem_singleton] at hr; subst hr; exact Hfit0.out) (by simp)
    refine h.mono ?_
    rintro e w' ⟨k, rfl, k1, k2⟩
    refine ⟨k, rfl, Lib.hid ⟨w'.heap.size, ?_⟩, Lib.hid ?_, Lib.hid ?_⟩
    · rw [HR2.out]; exact k1
    · have hz4 := hba.size
      exact (Hb72.out.trans ((below_chain hb23 hba).mono (by omega))).trans (k2.below (by omega) (by omega))
    · refine HO2.out.keep (fun j hj hl => ?_)
      have hz4 := hba.size
      have hob := Hob.out
      rw [k2.keep j (by omega) (.inr (by omega)), hba.block j (by omega), hb23.block j hl])
  go_upto_region 9 with (first | (go_at_call 21; (with_reducible refine cAdd.out.mono ?_); rintro e V4 ⟨k, rfl, HS4, HB74, HO4⟩))
  clear cAdd v2 v3 v4 v5 v6 v7 v8 v9 e0 e1
  obtain ⟨v2, v3, v4, v5, v6, v7, v8, v9, e0, e1⟩ := HC7.out
  have v2 := on_cell HB74.out v2
  have v3 := on_cell HB74.out v3
  have v4 := on_cell HB74.out v4
  have v5 := on_cell HB74.out v5
  have v6 := on_cell HB74.out v6
  have v7 := on_cell HB74.out v7
  have v8 := on_cell HB74.out v8
  have v9 := on_cell HB74.out v9
  have e0 := on_cell HB74.out e0
  have e1 := on_cell HB74.out e1
  have hT4 := HT7.out.below HB74.out
  have cA2 : Hid (Calls Try.prog 14 #[.pointer (some ⟨sb, 0, none⟩), .slice T.ca T.cs.length T.cc, .agg #[.int .i64 T.R.hp, .slice T.R.ha T.R.hn T.R.hc, .slice T.R.pa T.R.pos.length T.R.pc, .slice T.R.ta T.R.tests.length T.R.tc, .slice T.R.na T.R.neg.length T.R.nc, .slice T.R.va T.R.nv T.R.vc, .int .i64 T.R.cl]] V4 (AllEnd PN V4)) := Lib.hid (by
    obtain ⟨n2, hS⟩ := HS4.out
    rw [HPN.out]
    exact all_L hS (Below.refl _ _) T.R hT4.rule T.ca T.cc T.cs hT4.con hT4.ruleOk hT4.conOk.1 (by have := HR2l.out; omega) hT4.lens.1 HM.out.1 hT4.rng)
  clear hT4
  go_upto_region 10 with (first | (go_at_call 14; (with_reducible refine cA2.out.mono ?_); rintro e V5 ⟨v, ob5, rfl, O5, hb5, -⟩; obtain ⟨a5, c5, rfl, hL5⟩ := O5.lists; have HLN := Lib.hid hL5; have HV5 := Lib.hid hb5; clear O5 hL5 hb5))
  have HLO : Hid (ListsV V5 a2 PO) := Lib.hid (by
    obtain ⟨a, c, h1, h2⟩ := HO4.out.lists
    cases h1
    exact h2.below HV5.out (Nat.le_refl _))
  have v5 := on_cell HV5.out v5
  have v7 := on_cell HV5.out v7
  have e0 := on_cell HV5.out e0
  have e1 := on_cell HV5.out e1
  have hb75 : Below W7.heap.size W7 V5 := below_chain HB74.out HV5.out
  have HT5 := Lib.hid (HT7.out.below hb75)
  have HI5 : Hid (Ints V5 a0 xs0) := Lib.hid (HI7.out.ints.below hb75)
  have HB5' : Hid (Below w.heap.size w V5) := Lib.hid (below_chain HB7.out.1 hb75)
  have HE5 := Lib.hid (And.intro v5 (And.intro v7 (And.intro e0 e1)))
  have Hx8 : Hid (xs0.length ≤ 8) := Lib.hid Hfit0.out.2.2.2.1
  clear hb75 v2 v3 v4 v6 v8 v9 cA2 HC7 HT7 HI7 HB7 HV1 HS1 HO2 HV2 Hob HI2 Hb72 Hfit0 HV3 HS4 HB74 HO4 HV5 HPN HR2 HR2l Hmem0 Hmemt Hjl Hw4s Htl
  obtain ⟨ON, hON⟩ : ∃ n, n = PO.length := ⟨_, rfl⟩
  obtain ⟨NN, hNN⟩ : ∃ n, n = PN.length := ⟨_, rfl⟩
  obtain ⟨PL, hPL⟩ : ∃ n, n = T.R.pos.length := ⟨_, rfl⟩
  obtain ⟨GL, hGL⟩ : ∃ n, n = T.R.neg.length := ⟨_, rfl⟩
  rw [← hON, ← hNN]
  rw [← hPL] at v5 HE5
  rw [← hGL] at v7 HE5
  have HON := Lib.hid hON
  have HNN := Lib.hid hNN
  have HPL := Lib.hid hPL
  have HGL := Lib.hid hGL
  have hONl : ON ≤ 1000000 := by rw [hON]; exact HXO.out.1.1
  have hNNl : NN ≤ 1000000 := by rw [hNN]; exact HXN.out.1.1
  clear hON hNN hPL hGL v5 v7 e0 e1
  go_cut [74] (fun t w' => t = .bool false ∧ Hid (Below V5.heap.size V5 w'))
  case first =>
    cases bw with
    | true =>
      have hsame := HM.out.2.1 (by have := Hbw.out; simpa using this)
      have cS : Hid (Calls Try.prog 16 #[.slice a2 ON c2, .slice a5 NN c5] V5 fun e w' => e = .returned (.bool true) ∧ Below V5.heap.size V5 w') := Lib.hid (by
        have h := sameLists_any a2 a5 c2 c5 PO PN V5 HLO.out HLN.out HXO.out.1.1 HXO.out.1.2
        rw [← HON.out, ← HNN.out] at h
        simpa [hsame] using h)
      clear hsame
      go_wp2_with (first | (go_at_call 16; (with_reducible refine cS.out.mono ?_); rintro e V6 ⟨rfl, hV6⟩))
      go_meet
      exact ⟨rfl, Lib.hid hV6⟩
    | false =>
      go_wp2_with fail
      go_meet
      exact ⟨rfl, Lib.hid (Below.refl _ _)⟩
  case rest =>
    obtain ⟨rfl, HBr⟩ := hcut
    obtain ⟨v5, v7, e0, e1⟩ := HE5.out
    have v7 := below_cell HBr.out (Nat.le_refl _) v7
    have e0 := below_cell HBr.out (Nat.le_refl _) e0
    go_upto_region 12 with fail
    obtain ⟨Wc, hWc⟩ : ∃ V, V = wc := ⟨_, rfl⟩
    subst hWc
    go_cut [87] (fun t w' => t = .bool false ∧ Hid (Below V5.heap.size V5 w'))
    case first =>
      obtain ⟨bn, hbn⟩ : ∃ b, b = decide (∃ p ∈ T.R.neg, p.1 = p0) := ⟨_, rfl⟩
      have cN := Lib.hid (names_any T.R.na T.R.nc T.R.neg p0 Wc (HT5.out.rule.neg.below HBr.out (Nat.le_refl _)) (by have := HT5.out.lens.2.2; omega) bn hbn)
      rw [← HGL.out] at cN
      cases bn with
      | true =>
        clear hbn
        go_wp2_with (first | (go_at_call 22; (with_reducible refine cN.out.mono ?_); rintro e V6 ⟨rfl, hV6⟩))
        go_meet
        exact ⟨rfl, Lib.hid (below_chain HBr.out hV6)⟩
      | false =>
        have hw := HM.out.2.2.1 (fun p hp e => by have h : ¬ ∃ p ∈ T.R.neg, p.1 = p0 := (by simpa using hbn); exact h ⟨p, hp, e⟩)
        have cW : ∀ V, Below V5.heap.size V5 V → Hid (Calls Try.prog 23 #[.slice a2 ON c2, .slice a5 NN c5] V fun e w' => e = .returned (.bool true) ∧ Below V.heap.size V w') := fun V hV => Lib.hid (by
          have h := within_any a2 a5 c2 c5 PO PN V (HLO.out.below hV (Nat.le_refl _)) (HLN.out.below hV (Nat.le_refl _)) HXO.out.1.1 HXN.out.1.1 HXN.out.1.2 true (by simpa using hw)
          rw [← HON.out, ← HNN.out] at h
          exact h)
        have HcW := Lib.hid cW
        clear hw hbn cW
        go_wp2_with (first | (go_at_call 22; (with_reducible refine cN.out.mono ?_); rintro e V6 ⟨rfl, hV6⟩; have hb6 := below_chain HBr.out hV6; have cW6 := HcW.out V6 hb6) | (go_at_call 23; (with_reducible refine cW6.out.mono ?_); rintro e V7 ⟨rfl, hV7⟩))
        go_meet
        exact ⟨rfl, Lib.hid (below_chain hb6 hV7)⟩
    case rest =>
      obtain ⟨rfl, HBr⟩ := hcut
      obtain ⟨v5, v7, e0, e1⟩ := HE5.out
      have v5 := below_cell HBr.out (Nat.le_refl _) v5
      have e0 := below_cell HBr.out (Nat.le_refl _) e0
      go_upto_region 14 with fail
      obtain ⟨Wd, hWd⟩ : ∃ V, V = wc := ⟨_, rfl⟩
      subst hWd
      go_cut [100] (fun t w' => t = .bool false ∧ Hid (Below V5.heap.size V5 w'))
      case first =>
        obtain ⟨bn, hbn⟩ : ∃ b, b = decide (∃ p ∈ T.R.pos, p.1 = p0) := ⟨_, rfl⟩
        have cN := Lib.hid (names_any T.R.pa T.R.pc T.R.pos p0 Wd (HT5.out.rule.pos.below HBr.out (Nat.le_refl _)) (by have := HT5.out.lens.1; omega) bn hbn)
        rw [← HPL.out] at cN
        cases bn with
        | true =>
          clear hbn
          go_wp2_with (first | (go_at_call 22; (with_reducible refine cN.out.mono ?_); rintro e V6 ⟨rfl, hV6⟩))
          go_meet
          exact ⟨rfl, Lib.hid (below_chain HBr.out hV6)⟩
        | false =>
          have hw := HM.out.2.2.2.1 (fun p hp e => by have h : ¬ ∃ p ∈ T.R.pos, p.1 = p0 := (by simpa using hbn); exact h ⟨p, hp, e⟩)
          have cW : ∀ V, Below V5.heap.size V5 V → Hid (Calls Try.prog 23 #[.slice a5 NN c5, .slice a2 ON c2] V fun e w' => e = .returned (.bool true) ∧ Below V.heap.size V w') := fun V hV => Lib.hid (by
            have h := within_any a5 a2 c5 c2 PN PO V (HLN.out.below hV (Nat.le_refl _)) (HLO.out.below hV (Nat.le_refl _)) HXN.out.1.1 HXO.out.1.1 HXO.out.1.2 true (by simpa using hw)
            rw [← HON.out, ← HNN.out] at h
            exact h)
          have HcW := Lib.hid cW
          clear hw hbn cW
          go_wp2_with (first | (go_at_call 22; (with_reducible refine cN.out.mono ?_); rintro e V6 ⟨rfl, hV6⟩; have hb6 := below_chain HBr.out hV6; have cW6 := HcW.out V6 hb6) | (go_at_call 23; (with_reducible refine cW6.out.mono ?_); rintro e V7 ⟨rfl, hV7⟩))
          go_meet
          exact ⟨rfl, Lib.hid (below_chain hb6 hV7)⟩
      case rest =>
        obtain ⟨rfl, HBr⟩ := hcut
        clear v5 v7 e0 e1
        go_upto_block 0 with fail
        go_cut [] (fun w' => Hid (Below V5.heap.size V5 w'))
        case first =>
          go_wp2_with fail
          go_loopw [103] (fun t w' => ∃ (i : Nat), t = .int .i64 i ∧ i ≤ NN ∧ Hid (Below V5.heap.size V5 w')) (fun t _ => NN - (intOf t).toNat)
          case atStart => exact ⟨0, rfl, Nat.zero_le _, HBr⟩
          case round =>
            clear HBr
            obtain ⟨i, rfl, hiN, HBr⟩ := hrel
            by_cases hlt : i < NN
            · obtain ⟨g1, o1, x, xa, xc, rfl, hx, z0, iX⟩ := lists_at HLN.out (k := i) (by rw [← HNN.out]; exact hlt)
              have hxm := List.mem_of_getElem? hx
              obtain ⟨hxl, hxi⟩ := HXN.out.2 x hxm
              have z0 := below_cell HBr.out (Nat.le_refl _) z0
              have hx16 : x.length ≤ 16 := by have := HT5.out.ruleOk.vars; omega
              obtain ⟨bh, hbh⟩ : ∃ b, b = decide (x ∈ PO) := ⟨_, rfl⟩
              have cH := Lib.hid (has_any a2 xa c2 xc PO x wr (HLO.out.below HBr.out (Nat.le_refl _)) (Ints.old iX HBr.out (Nat.le_refl _)) HXO.out.1.1 HXO.out.1.2 bh hbh)
              have cU : Hid (bh = false → ∀ V, Below V5.heap.size V5 V → Calls Try.prog 24 #[.slice T.R.pa PL T.R.pc, .agg #[.int .i64 p0, .slice a0 xs0.length c0], .slice xa x.length xc] V fun e w' => e = .returned (.bool true) ∧ Below V.heap.size V w') := Lib.hid (fun hf V hV => by
                have hu := HM.out.2.2.2.2.1 x hxm (by rw [hf] at hbh; simpa using hbh)
                have h := uses_any (d := T.cs.length) (L := T.R.nv) T.R.pa T.R.pc T.R.pos p0 a0 c0 xs0 xa xc x V (HT5.out.rule.pos.below hV (Nat.le_refl _)) (by have := HT5.out.lens.1; omega) (fun p hp s hs => (HT5.out.ruleOk.pos p hp).2.2 s hs) (fun p hp => (HT5.out.ruleOk.pos p hp).2.1) (by omega) hxi (Ints.old iX hV (Nat.le_refl _)) (Ints.old HI5.out hV (Nat.le_refl _)) (by have := Hx8.out; omega) true (by simpa using hu)
                rw [← HPL.out] at h
                exact h)
              obtain ⟨xl, hxl'⟩ : ∃ n, n = x.length := ⟨_, rfl⟩
              rw [← hxl'] at z0 cH cU
              rw [← HON.out] at cH
              obtain ⟨v5, v7, e0, e1⟩ := HE5.out
              clear hx hxm hxl hxi iX hx16 hbh hxl' v7
              cases bh with
              | true =>
                go_upto_if 119 with (first | (go_at_call 18; (with_reducible refine cH.out.mono ?_); rintro e V6 ⟨rfl, hV6⟩; have hb6 := below_chain HBr.out hV6))
                have HB6 := Lib.hid hb6
                clear hV6 cH hb6 cU
                go_wp2_with fail
                go_roundw
                case rel => exact ⟨i + 1, by go_num, by omega, HB6⟩
                case measure => simp [intOf]; omega
              | false =>
                have cU1 := Lib.hid (cU.out rfl)
                clear cU
                go_upto_if 119 with (first | (go_at_call 18; (with_reducible refine cH.out.mono ?_); rintro e V6 ⟨rfl, hV6⟩; have hb6 := below_chain HBr.out hV6; have cU6 := Lib.hid (cU1.out V6 hb6); replace v5 := below_cell hb6 (Nat.le_refl _) v5; replace e0 := below_cell hb6 (Nat.le_refl _) e0; replace e1 := below_cell hb6 (Nat.le_refl _) e1) | (go_at_call 24; (with_reducible refine cU6.out.mono ?_); rintro e V7 ⟨rfl, hV7⟩; have HB7 := Lib.hid (below_chain hb6 hV7)))
                clear hV6 hV7 cH hb6 cU1 cU6 v5 e0 e1
                go_wp2_with fail
                go_roundw
                case rel => exact ⟨i + 1, by go_num, by omega, HB7⟩
                case measure => simp [intOf]; omega
            · have hie : i = NN := by omega
              subst hie
              go_wp2_with fail
              go_meet
              exact HBr
        case rest =>
          clear HBr
          have HBr := hcut
          go_upto_block 2 with fail
          go_cut [] (fun w' => Hid (Below V5.heap.size V5 w'))
          case first =>
            go_wp2_with fail
            go_loopw [123] (fun t w' => ∃ (i : Nat), t = .int .i64 i ∧ i ≤ ON ∧ Hid (Below V5.heap.size V5 w')) (fun t _ => ON - (intOf t).toNat)
            case atStart => exact ⟨0, rfl, Nat.zero_le _, HBr⟩
            case round =>
              clear HBr
              obtain ⟨i, rfl, hiN, HBr⟩ := hrel
              by_cases hlt : i < ON
              · obtain ⟨g1, o1, x, xa, xc, rfl, hx, z0, iX⟩ := lists_at HLO.out (k := i) (by rw [← HON.out]; exact hlt)
                have hxm := List.mem_of_getElem? hx
                obtain ⟨hxl, hxi⟩ := HXO.out.2 x hxm
                have z0 := below_cell HBr.out (Nat.le_refl _) z0
                have hx16 : x.length ≤ 16 := by have := HT5.out.ruleOk.vars; omega
                obtain ⟨bh, hbh⟩ : ∃ b, b = decide (x ∈ PN) := ⟨_, rfl⟩
                have cH := Lib.hid (has_any a5 xa c5 xc PN x wr (HLN.out.below HBr.out (Nat.le_refl _)) (Ints.old iX HBr.out (Nat.le_refl _)) HXN.out.1.1 HXN.out.1.2 bh hbh)
                have cU : Hid (bh = false → ∀ V, Below V5.heap.size V5 V → Calls Try.prog 24 #[.slice T.R.na GL T.R.nc, .agg #[.int .i64 p0, .slice a0 xs0.length c0], .slice xa x.length xc] V fun e w' => e = .returned (.bool true) ∧ Below V.heap.size V w') := Lib.hid (fun hf V hV => by
                  have hu := HM.out.2.2.2.2.2 x hxm (by rw [hf] at hbh; simpa using hbh)
                  have h := uses_any (d := T.cs.length) (L := T.R.nv) T.R.na T.R.nc T.R.neg p0 a0 c0 xs0 xa xc x V (HT5.out.rule.neg.below hV (Nat.le_refl _)) (by have := HT5.out.lens.2.2; omega) (fun p hp s hs => (HT5.out.ruleOk.neg p hp).2.2 s hs) (fun p hp => (HT5.out.ruleOk.neg p hp).2.1) (by omega) hxi (Ints.old iX hV (Nat.le_refl _)) (Ints.old HI5.out hV (Nat.le_refl _)) (by have := Hx8.out; omega) true (by simpa using hu)
                  rw [← HGL.out] at h
                  exact h)
                obtain ⟨xl, hxl'⟩ : ∃ n, n = x.length := ⟨_, rfl⟩
                rw [← hxl'] at z0 cH cU
                rw [← HNN.out] at cH
                obtain ⟨v5, v7, e0, e1⟩ := HE5.out
                clear hx hxm hxl hxi iX hx16 hbh hxl' v5
                cases bh with
                | true =>
                  go_upto_if 139 with (first | (go_at_call 18; (with_reducible refine cH.out.mono ?_); rintro e V6 ⟨rfl, hV6⟩; have hb6 := below_chain HBr.out hV6))
                  have HB6 := Lib.hid hb6
                  clear hV6 cH hb6 cU
                  go_wp2_with fail
                  go_roundw
                  case rel => exact ⟨i + 1, by go_num, by omega, HB6⟩
                  case measure => simp [intOf]; omega
                | false =>
                  have cU1 := Lib.hid (cU.out rfl)
                  clear cU
                  go_upto_if 139 with (first | (go_at_call 18; (with_reducible refine cH.out.mono ?_); rintro e V6 ⟨rfl, hV6⟩; have hb6 := below_chain HBr.out hV6; have cU6 := Lib.hid (cU1.out V6 hb6); replace v7 := below_cell hb6 (Nat.le_refl _) v7; replace e0 := below_cell hb6 (Nat.le_refl _) e0; replace e1 := below_cell hb6 (Nat.le_refl _) e1) | (go_at_call 24; (with_reducible refine cU6.out.mono ?_); rintro e V7 ⟨rfl, hV7⟩; have HB7 := Lib.hid (below_chain hb6 hV7)))
                  clear hV6 hV7 cH hb6 cU1 cU6 v7 e0 e1
                  go_wp2_with fail
                  go_roundw
                  case rel => exact ⟨i + 1, by go_num, by omega, HB7⟩
                  case measure => simp [intOf]; omega
              · have hie : i = ON := by omega
                subst hie
                go_wp2_with fail
                go_meet
                exact HBr
          case rest =>
            clear HBr
            have HBr := hcut
            go_wp2_with (first | (go_at_call 17; (with_reducible refine (taken_any _).mono ?_); rintro e w8 ⟨rfl, hb8⟩))
            go_ret
            exact ⟨rfl, below_chain (below_chain HB5'.out HBr.out) hb8⟩
end Mt
end Go.Proofs.Ytkejjiohkhlnnaa

namespace Go.Proofs.Ytkejjiohkhlnnaa
open Go.RowKit Go.ChangeShapes Go.WideShapes
namespace Mt

theorem cellsInt : Try.prog.cellsOf 3 = 1 := by kernel_rfl
theorem cellsBool : Try.prog.cellsOf 4 = 1 := by kernel_rfl
theorem cellsSlot : Try.prog.cellsOf 58 = 2 := by kernel_rfl
theorem bytesInt : Try.prog.bytesOf 3 = 8 := by kernel_rfl
theorem bytesSlot : Try.prog.bytesOf 58 = 16 := by kernel_rfl

theorem addr_add (b o j : Nat) : (⟨b, o, none⟩ : Addr).add j = ⟨b, o + j, none⟩ := by unfold Addr.add; split <;> simp_all

section
variable {H : Type} {enc : TypeId × Value → H} {W : World} {held : Bool}

/-- a slice of integers, opened: the integers in it, that they fit, and how long its datum is -/
theorem open_intSlice {fuel : Nat} {v : Value} {x : DataW H × List MemPlace} (h : DataW.trod enc Try.prog W 0 (fun _ => true) held fuel 22 [v] = some x) :
    ∃ a c xs, v = .slice a xs.length c ∧ IntSlice W a c xs ∧ (∀ y ∈ xs, (Lit.int .i64 y).wf = true) ∧
      ((x.1 = .nil ∧ xs = []) ∨ ∃ els sp, x.1 = .slice els sp ∧ els.length = xs.length ∧ els.length + sp.length = c ∧ els = xs.map (fun y => .lit (.int .i64 y))) := by
  rcases Deep.open_slice1 Try.underlying22 cellsInt h with ⟨h1, rfl⟩ | ⟨a, len, cap, m, n, V, D, Pl, h1, _, hl, hm, hmm, rfl, hx⟩
  · simp at h1
    subst h1
    exact ⟨none, 0, [], rfl, ⟨.inl rfl, fun _ => ⟨rfl, rfl⟩⟩, by simp, .inl ⟨rfl, rfl⟩⟩
  · simp at h1 hmm
    subst h1; subst hmm
    have hi : ∀ i, i < len → ∃ y, W.cell? (a.add i) = some (.int .i64 y) ∧ D i = .lit (.int .i64 y) ∧ (Lit.int .i64 y).wf = true := by
      intro i hi
      obtain ⟨c1, c2⟩ := hx i (by omega)
      obtain ⟨y, e1, e2, e3⟩ := DataW.trod_int Try.underlying3 c2
      simp at e1
      rw [e1] at c1
      simp only [Prod.mk.injEq] at e2
      exact ⟨y, c1, e2.1, e3⟩
    obtain ⟨f, hf⟩ := Deep.choose_lt (α := Int) hi
    refine ⟨some a, m, (List.range len).map f, by simp, ⟨?_, fun h => by cases h⟩, ?_, .inr ⟨_, _, rfl, by simp, by simp; omega, ?_⟩⟩
    · rcases Nat.eq_zero_or_pos len with h0 | h0
      · exact .inl (by simp [h0])
      · obtain ⟨b, o, sp⟩ := a
        have hs : sp = none := by
          have := World.cell?_spot (hf 0 h0).1
          simpa [Addr.add] using this
        subst hs
        refine .inr ⟨b, o, rfl, fun i hi => ?_⟩
        have hi' : i < len := by simpa using hi
        have := (hf i hi').1
        rw [addr_add] at this
        simpa using this
    · intro y hy
      obtain ⟨i, hi, rfl⟩ := List.mem_map.1 hy
      exact (hf i (by simpa using hi)).2.2
    · rw [List.map_map]
      exact List.map_congr_left fun i hi => (hf i (by simpa using hi)).2.1

/-- a slice of slots, opened -/
theorem open_slotSlice {fuel : Nat} {v : Value} {x : DataW H × List MemPlace} (h : DataW.trod enc Try.prog W 0 (fun _ => true) held fuel 25 [v] = some x) :
    ∃ a c l, v = .slice a l.length c ∧ SlotSlice W a c l ∧ (∀ y ∈ l, (Lit.int .i64 y.2).wf = true) ∧
      ((x.1 = .nil ∧ l = []) ∨ ∃ els sp, x.1 = .slice els sp ∧ els.length = l.length ∧ els.length + sp.length = c) := by
  rcases Deep.open_slice Try.underlying25 h with ⟨h1, rfl⟩ | ⟨a, len, cap, m, n, D, Pl, h1, _, hl, hm, hmm, rfl, hx⟩
  · simp at h1
    subst h1
    exact ⟨none, 0, [], rfl, ⟨.inl rfl, fun _ => ⟨rfl, rfl⟩⟩, by simp, .inl ⟨rfl, rfl⟩⟩
  · simp at h1 hmm
    subst h1; subst hmm
    rw [cellsSlot] at hx
    have hi : ∀ i, i < len → ∃ s : Bool × Int, W.cell? (a.add (i * 2)) = some (.bool s.1) ∧ W.cell? (a.add (i * 2 + 1)) = some (.int .i64 s.2) ∧ (Lit.int .i64 s.2).wf = true := by
      intro i hi
      obtain ⟨cs, c1, c2⟩ := hx i (by omega)
      obtain ⟨_, hlen, hc⟩ := World.cells?_some c1
      match cs, hlen with
      | [u0, u1], _ =>
        obtain ⟨y0, y1, k, _, _, t0, t1⟩ := trod_struct2 Try.underlying58 c2
        have t0' : DataW.trod enc Try.prog W 0 (fun _ => true) held k 4 [u0] = some y0 := by simpa [cellsBool] using t0
        have t1' : DataW.trod enc Try.prog W 0 (fun _ => true) held k 3 [u1] = some y1 := by simpa [cellsInt] using t1
        obtain ⟨bv, e1, _⟩ := DataW.trod_bool Try.underlying4 t0'
        obtain ⟨nv, e2, _, e3⟩ := DataW.trod_int Try.underlying3 t1'
        simp at e1 e2
        subst e1; subst e2
        have g0 := hc 0 (by omega)
        have g1 := hc 1 (by omega)
        refine ⟨(bv, nv), ?_, ?_, e3⟩
        · simpa [Addr.add] using g0
        · rw [Deep.add_add] at g1
          simpa using g1
    obtain ⟨f, hf⟩ := Deep.choose_lt (α := Bool × Int) hi
    refine ⟨some a, m, (List.range len).map f, by simp, ⟨?_, fun h => by cases h⟩, ?_, .inr ⟨_, _, rfl, by simp, by simp; omega⟩⟩
    · rcases Nat.eq_zero_or_pos len with h0 | h0
      · exact .inl (by simp [h0])
      · obtain ⟨b, o, sp⟩ := a
        have hs : sp = none := by
          have := World.cell?_spot (hf 0 h0).1
          simpa [Addr.add] using this
        subst hs
        refine .inr ⟨b, o, rfl, fun i hi => ?_⟩
        have hi' : i < len := by simpa using hi
        obtain ⟨g0, g1, _⟩ := hf i hi'
        rw [addr_add] at g0 g1
        rw [← Nat.add_assoc] at g1
        simpa using And.intro g0 g1
    · intro y hy
      obtain ⟨i, hi, rfl⟩ := List.mem_map.1 hy
      exact (hf i (by simpa using hi)).2.2

end

theorem sized_pattern {H : Type} {ts : List TypeId} {ds : List (DataW H)} {j : Nat} {d0 : DataW H} {els sp : List (DataW H)} (hsz : (DataW.weightsEach Try.prog ts ds).all (· ≤ reachBytes) = true)
    (ht : ts[j]? = some 27) (hd : ds[j]? = some (.agg [d0, .slice els sp])) : (els.length + sp.length) * 16 ≤ 140737488351232 := by
  have := List.all_eq_true.1 hsz _ (DataW.weights_mem_each ht hd ((els.length + sp.length) * Try.prog.bytesOf 58) (by simp [DataW.weights, DataW.weightsEach, Try.underlying27, Try.underlying25]))
  rw [bytesSlot] at this
  exact of_decide_eq_true this
end Mt
end Go.Proofs.Ytkejjiohkhlnnaa

namespace Go.Proofs.Ytkejjiohkhlnnaa
open Go.RowKit Go.ChangeShapes Go.WideShapes
namespace Op

theorem one_le {H : Type} (d : DataW H) : 1 ≤ Rows.uptoBulk d := by
  cases d with
  | lit l => cases l <;> simp [Rows.uptoBulk]
  | nil => simp [Rows.uptoBulk]
  | ptr d => simp [Rows.uptoBulk]
  | slice elems spare => simp [Rows.uptoBulk]
  | agg parts => simp [Rows.uptoBulk]
  | iface t d => simp [Rows.uptoBulk]
  | map entries => simp [Rows.uptoBulk]
  | held h => simp [Rows.uptoBulk]
theorem length_le {H : Type} (l : List (DataW H)) : l.length ≤ Rows.uptoBulkAll l := by
  induction l with
  | nil => simp [Rows.uptoBulkAll]
  | cons x r ih => have := one_le x; simp only [Rows.uptoBulkAll, List.length_cons]; omega
theorem sum_le {H : Type} (n : Nat) (f : Nat → Nat) (D : Nat → DataW H) (h : ∀ i, i < n → f i ≤ Rows.uptoBulk (D i)) : ((List.range n).map f).sum ≤ Rows.uptoBulkAll ((List.range n).map D) := by
  have key : ∀ l : List Nat, (∀ i ∈ l, i < n) → (l.map f).sum ≤ Rows.uptoBulkAll (l.map D) := by
    intro l
    induction l with
    | nil => simp [Rows.uptoBulkAll]
    | cons x r ih =>
      intro hl
      have h1 := h x (hl x (by simp))
      have h2 := ih (fun i hi => hl i (List.mem_cons_of_mem _ hi))
      simp only [List.map_cons, List.sum_cons, Rows.uptoBulkAll]
      omega
  exact key _ (fun i hi => List.mem_range.1 hi)

theorem cellsInt : Try.prog.cellsOf 3 = 1 := by kernel_rfl
theorem cellsInts : Try.prog.cellsOf 22 = 1 := by kernel_rfl
theorem cellsRow : Try.prog.cellsOf 50 = 2 := by kernel_rfl
theorem cellsRows : Try.prog.cellsOf 23 = 1 := by kernel_rfl

theorem addr_add (b o j : Nat) : (⟨b, o, none⟩ : Addr).add j = ⟨b, o + j, none⟩ := by unfold Addr.add; split <;> simp_all
theorem rng_wf {y : Int} (h : (Lit.int .i64 y).wf = true) : Rng y := by
  simp [Lit.wf, IntKind.min, IntKind.max, IntKind.signed, IntKind.bits] at h
  exact ⟨by omega, by omega⟩

section
variable {H : Type} {enc : TypeId × Value → H} {W : World} {held : Bool}

theorem open_ints {fuel : Nat} {v : Value} {x : DataW H × List MemPlace} (h : DataW.trod enc Try.prog W 0 (fun _ => true) held fuel 22 [v] = some x) :
    ∃ a c xs, v = .slice a xs.length c ∧ IntsZ (fun _ => True) W a c xs ∧ (∀ y ∈ xs, Rng y) ∧ xs.length ≤ maxLen ∧ xs.length ≤ Rows.uptoBulk x.1 := by
  rcases Deep.open_slice1 Try.underlying22 cellsInt h with ⟨h1, rfl⟩ | ⟨a, len, cap, m, n, V, D, Pl, h1, _, hl, hm, hmm, rfl, hx⟩
  · simp at h1
    subst h1
    exact ⟨none, 0, [], rfl, ⟨.inl rfl, fun _ => ⟨rfl, rfl⟩⟩, by simp, by simp, by simp⟩
  · simp at h1 hmm
    subst h1; subst hmm
    have hi : ∀ i, i < len → ∃ y, W.cell? (a.add i) = some (.int .i64 y) ∧ (Lit.int .i64 y).wf = true := by
      intro i hi
      obtain ⟨c1, c2⟩ := hx i (by omega)
      obtain ⟨y, e1, e2, e3⟩ := DataW.trod_int Try.underlying3 c2
      simp at e1
      rw [e1] at c1
      exact ⟨y, c1, e3⟩
    obtain ⟨f, hf⟩ := Deep.choose_lt (α := Int) hi
    refine ⟨some a, m, (List.range len).map f, by simp, ⟨?_, fun h => by cases h⟩, ?_, by simp; omega, ?_⟩
    · rcases Nat.eq_zero_or_pos len with h0 | h0
      · exact .inl (by simp [h0])
      · obtain ⟨b, o, sp⟩ := a
        have hs : sp = none := by
          have := World.cell?_spot (hf 0 h0).1
          simpa [Addr.add] using this
        subst hs
        refine .inr ⟨b, o, rfl, trivial, fun i hi => ?_⟩
        have hi' : i < len := by simpa using hi
        have := (hf i hi').1
        rw [addr_add] at this
        simpa using this
    · intro y hy
      obtain ⟨i, hi, rfl⟩ := List.mem_map.1 hy
      exact rng_wf (hf i (by simpa using hi)).2
    · have := length_le ((List.range len).map D)
      simp only [Rows.uptoBulk, List.length_map, List.length_range] at this ⊢
      omega

theorem open_rows {fuel : Nat} {v : Value} {x : DataW H × List MemPlace} (h : DataW.trod enc Try.prog W 0 (fun _ => true) held fuel 23 [v] = some x) :
    ∃ a c l, v = .slice a l.length c ∧ RowsZ (fun _ => True) W a c l ∧ (∀ r ∈ l, RowOk r) ∧ l.length ≤ maxLen ∧ l.length ≤ Rows.uptoBulk x.1 := by
  rcases Deep.open_slice Try.underlying23 h with ⟨h1, rfl⟩ | ⟨a, len, cap, m, n, D, Pl, h1, _, hl, hm, hmm, rfl, hx⟩
  · simp at h1
    subst h1
    exact ⟨none, 0, [], rfl, ⟨.inl rfl, fun _ => ⟨rfl, rfl⟩⟩, by simp, by simp, by simp⟩
  · simp at h1 hmm
    subst h1; subst hmm
    rw [cellsRow] at hx
    have hi : ∀ i, i < len → ∃ s : Int × Option Addr × Nat × List Int, W.cell? (a.add (i * 2)) = some (.int .i64 s.1) ∧ W.cell? (a.add (i * 2 + 1)) = some (.slice s.2.1 s.2.2.2.length s.2.2.1) ∧ IntsZ (fun _ => True) W s.2.1 s.2.2.1 s.2.2.2 ∧ RowOk (s.1, s.2.2.2) := by
      intro i hi
      obtain ⟨cs, c1, c2⟩ := hx i (by omega)
      obtain ⟨_, hlen, hc⟩ := World.cells?_some c1
      match cs, hlen with
      | [u0, u1], _ =>
        obtain ⟨y0, y1, k, _, _, t0, t1⟩ := trod_struct2 Try.underlying50 c2
        have t0' : DataW.trod enc Try.prog W 0 (fun _ => true) held k 3 [u0] = some y0 := by simpa [cellsInt] using t0
        have t1' : DataW.trod enc Try.prog W 0 (fun _ => true) held k 22 [u1] = some y1 := by simpa [cellsInts] using t1
        obtain ⟨nv, e2, _, e3⟩ := DataW.trod_int Try.underlying3 t0'
        obtain ⟨ai, ci, xs, e4, hI, hR, hml, _⟩ := open_ints t1'
        simp at e2
        subst e2; subst e4
        have g0 := hc 0 (by omega)
        have g1 := hc 1 (by omega)
        refine ⟨(nv, ai, ci, xs), ?_, ?_, hI, rng_wf e3, by unfold maxLen at hml; simpa using hml, hR⟩
        · simpa [Addr.add] using g0
        · rw [Deep.add_add] at g1
          simpa using g1
    obtain ⟨f, hf⟩ := Deep.choose_lt (α := Int × Option Addr × Nat × List Int) hi
    refine ⟨some a, m, (List.range len).map (fun i => ((f i).1, (f i).2.2.2)), by simp, ⟨?_, fun h => by cases h⟩, ?_, by simp; omega, ?_⟩
    · rcases Nat.eq_zero_or_pos len with h0 | h0
      · exact .inl (by simp [h0])
      · obtain ⟨b, o, sp⟩ := a
        have hs : sp = none := by
          have := World.cell?_spot (hf 0 h0).1
          simpa [Addr.add] using this
        subst hs
        refine .inr ⟨b, o, rfl, trivial, fun i hi => ?_⟩
        have hi' : i < len := by simpa using hi
        obtain ⟨g0, g1, g2, _⟩ := hf i hi'
        rw [addr_add] at g0 g1
        rw [← Nat.add_assoc] at g1
        refine ⟨by simpa using g0, (f i).2.1, (f i).2.2.1, by simpa using g1, by simpa using g2⟩
    · intro y hy
      obtain ⟨i, hi, rfl⟩ := List.mem_map.1 hy
      exact (hf i (by simpa using hi)).2.2.2
    · have := length_le ((List.range len).map D)
      simp only [Rows.uptoBulk, List.length_map, List.length_range] at this ⊢
      omega

end
end Op
end Go.Proofs.Ytkejjiohkhlnnaa

namespace Go.Proofs.Ytkejjiohkhlnnaa
open Go.RowKit Go.ChangeShapes Go.WideShapes
namespace Ow
open Mt

theorem cellsInt64 : Try.prog.cellsOf 2 = 1 := by kernel_rfl
theorem cellsString : Try.prog.cellsOf 9 = 1 := by kernel_rfl
theorem cellsBool : Try.prog.cellsOf 4 = 1 := by kernel_rfl
theorem cellsInt : Try.prog.cellsOf 3 = 1 := by kernel_rfl
theorem cellsSlot : Try.prog.cellsOf 58 = 2 := by kernel_rfl
theorem cellsConst : Try.prog.cellsOf 65 = 3 := by kernel_rfl
theorem cellsTest : Try.prog.cellsOf 60 = 5 := by kernel_rfl
theorem cellsPat : Try.prog.cellsOf 27 = 2 := by kernel_rfl
theorem cellsRule : Try.prog.cellsOf 32 = 7 := by kernel_rfl
theorem cellsWorld : Try.prog.cellsOf 34 = 11 := by kernel_rfl
theorem cellsSlots : Try.prog.cellsOf 25 = 1 := by kernel_rfl
theorem cellsPats : Try.prog.cellsOf 28 = 1 := by kernel_rfl
theorem cellsTests : Try.prog.cellsOf 29 = 1 := by kernel_rfl
theorem cellsStrs : Try.prog.cellsOf 30 = 1 := by kernel_rfl
theorem cellsInts : Try.prog.cellsOf 22 = 1 := by kernel_rfl
theorem cellsRows : Try.prog.cellsOf 23 = 1 := by kernel_rfl
theorem cellsConsts : Try.prog.cellsOf 24 = 1 := by kernel_rfl
section
variable {H : Type} {enc : TypeId × Value → H} {W : World} {held : Bool}
/-- a slice's elements, cell by cell: a list of what each is -/
theorem open_list {α : Type} [Inhabited α] {t e : TypeId} {size : Nat} {fuel : Nat} {v : Value} {x : DataW H × List MemPlace} (ht : Try.prog.underlying t = some (.slice e)) (hs : Try.prog.cellsOf e = size) (hs1 : 1 ≤ size) (P : α → List Value → Prop) (hP : ∀ k cs y, cs.length = size → DataW.trod enc Try.prog W 0 (fun _ => true) held k e cs = some y → ∃ z, P z cs)
    (h : DataW.trod enc Try.prog W 0 (fun _ => true) held fuel t [v] = some x) :
    ∃ a c, ∃ l : List α, v = .slice a l.length c ∧ l.length ≤ maxLen ∧ (l = [] ∨ ∃ b off, a = some ⟨b, off, none⟩ ∧ ∀ (i : Nat) z, l[i]? = some z → ∃ cs, cs.length = size ∧ P z cs ∧ ∀ j u, cs[j]? = some u → W.cell? ⟨b, off + i * size + j, none⟩ = some u) := by
  rcases Deep.open_slice ht h with ⟨h1, rfl⟩ | ⟨a, len, cap, m, n, D, Pl, h1, _, hl, hm, hmm, rfl, hx⟩
  · simp at h1
    subst h1
    exact ⟨none, 0, [], rfl, Nat.zero_le _, .inl rfl⟩
  · simp at h1 hmm
    subst h1; subst hmm
    rw [hs] at hx
    have hi : ∀ i, i < len → ∃ z : α × List Value, z.2.length = size ∧ P z.1 z.2 ∧ ∀ j u, z.2[j]? = some u → W.cell? (a.add (i * size + j)) = some u := by
      intro i hi
      obtain ⟨cs, c1, c2⟩ := hx i (by omega)
      obtain ⟨_, hlen, hc⟩ := World.cells?_some c1
      obtain ⟨z, hz⟩ := hP _ _ _ hlen c2
      refine ⟨(z, cs), hlen, hz, fun j u hu => ?_⟩
      have hu : cs[j]? = some u := hu
      have hj : j < size := by have := (List.getElem?_eq_some_iff.1 hu).1; omega
      have g := hc j hj
      rw [Deep.add_add] at g
      rw [g]
      exact hu
    obtain ⟨f, hf⟩ := Deep.choose_lt (α := α × List Value) hi
    refine ⟨some a, m, (List.range len).map (fun i => (f i).1), by simp, by simp; omega, ?_⟩
    rcases Nat.eq_zero_or_pos len with h0 | h0
    · exact .inl (by simp [h0])
    · obtain ⟨b, o, sp⟩ := a
      have hsp : sp = none := by
        obtain ⟨q1, q2, q3⟩ := hf 0 h0
        have hl0 : 0 < (f 0).2.length := by omega
        have := World.cell?_spot (q3 0 _ (List.getElem?_eq_getElem hl0))
        simpa [Addr.add] using this
      subst hsp
      refine .inr ⟨b, o, rfl, fun i z hz => ?_⟩
      have hil : i < len := by simpa using (List.getElem?_eq_some_iff.1 hz).1
      obtain ⟨q1, q2, q3⟩ := hf i hil
      rw [List.getElem?_map, List.getElem?_range hil] at hz
      simp at hz
      subst hz
      refine ⟨(f i).2, q1, q2, fun j u hu => ?_⟩
      have := q3 j u hu
      rw [addr_add, ← Nat.add_assoc] at this
      exact this
set_option maxRecDepth 100000 in
theorem read_slot {k : Nat} {cs : List Value} {y : DataW H × List MemPlace} (hl : cs.length = 2) (h : DataW.trod enc Try.prog W 0 (fun _ => true) held k 58 cs = some y) : ∃ s : Sl, cs = [.bool s.1, .int .i64 s.2] := by
  match cs, hl with
  | [u0, u1], _ =>
    obtain ⟨y0, y1, n, _, _, t0, t1⟩ := trod_struct2 Try.underlying58 h
    have t0' : DataW.trod enc Try.prog W 0 (fun _ => true) held n 4 [u0] = some y0 := by simpa [cellsBool] using t0
    have t1' : DataW.trod enc Try.prog W 0 (fun _ => true) held n 3 [u1] = some y1 := by simpa [cellsInt] using t1
    obtain ⟨bv, e1, _⟩ := DataW.trod_bool Try.underlying4 t0'
    obtain ⟨nv, e2, _, e3⟩ := DataW.trod_int Try.underlying3 t1'
    simp at e1 e2
    subst e1; subst e2
    exact ⟨(bv, nv), rfl⟩
theorem open_slots {fuel : Nat} {v : Value} {x : DataW H × List MemPlace} (h : DataW.trod enc Try.prog W 0 (fun _ => true) held fuel 25 [v] = some x) : ∃ a c l, v = .slice a l.length c ∧ Slots W a l ∧ l.length ≤ maxLen := by
  obtain ⟨a, c, l, h1, h2, h3⟩ := open_list (α := Sl) Try.underlying25 cellsSlot (by omega) (fun s cs => cs = [.bool s.1, .int .i64 s.2]) (fun k cs y hl hy => read_slot hl hy) h
  refine ⟨a, c, l, h1, ?_, h2⟩
  rcases h3 with h3 | ⟨b, off, e, hc⟩
  · exact .inl h3
  · refine .inr ⟨b, off, e, fun i hi => ?_⟩
    obtain ⟨cs, _, rfl, q⟩ := hc i _ (List.getElem?_eq_getElem hi)
    exact ⟨q 0 _ rfl, q 1 _ rfl⟩
set_option maxRecDepth 100000 in
theorem read_const {k : Nat} {cs : List Value} {y : DataW H × List MemPlace} (hl : cs.length = 3) (h : DataW.trod enc Try.prog W 0 (fun _ => true) held k 65 cs = some y) : ∃ c : C3, cs = [.int .i64 c.1, .int .i64 c.2.1, .string c.2.2] ∧ C3Ok c := by
  match cs, hl with
  | [u0, u1, u2], _ =>
    obtain ⟨y0, y1, y2, n, _, _, t0, t1, t2⟩ := Deep.trod_struct3 Try.underlying65 h
    have t0' : DataW.trod enc Try.prog W 0 (fun _ => true) held n 3 [u0] = some y0 := by simpa [cellsInt] using t0
    have t1' : DataW.trod enc Try.prog W 0 (fun _ => true) held n 2 [u1] = some y1 := by simpa [cellsInt64] using t1
    have t2' : DataW.trod enc Try.prog W 0 (fun _ => true) held n 9 [u2] = some y2 := by simpa [cellsString] using t2
    obtain ⟨kv, e0, _, w0⟩ := DataW.trod_int Try.underlying3 t0'
    obtain ⟨nv, e1, _, w1⟩ := DataW.trod_int Try.underlying2 t1'
    obtain ⟨sv, e2, _, w2⟩ := DataW.trod_string Try.underlying9 t2'
    simp at e0 e1 e2
    subst e0; subst e1; subst e2
    exact ⟨(kv, nv, sv), rfl, Op.rng_wf w0, Op.rng_wf w1, by unfold maxLen; exact w2⟩
theorem open_consts {fuel : Nat} {v : Value} {x : DataW H × List MemPlace} (h : DataW.trod enc Try.prog W 0 (fun _ => true) held fuel 24 [v] = some x) : ∃ a c l, v = .slice a l.length c ∧ Consts W a l ∧ (∀ z ∈ l, C3Ok z) ∧ l.length ≤ maxLen := by
  obtain ⟨a, c, l, h1, h2, h3⟩ := open_list (α := C3) Try.underlying24 cellsConst (by omega) (fun s cs => cs = [.int .i64 s.1, .int .i64 s.2.1, .string s.2.2] ∧ C3Ok s) (fun k cs y hl hy => read_const hl hy) h
  refine ⟨a, c, l, h1, ?_, ?_, h2⟩
  · rcases h3 with h3 | ⟨b, off, e, hc⟩
    · exact .inl h3
    · refine .inr ⟨b, off, e, fun i hi => ?_⟩
      obtain ⟨cs, _, ⟨rfl, _⟩, q⟩ := hc i _ (List.getElem?_eq_getElem hi)
      exact ⟨q 0 _ rfl, q 1 _ rfl, q 2 _ rfl⟩
  · intro z hz
    rcases h3 with h3 | ⟨b, off, e, hc⟩
    · rw [h3] at hz; cases hz
    · obtain ⟨i, hi⟩ := List.mem_iff_getElem?.1 hz
      obtain ⟨cs, _, ⟨_, q⟩, _⟩ := hc i z hi
      exact q
set_option maxRecDepth 100000 in
theorem read_pat {k : Nat} {cs : List Value} {y : DataW H × List MemPlace} (hl : cs.length = 2) (h : DataW.trod enc Try.prog W 0 (fun _ => true) held k 27 cs = some y) : ∃ p : Pat, ∃ a c, cs = [.int .i64 p.1, .slice a p.2.length c] ∧ Slots W a p.2 ∧ p.2.length ≤ maxLen := by
  match cs, hl with
  | [u0, u1], _ =>
    obtain ⟨y0, y1, n, _, _, t0, t1⟩ := trod_struct2 Try.underlying27 h
    have t0' : DataW.trod enc Try.prog W 0 (fun _ => true) held n 3 [u0] = some y0 := by simpa [cellsInt] using t0
    have t1' : DataW.trod enc Try.prog W 0 (fun _ => true) held n 25 [u1] = some y1 := by simpa [cellsSlots] using t1
    obtain ⟨nv, e0, _, _⟩ := DataW.trod_int Try.underlying3 t0'
    obtain ⟨a, c, l, rfl, q1, q2⟩ := open_slots t1'
    simp at e0
    subst e0
    exact ⟨(nv, l), a, c, rfl, q1, q2⟩
theorem open_pats {fuel : Nat} {v : Value} {x : DataW H × List MemPlace} (h : DataW.trod enc Try.prog W 0 (fun _ => true) held fuel 28 [v] = some x) : ∃ a c l, v = .slice a l.length c ∧ Pats W a l := by
  obtain ⟨a, c, l, h1, h2, h3⟩ := open_list (α := Pat) Try.underlying28 cellsPat (by omega) (fun p cs => ∃ a c, cs = [.int .i64 p.1, .slice a p.2.length c] ∧ Slots W a p.2 ∧ p.2.length ≤ maxLen) (fun k cs y hl hy => read_pat hl hy) h
  refine ⟨a, c, l, h1, ?_⟩
  rcases h3 with h3 | ⟨b, off, e, hc⟩
  · exact .inl h3
  · refine .inr ⟨b, off, e, fun i p hp => ?_⟩
    obtain ⟨cs, _, ⟨sa, sc, rfl, hs, _⟩, q⟩ := hc i p hp
    exact ⟨q 0 _ rfl, sa, sc, q 1 _ rfl, hs⟩
set_option maxRecDepth 100000 in
theorem read_test {k : Nat} {cs : List Value} {y : DataW H × List MemPlace} (hl : cs.length = 5) (h : DataW.trod enc Try.prog W 0 (fun _ => true) held k 60 cs = some y) : ∃ t : Tst, cs = [.int .i64 t.1, .bool t.2.1.1, .int .i64 t.2.1.2, .bool t.2.2.1, .int .i64 t.2.2.2] := by
  match cs, hl with
  | [u0, u1, u2, u3, u4], _ =>
    obtain ⟨y0, y1, y2, n, _, _, t0, t1, t2⟩ := Deep.trod_struct3 Try.underlying60 h
    have t0' : DataW.trod enc Try.prog W 0 (fun _ => true) held n 3 [u0] = some y0 := by simpa [cellsInt] using t0
    have t1' : DataW.trod enc Try.prog W 0 (fun _ => true) held n 58 [u1, u2] = some y1 := by simpa [cellsInt, cellsSlot] using t1
    have t2' : DataW.trod enc Try.prog W 0 (fun _ => true) held n 58 [u3, u4] = some y2 := by simpa [cellsInt, cellsSlot] using t2
    obtain ⟨op, e0, _, _⟩ := DataW.trod_int Try.underlying3 t0'
    obtain ⟨s1, e1⟩ := read_slot (by rfl) t1'
    obtain ⟨s2, e2⟩ := read_slot (by rfl) t2'
    simp at e0 e1 e2
    obtain ⟨rfl, rfl⟩ := e1
    obtain ⟨rfl, rfl⟩ := e2
    subst e0
    exact ⟨(op, s1, s2), rfl⟩
theorem open_tests {fuel : Nat} {v : Value} {x : DataW H × List MemPlace} (h : DataW.trod enc Try.prog W 0 (fun _ => true) held fuel 29 [v] = some x) : ∃ a c l, v = .slice a l.length c ∧ Tsts W a l := by
  obtain ⟨a, c, l, h1, h2, h3⟩ := open_list (α := Tst) Try.underlying29 cellsTest (by omega) (fun t cs => cs = [.int .i64 t.1, .bool t.2.1.1, .int .i64 t.2.1.2, .bool t.2.2.1, .int .i64 t.2.2.2]) (fun k cs y hl hy => read_test hl hy) h
  refine ⟨a, c, l, h1, ?_⟩
  rcases h3 with h3 | ⟨b, off, e, hc⟩
  · exact .inl h3
  · refine .inr ⟨b, off, e, fun i p hp => ?_⟩
    obtain ⟨cs, _, rfl, q⟩ := hc i p hp
    exact ⟨q 0 _ rfl, q 1 _ rfl, q 2 _ rfl, q 3 _ rfl, q 4 _ rfl⟩
theorem open_strs {fuel : Nat} {v : Value} {x : DataW H × List MemPlace} (h : DataW.trod enc Try.prog W 0 (fun _ => true) held fuel 30 [v] = some x) : ∃ a n c, v = .slice a n c := by
  rcases Deep.open_slice Try.underlying30 h with ⟨h1, rfl⟩ | ⟨a, len, cap, m, n, D, Pl, h1, _⟩
  · simp at h1; exact ⟨none, 0, 0, h1⟩
  · simp at h1; exact ⟨_, _, _, h1⟩
set_option maxRecDepth 100000 in
/-- a rule's cells, read; its head's slots too -/
theorem read_rule {k : Nat} {cs : List Value} {y : DataW H × List MemPlace} (hl : cs.length = 7) (h : DataW.trod enc Try.prog W 0 (fun _ => true) held k 32 cs = some y) : ∃ (R : RuleV) (hs : List Sl), cs = R.cells.toList ∧ RuleIn W R ∧ R.hn = hs.length ∧ Slots W R.ha hs ∧ hs.length ≤ maxLen := by
  match cs, hl with
  | [u0, u1, u2, u3, u4, u5, u6], _ =>
    obtain ⟨xs, n, _, hD, hl7, hlx, hf⟩ := DataW.trod_struct Try.underlying32 h
    match xs, hlx with
    | [y0, y1, y2, y3, y4, y5], _ =>
      have t0 := hf 0 _ rfl
      have t1 := hf 1 _ rfl
      have t2 := hf 2 _ rfl
      have t3 := hf 3 _ rfl
      have t4 := hf 4 _ rfl
      have t5 := hf 5 _ rfl
      simp [cellsPat, cellsPats, cellsTests, cellsStrs, cellsInt] at t0 t1 t2 t3 t4 t5
      obtain ⟨hd, ha, hc, e0, hS, hm⟩ := read_pat (by rfl) t0
      obtain ⟨pa, pc, pos, rfl, hP⟩ := open_pats t1
      obtain ⟨ta, tc, ts, rfl, hT⟩ := open_tests t2
      obtain ⟨na, nc, ns, rfl, hN⟩ := open_pats t3
      obtain ⟨va, nv, vc, rfl⟩ := open_strs t4
      obtain ⟨cl, e5, _, _⟩ := DataW.trod_int Try.underlying3 t5
      simp at e0 e5
      obtain ⟨rfl, rfl⟩ := e0
      subst e5
      exact ⟨⟨hd.1, ha, hd.2.length, hc, pa, pc, pos, ta, tc, ts, na, nc, ns, va, nv, vc, cl⟩, hd.2, rfl, ⟨hP, hT, hN⟩, rfl, hS, hm⟩
set_option maxRecDepth 100000 in
/-- a world that is handed in -/
theorem open_world {r : Reach} {b0 : Nat} {v : Value} {d : DataW H} {p : List MemPlace} (hv : Value.okWide Try.prog W r b0 34 v) (h : DataW.Trod enc Try.prog W 0 (fun _ => true) held 34 v d p) :
    ∃ (T : WorldV) (hs : List Sl), v = .agg T.cells ∧ WorldIn W T ∧ T.R.hn = hs.length ∧ Slots W T.R.ha hs ∧ hs.length ≤ maxLen ∧ (∀ x ∈ T.ar, Rng x) := by
  obtain ⟨cs, rfl, hsz⟩ := okWide_struct Try.underlying34 hv
  rw [cellsWorld] at hsz
  obtain ⟨cs⟩ := cs
  match cs, hsz with
  | [u0, u1, u2, u3, u4, u5, u6, u7, u8, u9, u10], _ =>
    obtain ⟨fuel, hf⟩ := h
    obtain ⟨xs, n, _, hD, hl5, hlx, hf⟩ := DataW.trod_struct Try.underlying34 hf
    match xs, hlx with
    | [y0, y1, y2, y3, y4], _ =>
      have t0 := hf 0 _ rfl
      have t1 := hf 1 _ rfl
      have t2 := hf 2 _ rfl
      have t3 := hf 3 _ rfl
      have t4 := hf 4 _ rfl
      simp [Value.cells, cellsInts, cellsRows, cellsConsts, cellsRule, cellsInt] at t0 t1 t2 t3 t4
      obtain ⟨aa, ac, ar, rfl, hA, hAr, _, _⟩ := Op.open_ints t0
      obtain ⟨ra, rc, rows, rfl, hR, _, _, _⟩ := Op.open_rows t1
      obtain ⟨ca, cc, cs, rfl, hC, hCo, hCm⟩ := open_consts t2
      obtain ⟨R, hs, e3, hRu, hh, hSl, hm⟩ := read_rule (by rfl) t3
      obtain ⟨K, e4, _, _⟩ := DataW.trod_int Try.underlying3 t4
      simp at e4
      subst e4
      simp [RuleV.cells] at e3
      obtain ⟨rfl, rfl, rfl, rfl, rfl, rfl, rfl⟩ := e3
      exact ⟨⟨aa, ac, ar, ra, rc, rows, ca, cc, cs, R, K⟩, hs, rfl, ⟨hA.ints, hR, hC, hCo, hRu, hCm⟩, hh, hSl, hm, hAr⟩
set_option maxRecDepth 100000 in
/-- a pattern that is handed in -/
theorem open_pattern {r : Reach} {b0 : Nat} {v : Value} {d : DataW H} {p : List MemPlace} (hv : Value.okWide Try.prog W r b0 27 v) (h : DataW.Trod enc Try.prog W 0 (fun _ => true) held 27 v d p) :
    ∃ (q : Pat) (a : Option Addr) (c : Nat), v = .agg #[.int .i64 q.1, .slice a q.2.length c] := by
  obtain ⟨cs, rfl, hsz⟩ := okWide_struct Try.underlying27 hv
  rw [cellsPat] at hsz
  obtain ⟨cs⟩ := cs
  obtain ⟨fuel, hf⟩ := h
  obtain ⟨q, a, c, e, _, _⟩ := read_pat (by simpa using hsz) (by simpa [Value.cells] using hf)
  exact ⟨q, a, c, by rw [e]⟩
end
end Ow
end Go.Proofs.Ytkejjiohkhlnnaa

namespace Go.Proofs.Ytkejjiohkhlnnaa
open Go.RowKit Go.ChangeShapes Go.WideShapes
namespace Ow
open Mt

theorem bytesRow : Try.prog.bytesOf 50 = 32 := by kernel_rfl
theorem cellsRow : Try.prog.cellsOf 50 = 2 := by kernel_rfl
section
variable {H : Type} {enc : TypeId × Value → H} {W : World} {held : Bool}
theorem rows_datum {fuel : Nat} {a : Option Addr} {n c : Nat} {x : DataW H × List MemPlace} (h : DataW.trod enc Try.prog W 0 (fun _ => true) held fuel 23 [.slice a n c] = some x) : n = 0 ∨ ∃ els sp, x.1 = .slice els sp ∧ els.length = n := by
  rcases Deep.open_slice Try.underlying23 h with ⟨h1, rfl⟩ | ⟨a, len, cap, m, k, D, Pl, h1, _, hl, hm, hmm, rfl, hx⟩
  · simp at h1; exact .inl h1.2.1
  · simp at h1
    exact .inr ⟨_, _, rfl, by simp [h1.2.1]⟩
theorem sized_world {ts : List TypeId} {ds : List (DataW H)} {j : Nat} {d0 d2 d3 d4 : DataW H} {els sp : List (DataW H)} (hsz : (DataW.weightsEach Try.prog ts ds).all (· ≤ reachBytes) = true)
    (ht : ts[j]? = some 34) (hd : ds[j]? = some (.agg [d0, .slice els sp, d2, d3, d4])) : (els.length + sp.length) * 32 ≤ 140737488351232 := by
  have := List.all_eq_true.1 hsz _ (DataW.weights_mem_each ht hd ((els.length + sp.length) * Try.prog.bytesOf 50) (by simp [DataW.weights, DataW.weightsEach, Try.underlying34, Try.underlying23]))
  rw [bytesRow] at this
  exact of_decide_eq_true this
set_option maxRecDepth 100000 in
theorem world_rows {ts : List TypeId} {ds : List (DataW H)} {j : Nat} {T : WorldV} {d : DataW H} {p : List MemPlace} (hsz : (DataW.weightsEach Try.prog ts ds).all (· ≤ reachBytes) = true) (ht : ts[j]? = some 34) (hd : ds[j]? = some d)
    (h : DataW.Trod enc Try.prog W 0 (fun _ => true) held 34 (.agg T.cells) d p) : T.rows.length * 32 ≤ 140737488351232 := by
  obtain ⟨fuel, hf⟩ := h
  obtain ⟨xs, n, _, hD, hl5, hlx, hf⟩ := DataW.trod_struct Try.underlying34 hf
  match xs, hlx with
  | [y0, y1, y2, y3, y4], _ =>
    have t1 := hf 1 _ rfl
    simp [Value.cells, WorldV.cells, cellsRows] at t1
    rcases rows_datum t1 with h0 | ⟨els, sp, e1, e2⟩
    · rw [h0]; omega
    · have hD' : d = .agg [y0.1, y1.1, y2.1, y3.1, y4.1] := congrArg Prod.fst hD
      rw [e1] at hD'
      have := sized_world hsz ht (hd.trans (congrArg some hD'))
      omega
set_option maxRecDepth 100000 in
/-- a row that is handed in -/
theorem open_row {r : Reach} {b0 : Nat} {v : Value} {d : DataW H} {p : List MemPlace} (hv : Value.okWide Try.prog W r b0 50 v) (h : DataW.Trod enc Try.prog W 0 (fun _ => true) held 50 v d p) :
    ∃ (q : Row) (a : Option Addr) (c : Nat), v = .agg #[.int .i64 q.1, .slice a q.2.length c] ∧ IntsZ (fun _ => True) W a c q.2 := by
  obtain ⟨cs, rfl, hsz⟩ := okWide_struct Try.underlying50 hv
  rw [cellsRow] at hsz
  obtain ⟨cs⟩ := cs
  match cs, hsz with
  | [u0, u1], _ =>
    obtain ⟨fuel, hf⟩ := h
    obtain ⟨y0, y1, k, _, _, t0, t1⟩ := trod_struct2 Try.underlying50 hf
    have t0' : DataW.trod enc Try.prog W 0 (fun _ => true) held k 3 [u0] = some y0 := by simpa [cellsInt, Value.cells] using t0
    have t1' : DataW.trod enc Try.prog W 0 (fun _ => true) held k 22 [u1] = some y1 := by simpa [cellsInts, Value.cells] using t1
    obtain ⟨nv, e0, _, _⟩ := DataW.trod_int Try.underlying3 t0'
    obtain ⟨a, c, xs, rfl, hI, _, _, _⟩ := Op.open_ints t1'
    simp at e0
    subst e0
    exact ⟨(nv, xs), a, c, rfl, hI⟩
end
end Ow
end Go.Proofs.Ytkejjiohkhlnnaa

namespace Go.Proofs.Ytkejjiohkhlnnaa.matchMoreLaw
open Go.ChangeShapes Go.WideShapes Go.ChangeAt Go.RowKit Go.Joins
open Go.ChangeMaps (open_string shut_string)

theorem own : ownKnob Try.prog.godebug = none := by kernel_rfl
theorem laidOut : laidOutB Try.prog = true := by kernel_rfl

set_option maxRecDepth 100000 in
theorem lifted (os : Os) (started : os.Started) (H : Type) (enc : TypeId × Value → H) :
    ReturnsInHanded {} Try.checked os 5 .any (Rows.matchMoreSpec.pre6 enc Try.prog Try.f5 Rows.matchMoreRow.domain false) (Rows.matchMoreSpec.post enc Try.prog Try.f5 false true false false) := by
  refine returnsInHanded_of_change_sized (C := Try.checked) own started (by kernel_rfl) Try.func5
    (ChangeSpec.witness6 (enc := enc) (C := Try.checked) false ⟨#[], #[.agg #[.slice none 0 0, .slice none 0 0, .slice none 0 0, .int .i64 0, .slice none 0 0, .slice none 0 0, .slice none 0 0, .slice none 0 0, .slice none 0 0, .int .i64 0, .int .i64 0], .agg #[.int .i64 0, .slice none 0 0]], []⟩ 8 (by kernel_rfl) (by kernel_rfl) (by kernel_rfl) (by kernel_rfl)) ?_
  intro W base args ds gs before hval0 hW _ hsz0 _
  have hsz : (DataW.weightsEach Try.prog (Try.f5.params.toList ++ Rows.matchMoreSpec.plain.varTypes Try.prog) (ds ++ gs)).all (· ≤ reachBytes) = true := hsz0
  clear hsz0
  have hval : ∀ (j : Nat) t v, Try.f5.params[j]? = some t → args[j]? = some v → Value.okWide Try.prog W .any base t v := hval0
  have hW' := hW
  obtain ⟨p, q, hA0, hV, rfl, hfz, hnd⟩ := hW
  have hA : DataW.TrodAll enc Try.prog W 0 (fun _ => true) true Try.f5.params.toList args.toList ds p := hA0
  rw [Try.params5] at hA hval hsz
  obtain ⟨v0, vs0, d0, ds0, p0, q0, hargs, rfl, rfl, h0, r0⟩ := trodAll_cons hA
  obtain ⟨v1, vs1, d1, ds1, p1, q1, rfl, rfl, rfl, h1, r1⟩ := trodAll_cons r0
  obtain ⟨rfl, rfl, rfl⟩ := trodAll_nil r1
  obtain rfl : args = #[v0, v1] := by cases args; simp_all
  obtain ⟨rfl, rfl⟩ := trodVars_none hV
  have k0 := h0
  have lt0 : ∀ x ∈ p0, x.block < W.heap.size := by obtain ⟨m, hm⟩ := k0; exact DataW.trod_lt m _ _ _ hm
  have k1 := h1
  have lt1 : ∀ x ∈ p1, x.block < W.heap.size := by obtain ⟨m, hm⟩ := k1; exact DataW.trod_lt m _ _ _ hm
  obtain ⟨T0, hd0, rfl, I0, dn0, ds0', dm0, ra0⟩ := Ow.open_world (hval 0 34 v0 rfl rfl) h0
  have B0 := Ow.world_rows (j := 0) hsz rfl rfl h0
  obtain ⟨q1', a1, cp1, rfl, R1⟩ := Ow.open_row (hval 1 50 v1 rfl rfl) h1
  clear hA0 hval0
  simp only [List.append_nil] at hW'
  refine (Mt.matchMore_any T0 q1'.1 a1 q1'.2 cp1 W I0 R1 B0).mono fun e W' ⟨he, bel⟩ => ?_
  subst he
  exact ⟨_, rfl, _, _, _, [], _, [], hW', trodAll_mk1 (shut_bool Try.underlying4 _), (trodAll_cons_mk (Below.trod laidOut (by kernel_rfl) (of_decide_eq_true (by kernel_rfl)) k0 bel lt0) (trodAll_cons_mk (Below.trod laidOut (by kernel_rfl) (of_decide_eq_true (by kernel_rfl)) k1 bel lt1) trodAll_mk0)), rfl, bel.frame _, fun h => by cases h⟩

theorem proved : Rows.MatchMoreSaid :=
  OpenClaim.holds_of_wide 5 Try.f5 rfl rfl rfl rfl rfl rfl rfl ⟨rfl, rfl, rfl, rfl, rfl⟩ rfl rfl rfl rfl rfl (by kernel_rfl) Try.func5 (by kernel_rfl)
    (of_decide_eq_true (by kernel_rfl)) (by unfold Func.isWrapper; first | (rw [if_pos (by decide +kernel)]; kernel_rfl) | (rw [if_neg (by decide +kernel)]; exact ⟨rfl, rfl⟩))
    (fun os started H enc _ => lifted os started H enc)
#print axioms proved
end Go.Proofs.Ytkejjiohkhlnnaa.matchMoreLaw
