/-
  The book of StoreScript, StoreTries, StoreEach: what it holds, and on.
-/
import Derived.Test.YtgodidoibcomcaaBBox
import Derived.BigQuiet
namespace Go.Proofs.Ytgodidoibcomcaa.Bk
open Go.RowKit Go.Proofs.Ytgodidoibcomcaa

/-- one store and its reference: where they lie, the rows with their births at the store, what the store keeps for the Trys that run, its births, the reference's times and its clock -/
structure Pr where
  sb : Nat
  rb : Nat
  rs : List (Row × Int)
  lows : List (Nat × Int)
  n : Nat
  born : List Int
  clock : Nat
def Pr.rows (p : Pr) : List Row := p.rs.map (·.1)
def stE (ar : List Int) (k : Nat) (p : Pr) : Ent := ⟨2 * k + 1, p.sb, ar, p.rs, p.lows, p.n⟩
def rfE (ar : List Int) (k : Nat) (p : Pr) : Ent := ⟨refS + k, p.rb, ar, p.rs, p.born.map (fun x => (0, x)), p.clock⟩
def ents (ar : List Int) (ps : List Pr) : List Ent := ps.zipIdx.flatMap fun x => [stE ar x.2 x.1, rfE ar x.2 x.1]
theorem mem_ents {ar : List Int} {ps : List Pr} {x : Ent} : x ∈ ents ar ps ↔ ∃ k p, ps[k]? = some p ∧ (x = stE ar k p ∨ x = rfE ar k p) := by
  unfold ents
  rw [List.mem_flatMap]
  constructor
  · rintro ⟨⟨p, k⟩, h1, h2⟩
    rw [List.mem_zipIdx_iff_getElem?] at h1
    exact ⟨k, p, h1, by simpa using h2⟩
  · rintro ⟨k, p, h1, h2⟩
    exact ⟨(p, k), List.mem_zipIdx_iff_getElem?.2 h1, by simpa using h2⟩
theorem born_fst (l : List Int) : (l.map (fun x => ((0 : Nat), x))).map (·.2) = l := by
  rw [List.map_map]
  exact List.map_id' _

/-- the book: its head, the arities, the stores, the three lists, the number of the last mark, the lists handed out and what must stand in them -/
structure Book where
  bk : Nat
  ar : List Int
  ps : List Pr
  vS : Value
  vR : Value
  vL : Value
  next : Int
  lists : List (Value × Value)
structure BookOk (β : Book) (C : List Box) : Prop where
  head : (β.bk, Obj.cells #[β.vS, β.vR, β.vL, .int .i64 β.next] 96 (0, 0)) ∈ C
  st : BoxRow C 25 1 β.vS β.ps.length (β.ps.map fun p => .pointer (some ⟨p.sb, 0, none⟩))
  rf : BoxRow C 89 1 β.vR β.ps.length (β.ps.map fun p => .pointer (some ⟨p.rb, 0, none⟩))
  ls : BoxRow C 102 2 β.vL β.lists.length (β.lists.flatMap fun x => [x.1, x.2])
  kept : ∀ x ∈ β.lists, ∃ xs : List Int, BoxRow C 3 1 x.1 xs.length (xs.map (Value.int .i64)) ∧ BoxRow C 3 1 x.2 xs.length (xs.map (Value.int .i64))
  many : β.ps.length ≤ 1000000
  pos : 0 < β.ps.length
/-- a list that is none of those handed out before -/
def Off (β : Book) (v : Value) : Prop := ∀ x ∈ β.lists, ∀ g, v.ownBlock = some g → x.1.ownBlock ≠ some g ∧ x.2.ownBlock ≠ some g

theorem infoList : (Try.prog.info? 102).map (fun i => (i.zero, i.size, i.bytes)) = some (some (.agg #[.slice none 0 0, .slice none 0 0]), 2, 48) := by kernel_rfl
theorem elemList : Elem Try.prog 94 102 (.agg #[.slice none 0 0, .slice none 0 0]) 2 48 := ⟨Try.underlying94, infoList, rfl, by decide⟩
theorem infoStoreP : (Try.prog.info? 25).map (fun i => (i.zero, i.size, i.bytes)) = some (some (.pointer none), 1, 8) := by kernel_rfl
theorem elemStoreP : Elem Try.prog 92 25 (.pointer none) 1 8 := ⟨Try.underlying92, infoStoreP, rfl, by decide⟩
theorem infoRefP : (Try.prog.info? 89).map (fun i => (i.zero, i.size, i.bytes)) = some (some (.pointer none), 1, 8) := by kernel_rfl
theorem elemRefP : Elem Try.prog 93 89 (.pointer none) 1 8 := ⟨Try.underlying93, infoRefP, rfl, by decide⟩

set_option maxHeartbeats 1000000 in
theorem lints_own (aa : Option Addr) (ca : Nat) (xs : List Int) (w : World) (ha : Ints w aa xs) (hl : xs.length * 8 ≤ 140737488351232) :
    Calls Try.prog 38 #[.slice aa xs.length ca] w (OwnEnd xs w) := by
  have HA := Lib.hid ha
  clear ha
  go_enter Try.func38, Try.ntmps38
  go_wp2
  go_loopw [3, 4] (fun v i wr => ∃ k : Nat, k ≤ xs.length ∧ i = .int .i64 k ∧ wr.ownsRow w.heap.size 3 1 v k ((xs.take k).map (Value.int .i64)) ∧ Below w.heap.size w wr) (fun _ i _ => xs.length - (intOf i).toNat)
  case atStart => exact ⟨0, Nat.zero_le _, rfl, World.ownsRow_nil _ _ _ _, Below.refl _ _⟩
  case round =>
    obtain ⟨k, hk, rfl, hown, hbel⟩ := hrel
    by_cases hlt : k < xs.length
    · rcases HA.out with h | ⟨b, o, rfl, hc⟩
      · rw [h] at hlt; simp at hlt
      · obtain ⟨x, c0, HX⟩ := ints_at hc hlt
        have e0 := (hbel.cell (World.block_lt_of_cell? _ _ c0)).trans c0
        clear hc c0
        go_wp2_with (first | (at_builtin; refine wpList_append_any elemInt _ rfl _ _ rfl w.heap.size _ k _ rfl (hown.alloc _) (some ⟨wr.heap.size, 0, none⟩) 1 1 [.int .i64 x] rfl (source_new _ _ _) rfl (by simp [Value.oneCell']) (by unfold maxLen; omega) (by omega) (by have := hbel.size; simp; omega) ?_; intro v' w2 hown2 hgrow _))
        have hb4 : Below w.heap.size w w2 := (hbel.alloc hbel.size _).grown hgrow (by have := hbel.size; simp; omega) (fun j hj => by have := (hown.alloc (Obj.cells #[.int .i64 x] 3)).lt j hj; omega)
        go_wp2
        go_roundw
        case rel => exact ⟨k + 1, by omega, by go_num, by rw [take_snoc' HX.out]; simpa using hown2, hb4⟩
        case measure => simp [intOf]; omega
    · have hke : k = xs.length := by omega
      subst hke
      rw [List.take_length] at hown
      go_wp2
      go_ret
      exact ⟨_, rfl, hown, hbel⟩

/-- an Op's cells -/
def opCells (kind on : Int) (vr : Value) (n place id : Int) (vi : Value) (say : Bool) : Array Value := #[.int .i64 kind, .int .i64 on, vr, .int .i64 n, .int .i64 place, .int .i64 id, vi, .bool say]

set_option maxHeartbeats 2000000 in
theorem on_any {w : World} {bk : Nat} {a : Option Addr} {c len : Nat} (h0 : w.cell? ⟨bk, 0, none⟩ = some (.slice a len c)) (hpos : 0 < len) (hlen : len ≤ 1000000) (kind on : Int) (ra : Option Addr) (rn rc : Nat) (n place id : Int) (ia : Option Addr) (inn ic : Nat) (say : Bool) :
    Calls Try.prog 50 #[.pointer (some ⟨bk, 0, none⟩), .agg (opCells kind on (.slice ra rn rc) n place id (.slice ia inn ic) say)] w fun e w' => ∃ k : Nat, k < len ∧ e = .returned (.int .i64 (k : Int)) ∧ Below w.heap.size w w' := by
  unfold opCells
  obtain ⟨W0, hW0⟩ : ∃ W, W = w.alloc (.cells #[.int .i64 kind, .int .i64 on, .slice ra rn rc, .int .i64 n, .int .i64 place, .int .i64 id, .slice ia inn ic, .bool say] 54) := ⟨_, rfl⟩
  have hbw : Below w.heap.size w W0 := by rw [hW0]; exact (Below.refl _ _).alloc (Nat.le_refl _) _
  obtain ⟨b, hb⟩ : ∃ b, b = w.heap.size := ⟨_, rfl⟩
  have x1 : W0.cell? ⟨b, 1, none⟩ = some (.int .i64 on) := by rw [hW0, hb]; simp
  have y0 := on_cell hbw h0
  obtain ⟨r, hr⟩ : ∃ r, Int.tmod on (len : Int) = r := ⟨_, rfl⟩
  have hr1 : -(len : Int) < r ∧ r < (len : Int) := by
    rw [← hr]
    constructor
    · have h := Int.tmod_lt_of_pos (-on) (show (0 : Int) < len by omega)
      rw [Int.neg_tmod] at h
      omega
    · exact Int.tmod_lt_of_pos on (by omega)
  have HW0 := Lib.hid hW0
  have HB := Lib.hid hb
  have hl0 : ¬ len = 0 := by omega
  clear h0 hW0 hb
  go_enter Try.func50, Try.ntmps50
  go_upto_region 1 with fail
  rw [← HW0.out, ← HB.out]
  go_quiet (fail)
  have hbq : Below w.heap.size w (W0.drewN nq) := below_drewN hbw _
  by_cases hneg : r < 0
  · have hd : decide (r < 0) = true := by simpa using hneg
    have y1 : (W0.drewN nq).cell? ⟨bk, 0, none⟩ = some (.slice a len c) := on_cell (below_drewN (Below.refl _ _) _) y0
    obtain ⟨k, hk⟩ : ∃ k : Nat, r + (len : Int) = (k : Int) := ⟨(r + len).toNat, by omega⟩
    go_wp2_with fail
    go_ret
    exact ⟨k, by omega, by first | rfl | (rw [hk]; rfl), hbq⟩
  · have hd : decide (r < 0) = false := by simpa using hneg
    obtain ⟨k, hk⟩ : ∃ k : Nat, r = (k : Int) := ⟨r.toNat, by omega⟩
    go_wp2_with fail
    go_ret
    exact ⟨k, by omega, by first | rfl | (rw [hk]; rfl), hbq⟩
end Go.Proofs.Ytgodidoibcomcaa.Bk
