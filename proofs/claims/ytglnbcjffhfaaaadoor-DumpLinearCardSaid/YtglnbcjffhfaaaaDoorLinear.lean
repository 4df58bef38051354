/-
  What the call of DumpLinear does.
-/
import Derived.Test.YtglnbcjffhfaaaaDoorSum
import Derived.Test.YtglnbcjffhfaaaaDoorLin
import Derived.Test.YtglnbcjffhfaaaaDoorInv
import Derived.Test.YtglnbcjffhfaaaaDoorBase
import Derived.Test.YtglnbcjffhfaaaaDoorOps
import Derived.Deep.RegionWith
import Derived.Deep.RegionHeld3
import Derived.Deep.Cut
import Derived.Deep.DeepCutAuto
namespace Go.Proofs.YtglnbcjffhfaaaaDoor
open Go.RowKit

theorem elemByte : Elem Tryd.prog 27 5 (.int .u8 0) 1 1 := ⟨by kernel_rfl, by kernel_rfl, rfl, by decide⟩

/-- the bytes of an exclusive or, so far -/
def dL (a b c : ByteArray) (k : Nat) : List UInt8 := Crc.xors (Crc.xors (a.data.toList.take k) (b.data.toList.take k)) (c.data.toList.take k)
def byteVals (l : List UInt8) : List Value := l.map fun x => Value.int .u8 x.toNat

theorem u8_xor (x y : UInt8) : bits .xor .u8 (x.toNat : Int) (y.toNat : Int) = (((x ^^^ y).toNat : Nat) : Int) := by
  have hx := x.toNat_lt
  have hy := y.toNat_lt
  show IntKind.u8.wrap ((BitVec.ofInt 8 (x.toNat : Int) ^^^ BitVec.ofInt 8 (y.toNat : Int)).toNat : Int) = _
  have e (u : UInt8) : BitVec.ofInt 8 (u.toNat : Int) = u.toBitVec := by
    rw [BitVec.ofInt_natCast]; simp
  rw [e, e, BitVec.toNat_xor, UInt8.toNat_xor]
  have h : x.toNat ^^^ y.toNat < 2 ^ 8 := Nat.xor_lt_two_pow (by omega) (by omega)
  show IntKind.u8.wrap (((x.toNat ^^^ y.toNat : Nat) : Int)) = _
  rw [IntKind.wrap_u8']
  omega

theorem xors_append (l l' m m' : List UInt8) (h : l.length = m.length) : Crc.xors (l ++ l') (m ++ m') = Crc.xors l m ++ Crc.xors l' m' := by
  induction l generalizing m with
  | nil => cases m with
    | nil => rfl
    | cons x m => simp at h
  | cons x l ih => cases m with
    | nil => simp at h
    | cons y m => simp only [List.cons_append, Crc.xors]; rw [ih m (by simpa using h)]

theorem dL_snoc (a b c : ByteArray) (k : Nat) (h1 : k < a.size) (h2 : k < b.size) (h3 : k < c.size) :
    dL a b c (k + 1) = dL a b c k ++ [a[k] ^^^ b[k] ^^^ c[k]] := by
  have l1 : (a.data.toList.take k).length = k := by simp; omega
  have l2 : (b.data.toList.take k).length = k := by simp; omega
  have l3 : (c.data.toList.take k).length = k := by simp; omega
  unfold dL
  rw [Crc.take_snoc _ _ h1, Crc.take_snoc _ _ h2, Crc.take_snoc _ _ h3, xors_append _ _ _ _ (by omega), xors_append _ _ _ _ (by rw [Crc.xors_length _ _ (by omega)]; omega)]
  rfl
theorem byteVals_snoc (a b c : ByteArray) (k : Nat) (h1 : k < a.size) (h2 : k < b.size) (h3 : k < c.size) :
    byteVals (dL a b c k) ++ [.int .u8 (bits .xor .u8 (bits .xor .u8 (a[k].toNat : Int) (b[k].toNat : Int)) (c[k].toNat : Int))] = byteVals (dL a b c (k + 1)) := by
  rw [dL_snoc a b c k h1 h2 h3, u8_xor, u8_xor]
  simp [byteVals]

theorem ext_take (s : ByteArray) (n : Nat) : (s.extract 0 n).data.toList = s.data.toList.take n := by
  obtain ⟨⟨l⟩⟩ := s
  simp [ByteArray.data_extract, List.extract_eq_take_drop]
theorem dL_length (a b c : ByteArray) (k : Nat) (h1 : k ≤ a.size) (h2 : k ≤ b.size) (h3 : k ≤ c.size) : (dL a b c k).length = k := by
  have l1 : (a.data.toList.take k).length = k := by simp; omega
  have l2 : (b.data.toList.take k).length = k := by simp; omega
  have l3 : (c.data.toList.take k).length = k := by simp; omega
  unfold dL
  have := Crc.xors_length _ _ (l1.trans l2.symm)
  rw [Crc.xors_length _ _ (by omega), this, l1]
theorem sum_dL (a b c : ByteArray) (k : Nat) {NA NB NC : Nat} (h1 : k ≤ a.size) (h2 : k ≤ b.size) (h3 : k ≤ c.size) (hA : Crc.sum [(a.extract 0 k).data.toList] = NA) (hB : Crc.sum [(b.extract 0 k).data.toList] = NB) (hC : Crc.sum [(c.extract 0 k).data.toList] = NC) :
    Crc.sum [dL a b c k] = NA ^^^ NB ^^^ NC := by
  have l1 : (a.data.toList.take k).length = k := by simp; omega
  have l2 : (b.data.toList.take k).length = k := by simp; omega
  have l3 : (c.data.toList.take k).length = k := by simp; omega
  rw [ext_take] at hA hB hC
  unfold dL
  rw [Crc.sum_xor _ _ _ (by omega) (by omega), hA, hB, hC]
theorem told_bytes : Crc.sum [(⟨#[49, 50, 51, 52, 53, 54, 55, 56, 57]⟩ : ByteArray).data.toList] = 3421780262 := Crc.sum_told

/-- what each operation of the last line brings about: a value, or a slice of one string -/
def what (a b c : ByteArray) (v : Value) (k ND NA NB NC : Nat) : Nat → Sum Value ByteArray
  | 0 => .inl v
  | 1 => .inl (.string ⟨(dL a b c k).toArray⟩)
  | 2 => .inr ⟨(dL a b c k).toArray⟩
  | 3 => .inl (.int .u32 ND)
  | 4 => .inl (.string a)
  | 5 => .inl (.int .i64 k)
  | 6 => .inl (.string (a.extract 0 k))
  | 7 => .inr (a.extract 0 k)
  | 8 => .inl (.int .u32 NA)
  | 9 => .inl (.string b)
  | 10 => .inl (.int .i64 k)
  | 11 => .inl (.string (b.extract 0 k))
  | 12 => .inr (b.extract 0 k)
  | 13 => .inl (.int .u32 NB)
  | 14 => .inl (.int .u32 (NA ^^^ NB : Nat))
  | 15 => .inl (.string c)
  | 16 => .inl (.int .i64 k)
  | 17 => .inl (.string (c.extract 0 k))
  | 18 => .inr (c.extract 0 k)
  | 19 => .inl (.int .u32 NC)
  | 20 => .inl (.int .u32 (NA ^^^ NB ^^^ NC : Nat))
  | 23 => .inr ⟨#[49, 50, 51, 52, 53, 54, 55, 56, 57]⟩
  | 24 => .inl (.int .u32 (3421780262 : Nat))
  | _ => .inl (.bool true)
def DD (a b c : ByteArray) (v : Value) (k ND NA NB NC : Nat) (i : Nat) (u : Value) (w : World) : Prop :=
  match what a b c v k ND NA NB NC i with
  | .inl x => u = x
  | .inr s => ∃ g, u = .slice (some ⟨g, 0, none⟩) 1 1 ∧ w.cell? ⟨g, 0, none⟩ = some (.string s)
theorem DD_mono (a b c : ByteArray) (v : Value) (k ND NA NB NC : Nat) (i : Nat) (u : Value) (w w' : World) (h : DD a b c v k ND NA NB NC i u w) (hb : Below w.heap.size w w') : DD a b c v k ND NA NB NC i u w' := by
  unfold DD at h ⊢
  generalize what a b c v k ND NA NB NC i = x at *
  cases x
  · exact h
  · obtain ⟨g, h1, h2⟩ := h
    exact ⟨g, h1, (hb.cell (World.block_lt_of_cell? _ _ h2)).trans h2⟩

theorem inj_ds (i j : Nat) (hi : i < 28) (hj : j < 28) (h : (if i = 27 then 6 else 36 + i) = (if j = 27 then 6 else 36 + j)) : i = j := by
  by_cases h1 : i = 27 <;> by_cases h2 : j = 27 <;> simp [h1, h2] at h <;> omega
theorem if_then {c A B : Prop} [Decidable c] (h : c) (a : A) : if c then A else B := by rw [if_pos h]; exact a
theorem wanted_of {ops : Array Oper} {o : Oper} {tmps : Array Value} {j : Nat} {t : Tmp} (hg : o.guard = some (j, true)) (h : (ops[j]?).bind (·.dst) = some t) (h' : tmps[t]? = some (.bool true)) : Region.wanted o (yielded ops tmps) = true := by
  simp [Region.wanted, hg, yielded_of h h']
theorem ne_ds (i t : Nat) (h : t ≠ 6) (h' : t < 36) : (if i = 27 then 6 else 36 + i) ≠ t := by split <;> omega

set_option maxHeartbeats 1000000 in
theorem linear_any (a b c : ByteArray) (w : World) (ha : a.size ≤ 140737488351232) (_hb : b.size ≤ 140737488351232) (_hc : c.size ≤ 140737488351232) (hT : Tabbed w) (hz : 0 < w.heap.size) :
    Calls Tryd.prog 4 #[.string a, .string b, .string c] w fun e w' => e = .returned (.bool true) ∧ Below w.heap.size w w' := by
  obtain ⟨n, hn⟩ : ∃ n, n = min (min a.size b.size) c.size := ⟨_, rfl⟩
  have hna : n ≤ a.size := by omega
  have hnb : n ≤ b.size := by omega
  have hnc : n ≤ c.size := by omega
  have HN := Lib.hid hn
  clear hn
  go_enter Tryd.func4, Tryd.ntmps4
  go_upto_region 1 with fail
  go_cut [7] (fun v wx => v = .int .i64 n ∧ w = wx)
  case first =>
    have hn := HN.out
    go_wp2_with fail
    all_goals (go_meet; exact ⟨by simp; omega, rfl⟩)
  case rest =>
  obtain ⟨rfl, rfl⟩ := hcut
  go_wp2
  go_loopw [8, 18] (fun v i wr => ∃ k : Nat, k ≤ n ∧ i = .int .i64 k ∧ wr.ownsRow w.heap.size 5 1 v k (byteVals (dL a b c k)) ∧ Below w.heap.size w wr) (fun _ i _ => n - (intOf i).toNat)
  case atStart => exact ⟨0, Nat.zero_le _, rfl, World.ownsRow_nil _ _ _ _, Below.refl _ _⟩
  case round =>
    obtain ⟨k, hk, rfl, hown, bel⟩ := hrel
    by_cases hlt : k < n
    · have h1 : k < a.size := by omega
      have h2 : k < b.size := by omega
      have h3 : k < c.size := by omega
      go_wp2
      go_region_held3 (fun w' => True) (exact trivial) (first
        | (refine step_append_any elemByte _ rfl (.tmp 21) (.tmp 33) rfl w.heap.size _ k (byteVals (dL a b c k)) rfl (by exact hown.alloc _) (some ⟨wr.heap.size, 0, none⟩) 1 1 [.int .u8 (bits .xor .u8 (bits .xor .u8 (a[k].toNat : Int) (b[k].toNat : Int)) (c[k].toNat : Int))] rfl (by exact source_new wr [.int .u8 (bits .xor .u8 (bits .xor .u8 (a[k].toNat : Int) (b[k].toNat : Int)) (c[k].toNat : Int))] 5) rfl (by simp [Value.oneCell']) (by unfold maxLen; omega) (by omega) (by have := bel.size; simp; omega) ?_
           intro v' w2 hown2 hgrow _))
      all_goals
        have bel2 : Below w.heap.size w w2 := ((bel.alloc bel.size _).drew).grown hgrow (by have := bel.size; simp; omega) (fun j hj => by have := (hown.alloc (Obj.cells #[.int .u8 0] 5)).lt j hj; omega)
        go_wp2
        go_roundw
        case rel => exact ⟨k + 1, by omega, by go_num, by rw [byteVals_snoc a b c k h1 h2 h3] at hown2; exact hown2, bel2⟩
        case measure => simp [intOf]; omega
    · go_wp2
      --REGION
      obtain rfl : k = n := by omega
      have hconv : ∀ W : World, Below wr.heap.size wr W → (convert 27 9 u8).run Tryd.prog W = .ok (.string ⟨(dL a b c k).toArray⟩) W := fun W hW => conv_row _ _ _ _ _ (dL_length a b c k hna hnb hnc) (owns_below hown hW (Nat.le_refl _))
      have hTw : Tabbed wr := hT.of_below hz bel
      have hzr : 0 < wr.heap.size := Nat.lt_of_lt_of_le hz bel.size
      obtain ⟨NA, hNA⟩ : ∃ N, Crc.sum [(a.extract 0 k).data.toList] = N := ⟨_, rfl⟩
      obtain ⟨NB, hNB⟩ : ∃ N, Crc.sum [(b.extract 0 k).data.toList] = N := ⟨_, rfl⟩
      obtain ⟨NC, hNC⟩ : ∃ N, Crc.sum [(c.extract 0 k).data.toList] = N := ⟨_, rfl⟩
      have hND : Crc.sum [dL a b c k] = NA ^^^ NB ^^^ NC := sum_dL a b c k hna hnb hnc hNA hNB hNC
      have lA : NA < 4294967296 := by rw [← hNA]; exact Crc.sum_lt _
      have lB : NB < 4294967296 := by rw [← hNB]; exact Crc.sum_lt _
      have lC : NC < 4294967296 := by rw [← hNC]; exact Crc.sum_lt _
      have lD : (dL a b c k).length ≤ 9223372036854775807 := by rw [dL_length a b c k hna hnb hnc]; omega
      have belw := bel
      clear hT hz hown bel HN
      refine Go.Inv.wp_region_inv (by kernel_rfl) (fun i => if i = 27 then 6 else 36 + i) ?inj ?hin ?hup (DD a b c u8 k (NA ^^^ NB ^^^ NC) NA NB NC) (fun w' => Below wr.heap.size wr w') (fun w w' => Below w.heap.size w w') (DD_mono _ _ _ _ _ _ _ _ _) ((Below.refl _ _).drew) ?step ?fin
      case inj => intro i j hi hj h; have hi : i < 28 := hi; have hj : j < 28 := hj; exact inj_ds i j hi hj h
      case hin => intro i hi; have hi : i < 28 := hi; show (if i = 27 then 6 else 36 + i) < 63; split <;> omega
      case hup => exact Go.Inv.up_of (by kernel_rfl)
      case step =>
        intro i o a' w' ho hfr hI hD
        have sz := hI.size
        have e0 : a'.tmps[0]? = some (.string a) := (hfr.same 0 (fun i _ => ne_ds i 0 (by decide) (by decide))).trans rfl
        have e1 : a'.tmps[1]? = some (.string b) := (hfr.same 1 (fun i _ => ne_ds i 1 (by decide) (by decide))).trans rfl
        have e2 : a'.tmps[2]? = some (.string c) := (hfr.same 2 (fun i _ => ne_ds i 2 (by decide) (by decide))).trans rfl
        have e7 : a'.tmps[7]? = some (.int .i64 k) := (hfr.same 7 (fun i _ => ne_ds i 7 (by decide) (by decide))).trans rfl
        have e8 : a'.tmps[8]? = some u8 := (hfr.same 8 (fun i _ => ne_ds i 8 (by decide) (by decide))).trans rfl
        match i, ho with
        | 0, ho =>
          injection ho with ho; subst ho
          refine wpOp_step rfl (fun K' hK => ?_)
          rw [if_pos (show Region.wanted _ _ = true from rfl)]
          refine BigFrame.wp_move _ rfl ?_
          rw [eval_of e8]
          exact hK _ _ ⟨_, rfl, rfl, Below.refl _ _, hI⟩
        | 1, ho =>
          injection ho with ho; subst ho
          obtain ⟨v0, d0, s0⟩ := hD { on := 0, ground := .data } (by simp) rfl
          obtain rfl := d0
          have s0 : a'.tmps[36]? = some _ := s0
          refine wpOp_step rfl (fun K' hK => ?_)
          rw [if_pos (show Region.wanted _ _ = true from rfl)]
          have hcv := hconv w' hI
          refine wp_conv rfl rfl (by rw [eval_of s0]; exact hcv) ?_
          exact hK _ _ ⟨_, rfl, rfl, Below.refl _ _, hI⟩
        | 2, ho =>
          injection ho with ho; subst ho
          obtain ⟨v1, d1, s1⟩ := hD { on := 1, ground := .data } (by simp) rfl
          obtain rfl := d1
          have s1 : a'.tmps[37]? = some _ := s1
          refine wpOp_step rfl (fun K' hK => ?_)
          rw [if_pos (show Region.wanted _ _ = true from rfl)]
          refine wp_box rfl (eval_of s1) ?_
          exact hK _ _ ⟨_, rfl, ⟨_, rfl, by simp⟩, (Below.refl _ _).alloc (Nat.le_refl _) _, hI.alloc sz _⟩
        | 3, ho =>
          injection ho with ho; subst ho
          obtain ⟨v2, ⟨g2, rfl, c2⟩, s2⟩ := hD { on := 2, ground := .data } (by simp) rfl
          have s2 : a'.tmps[38]? = some _ := s2
          refine wpOp_step rfl (fun K' hK => ?_)
          rw [if_pos (show Region.wanted _ _ = true from rfl)]
          refine wp_sum rfl (eval_of s2) (N := _) (by show (dL a b c k).toArray.size ≤ _; simpa using lD) c2 (hTw.of_below hzr hI) hND ?_
          exact hK _ _ ⟨_, rfl, rfl, Below.refl _ _, hI⟩
        | 4, ho =>
          injection ho with ho; subst ho
          refine wpOp_step rfl (fun K' hK => ?_)
          rw [if_pos (show Region.wanted _ _ = true from rfl)]
          refine BigFrame.wp_move _ rfl ?_
          rw [eval_of e0]
          exact hK _ _ ⟨_, rfl, rfl, Below.refl _ _, hI⟩
        | 5, ho =>
          injection ho with ho; subst ho
          refine wpOp_step rfl (fun K' hK => ?_)
          rw [if_pos (show Region.wanted _ _ = true from rfl)]
          refine BigFrame.wp_move _ rfl ?_
          rw [eval_of e7]
          exact hK _ _ ⟨_, rfl, rfl, Below.refl _ _, hI⟩
        | 6, ho =>
          injection ho with ho; subst ho
          obtain ⟨v4, d4, s4⟩ := hD { on := 4, ground := .data } (by simp) rfl
          obtain rfl := d4
          have s4 : a'.tmps[40]? = some _ := s4
          obtain ⟨v5, d5, s5⟩ := hD { on := 5, ground := .data } (by simp) rfl
          obtain rfl := d5
          have s5 : a'.tmps[41]? = some _ := s5
          refine wpOp_step rfl (fun K' hK => ?_)
          rw [if_pos (show Region.wanted _ _ = true from rfl)]
          refine wp_cut rfl (eval_of s4) (eval_of s5) hna ?_
          exact hK _ _ ⟨_, rfl, rfl, Below.refl _ _, hI⟩
        | 7, ho =>
          injection ho with ho; subst ho
          obtain ⟨v6, d6, s6⟩ := hD { on := 6, ground := .data } (by simp) rfl
          obtain rfl := d6
          have s6 : a'.tmps[42]? = some _ := s6
          refine wpOp_step rfl (fun K' hK => ?_)
          rw [if_pos (show Region.wanted _ _ = true from rfl)]
          refine wp_box rfl (eval_of s6) ?_
          exact hK _ _ ⟨_, rfl, ⟨_, rfl, by simp⟩, (Below.refl _ _).alloc (Nat.le_refl _) _, hI.alloc sz _⟩
        | 8, ho =>
          injection ho with ho; subst ho
          obtain ⟨v7, ⟨g7, rfl, c7⟩, s7⟩ := hD { on := 7, ground := .data } (by simp) rfl
          have s7 : a'.tmps[43]? = some _ := s7
          refine wpOp_step rfl (fun K' hK => ?_)
          rw [if_pos (show Region.wanted _ _ = true from rfl)]
          refine wp_sum rfl (eval_of s7) (N := _) (by simp; omega) c7 (hTw.of_below hzr hI) hNA ?_
          exact hK _ _ ⟨_, rfl, rfl, Below.refl _ _, hI⟩
        | 9, ho =>
          injection ho with ho; subst ho
          refine wpOp_step rfl (fun K' hK => ?_)
          rw [if_pos (show Region.wanted _ _ = true from rfl)]
          refine BigFrame.wp_move _ rfl ?_
          rw [eval_of e1]
          exact hK _ _ ⟨_, rfl, rfl, Below.refl _ _, hI⟩
        | 10, ho =>
          injection ho with ho; subst ho
          refine wpOp_step rfl (fun K' hK => ?_)
          rw [if_pos (show Region.wanted _ _ = true from rfl)]
          refine BigFrame.wp_move _ rfl ?_
          rw [eval_of e7]
          exact hK _ _ ⟨_, rfl, rfl, Below.refl _ _, hI⟩
        | 11, ho =>
          injection ho with ho; subst ho
          obtain ⟨v9, d9, s9⟩ := hD { on := 9, ground := .data } (by simp) rfl
          obtain rfl := d9
          have s9 : a'.tmps[45]? = some _ := s9
          obtain ⟨v10, d10, s10⟩ := hD { on := 10, ground := .data } (by simp) rfl
          obtain rfl := d10
          have s10 : a'.tmps[46]? = some _ := s10
          refine wpOp_step rfl (fun K' hK => ?_)
          rw [if_pos (show Region.wanted _ _ = true from rfl)]
          refine wp_cut rfl (eval_of s9) (eval_of s10) hnb ?_
          exact hK _ _ ⟨_, rfl, rfl, Below.refl _ _, hI⟩
        | 12, ho =>
          injection ho with ho; subst ho
          obtain ⟨v11, d11, s11⟩ := hD { on := 11, ground := .data } (by simp) rfl
          obtain rfl := d11
          have s11 : a'.tmps[47]? = some _ := s11
          refine wpOp_step rfl (fun K' hK => ?_)
          rw [if_pos (show Region.wanted _ _ = true from rfl)]
          refine wp_box rfl (eval_of s11) ?_
          exact hK _ _ ⟨_, rfl, ⟨_, rfl, by simp⟩, (Below.refl _ _).alloc (Nat.le_refl _) _, hI.alloc sz _⟩
        | 13, ho =>
          injection ho with ho; subst ho
          obtain ⟨v12, ⟨g12, rfl, c12⟩, s12⟩ := hD { on := 12, ground := .data } (by simp) rfl
          have s12 : a'.tmps[48]? = some _ := s12
          refine wpOp_step rfl (fun K' hK => ?_)
          rw [if_pos (show Region.wanted _ _ = true from rfl)]
          refine wp_sum rfl (eval_of s12) (N := _) (by simp; omega) c12 (hTw.of_below hzr hI) hNB ?_
          exact hK _ _ ⟨_, rfl, rfl, Below.refl _ _, hI⟩
        | 14, ho =>
          injection ho with ho; subst ho
          obtain ⟨v8, d8, s8⟩ := hD { on := 8, ground := .data } (by simp) rfl
          obtain rfl := d8
          have s8 : a'.tmps[44]? = some _ := s8
          obtain ⟨v13, d13, s13⟩ := hD { on := 13, ground := .data } (by simp) rfl
          obtain rfl := d13
          have s13 : a'.tmps[49]? = some _ := s13
          refine wpOp_step rfl (fun K' hK => ?_)
          rw [if_pos (show Region.wanted _ _ = true from rfl)]
          refine wp_xor rfl (eval_of s8) (eval_of s13) lA lB ?_
          exact hK _ _ ⟨_, rfl, rfl, Below.refl _ _, hI⟩
        | 15, ho =>
          injection ho with ho; subst ho
          refine wpOp_step rfl (fun K' hK => ?_)
          rw [if_pos (show Region.wanted _ _ = true from rfl)]
          refine BigFrame.wp_move _ rfl ?_
          rw [eval_of e2]
          exact hK _ _ ⟨_, rfl, rfl, Below.refl _ _, hI⟩
        | 16, ho =>
          injection ho with ho; subst ho
          refine wpOp_step rfl (fun K' hK => ?_)
          rw [if_pos (show Region.wanted _ _ = true from rfl)]
          refine BigFrame.wp_move _ rfl ?_
          rw [eval_of e7]
          exact hK _ _ ⟨_, rfl, rfl, Below.refl _ _, hI⟩
        | 17, ho =>
          injection ho with ho; subst ho
          obtain ⟨v15, d15, s15⟩ := hD { on := 15, ground := .data } (by simp) rfl
          obtain rfl := d15
          have s15 : a'.tmps[51]? = some _ := s15
          obtain ⟨v16, d16, s16⟩ := hD { on := 16, ground := .data } (by simp) rfl
          obtain rfl := d16
          have s16 : a'.tmps[52]? = some _ := s16
          refine wpOp_step rfl (fun K' hK => ?_)
          rw [if_pos (show Region.wanted _ _ = true from rfl)]
          refine wp_cut rfl (eval_of s15) (eval_of s16) hnc ?_
          exact hK _ _ ⟨_, rfl, rfl, Below.refl _ _, hI⟩
        | 18, ho =>
          injection ho with ho; subst ho
          obtain ⟨v17, d17, s17⟩ := hD { on := 17, ground := .data } (by simp) rfl
          obtain rfl := d17
          have s17 : a'.tmps[53]? = some _ := s17
          refine wpOp_step rfl (fun K' hK => ?_)
          rw [if_pos (show Region.wanted _ _ = true from rfl)]
          refine wp_box rfl (eval_of s17) ?_
          exact hK _ _ ⟨_, rfl, ⟨_, rfl, by simp⟩, (Below.refl _ _).alloc (Nat.le_refl _) _, hI.alloc sz _⟩
        | 19, ho =>
          injection ho with ho; subst ho
          obtain ⟨v18, ⟨g18, rfl, c18⟩, s18⟩ := hD { on := 18, ground := .data } (by simp) rfl
          have s18 : a'.tmps[54]? = some _ := s18
          refine wpOp_step rfl (fun K' hK => ?_)
          rw [if_pos (show Region.wanted _ _ = true from rfl)]
          refine wp_sum rfl (eval_of s18) (N := _) (by simp; omega) c18 (hTw.of_below hzr hI) hNC ?_
          exact hK _ _ ⟨_, rfl, rfl, Below.refl _ _, hI⟩
        | 20, ho =>
          injection ho with ho; subst ho
          obtain ⟨v14, d14, s14⟩ := hD { on := 14, ground := .data } (by simp) rfl
          obtain rfl := d14
          have s14 : a'.tmps[50]? = some _ := s14
          obtain ⟨v19, d19, s19⟩ := hD { on := 19, ground := .data } (by simp) rfl
          obtain rfl := d19
          have s19 : a'.tmps[55]? = some _ := s19
          refine wpOp_step rfl (fun K' hK => ?_)
          rw [if_pos (show Region.wanted _ _ = true from rfl)]
          refine wp_xor rfl (eval_of s14) (eval_of s19) (Crc.xor_lt lA lB) lC ?_
          exact hK _ _ ⟨_, rfl, rfl, Below.refl _ _, hI⟩
        | 21, ho =>
          injection ho with ho; subst ho
          obtain ⟨v3, d3, s3⟩ := hD { on := 3, ground := .data } (by simp) rfl
          obtain rfl := d3
          have s3 : a'.tmps[39]? = some _ := s3
          obtain ⟨v20, d20, s20⟩ := hD { on := 20, ground := .data } (by simp) rfl
          obtain rfl := d20
          have s20 : a'.tmps[56]? = some _ := s20
          refine wpOp_step rfl (fun K' hK => ?_)
          rw [if_pos (show Region.wanted _ _ = true from rfl)]
          refine wp_eq rfl (eval_of s3) (eval_of s20) ?_
          exact hK _ _ ⟨_, rfl, rfl, Below.refl _ _, hI⟩
        | 22, ho =>
          injection ho with ho; subst ho
          obtain ⟨v21, d21, s21⟩ := hD { on := 21, ground := .data } (by simp) rfl
          obtain rfl := d21
          have s21 : a'.tmps[57]? = some _ := s21
          refine wpOp_step rfl (fun K' hK => ?_)
          rw [if_pos (show Region.wanted _ _ = true from rfl)]
          refine BigFrame.wp_move _ rfl ?_
          rw [eval_of s21]
          exact hK _ _ ⟨_, rfl, rfl, Below.refl _ _, hI⟩
        | 23, ho =>
          injection ho with ho; subst ho
          obtain ⟨v22, d22, s22⟩ := hD { on := 22, ground := .guard } (by simp) rfl
          obtain rfl := d22
          have s22 : a'.tmps[58]? = some _ := s22
          refine wpOp_step rfl (fun K' hK => ?_)
          refine if_then (wanted_of rfl rfl s22) ?_
          refine wp_box rfl rfl ?_
          exact hK _ _ ⟨_, rfl, ⟨_, rfl, by simp⟩, (Below.refl _ _).alloc (Nat.le_refl _) _, hI.alloc sz _⟩
        | 24, ho =>
          injection ho with ho; subst ho
          obtain ⟨v23, ⟨g23, rfl, c23⟩, s23⟩ := hD { on := 23, ground := .data } (by simp) rfl
          have s23 : a'.tmps[59]? = some _ := s23
          obtain ⟨v22, d22, s22⟩ := hD { on := 22, ground := .guard } (by simp) rfl
          obtain rfl := d22
          have s22 : a'.tmps[58]? = some _ := s22
          refine wpOp_step rfl (fun K' hK => ?_)
          refine if_then (wanted_of rfl rfl s22) ?_
          refine wp_sum rfl (eval_of s23) (N := _) (by decide) c23 (hTw.of_below hzr hI) told_bytes ?_
          exact hK _ _ ⟨_, rfl, rfl, Below.refl _ _, hI⟩
        | 25, ho =>
          injection ho with ho; subst ho
          obtain ⟨v24, d24, s24⟩ := hD { on := 24, ground := .data } (by simp) rfl
          obtain rfl := d24
          have s24 : a'.tmps[60]? = some _ := s24
          obtain ⟨v22, d22, s22⟩ := hD { on := 22, ground := .guard } (by simp) rfl
          obtain rfl := d22
          have s22 : a'.tmps[58]? = some _ := s22
          refine wpOp_step rfl (fun K' hK => ?_)
          refine if_then (wanted_of rfl rfl s22) ?_
          refine wp_eq rfl (eval_of s24) (by rfl) ?_
          exact hK _ _ ⟨_, rfl, rfl, Below.refl _ _, hI⟩
        | 26, ho =>
          injection ho with ho; subst ho
          obtain ⟨v22, d22, s22⟩ := hD { on := 22, ground := .data } (by simp) rfl
          obtain rfl := d22
          have s22 : a'.tmps[58]? = some _ := s22
          obtain ⟨v25, d25, s25⟩ := hD { on := 25, ground := .data } (by simp) rfl
          obtain rfl := d25
          have s25 : a'.tmps[61]? = some _ := s25
          refine wpOp_step rfl (fun K' hK => ?_)
          rw [if_pos (show Region.wanted _ _ = true from rfl)]
          refine wp_pick rfl (eval_of s22) (eval_of s25) ?_
          exact hK _ _ ⟨_, rfl, rfl, Below.refl _ _, hI⟩
        | 27, ho =>
          injection ho with ho; subst ho
          obtain ⟨v26, d26, s26⟩ := hD { on := 26, ground := .data } (by simp) rfl
          obtain rfl := d26
          have s26 : a'.tmps[62]? = some _ := s26
          refine wpOp_step rfl (fun K' hK => ?_)
          rw [if_pos (show Region.wanted _ _ = true from rfl)]
          refine BigFrame.wp_assign _ rfl ?_
          rw [eval_of s26]
          exact hK _ _ ⟨_, rfl, rfl, Below.refl _ _, hI⟩
        | n + 28, ho => cases ho
      case fin =>
        intro a' w' hfr hI hD
        obtain ⟨v27, d27, s27⟩ := hD 27 (by decide)
        obtain rfl := d27
        obtain ⟨T, df⟩ := a'
        obtain rfl : df = [] := hfr.defers
        have q27 : T[6]? = some (.bool true) := s27
        clear s27
        clear hfr hD
        go_wp2
        go_ret
        refine ⟨?_, belw.trans (hI.mono belw.size)⟩
        simp [q27]
end Go.Proofs.YtglnbcjffhfaaaaDoor
