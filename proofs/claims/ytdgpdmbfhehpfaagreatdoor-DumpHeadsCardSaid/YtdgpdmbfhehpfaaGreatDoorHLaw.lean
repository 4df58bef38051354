/-
  The law DumpHeads: the document's Head and the program's answer alike at any bytes; and the run of 'taken'.
-/
import Derived.Test.YtdgpdmbfhehpfaaGreatDoorHRef
import Derived.Test.YtdgpdmbfhehpfaaGreatDoorTaken
namespace Go.Proofs.YtdgpdmbfhehpfaaGreatDoor
open Go.RowKit
set_option linter.all false

theorem Reads.lt {W : World} (h : Reads W) : 2 < W.heap.size := by
  obtain ⟨B, o, cap, hs, _⟩ := h.signs
  exact World.block_lt_of_cell? _ _ hs

theorem Reads.keep {W W' : World} (h : Reads W) (hb : Below W.heap.size W W') : Reads W' := by
  have hl := h.lt
  refine ⟨fun k hk => (hb.cell (p := ⟨0, 0 + k, none⟩) (Nat.lt_trans (show (0 : Nat) < 2 by decide) hl)).trans (h.table k hk), ?_⟩
  obtain ⟨B, o, cap, hs, hc, hr⟩ := h.signs
  refine ⟨B, o, cap, (hb.cell (p := ⟨2, 0, none⟩) hl).trans hs, hc, fun k hk => ?_⟩
  have h0 := hr 0 (by decide)
  have hB : B < W.heap.size := World.block_lt_of_cell? _ _ (h0.trans rfl)
  exact (hb.cell (p := ⟨B, o + k, none⟩) hB).trans (hr k hk)

theorem Reads.tabbed {W : World} (h : Reads W) : Tabbed W := by
  intro k hk
  have := h.table k hk
  rw [Nat.zero_add] at this
  rw [this]
  have hk' : k = 0 ∨ k = 1 ∨ k = 2 ∨ k = 3 ∨ k = 4 ∨ k = 5 ∨ k = 6 ∨ k = 7 ∨ k = 8 ∨ k = 9 ∨ k = 10 ∨ k = 11 ∨ k = 12 ∨ k = 13 ∨ k = 14 ∨ k = 15 := by omega
  rcases hk' with rfl | rfl | rfl | rfl | rfl | rfl | rfl | rfl | rfl | rfl | rfl | rfl | rfl | rfl | rfl | rfl <;> rfl

theorem ho_ok {d : ByteArray} {e : Ending} (h : refuse d = 0) (H : HeadOut d e) : e = .returned (.tuple #[.string (d.extract 32 (32 + nA d)), .string (d.extract (32 + nA d) (32 + nA d + nB d)), .int .i64 (nN d : Nat), .int .i64 0]) :=
  (H.resolve_right fun x => x.1 h).2
theorem ho_bad {d : ByteArray} {e : Ending} (h : refuse d ≠ 0) (H : HeadOut d e) : e = .returned (.tuple #[.string ⟨#[]⟩, .string ⟨#[]⟩, .int .i64 0, .int .i64 (refuse d : Nat)]) :=
  (H.resolve_left fun x => h x.1).2

/-- one answer -/
theorem one_out {d : ByteArray} : ∃ s t : ByteArray, ∃ n r : Int, ∀ e, HeadOut d e → e = .returned (.tuple #[.string s, .string t, .int .i64 n, .int .i64 r]) := by
  by_cases h : refuse d = 0
  · exact ⟨_, _, _, _, fun e H => ho_ok h H⟩
  · exact ⟨_, _, _, _, fun e H => ho_bad h H⟩

set_option maxHeartbeats 2000000 in
theorem law_any (d : ByteArray) (w : World) (hsz : d.size ≤ 140737488351232) (hR : Reads w) :
    Calls Tryz.prog 3 #[.string d] w fun e w' => e = .returned (.bool true) ∧ Below w.heap.size w w' := by
  obtain ⟨s, t, n, r, ho⟩ := @one_out d
  go_enter Tryz.func3, Tryz.ntmps3
  go_upto_region 2 with (go_at_call 4; (with_reducible refine (refHead_any d _ hsz).mono ?_); rintro e w1 ⟨he, b1⟩; obtain rfl := ho e he)
  have hR1 := hR.keep b1
  go_upto_region 3 with (go_at_call 5; (with_reducible refine (head_any d _ hsz hR1.tabbed (Nat.lt_trans (by decide) hR1.lt)).mono ?_); rintro e w2 ⟨he, b2⟩; obtain rfl := ho e he)
  have b3 := b1.trans (b2.mono b1.size)
  have hR2 := hR1.keep b2
  go_wp2_with (go_at_call 6; (with_reducible refine (taken_any hR2).mono ?_); rintro e w3 ⟨rfl, b4⟩)
  go_ret
  exact ⟨rfl, b3.trans (b4.mono b3.size)⟩

end Go.Proofs.YtdgpdmbfhehpfaaGreatDoor
