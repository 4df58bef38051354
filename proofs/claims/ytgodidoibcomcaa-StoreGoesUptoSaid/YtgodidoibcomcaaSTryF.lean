/-
  What the function does that the law StoreTry hands to Try.
-/
import Derived.Test.YtgodidoibcomcaaSTry
import Derived.Test.YtgodidoibcomcaaSBack
namespace Go.Proofs.Ytgodidoibcomcaa
open Go.RowKit

theorem app_at {α : Type} (X C : List α) (i : Nat) : (X ++ C)[X.length + i]? = C[i]? := by
  rw [List.getElem?_append_right (by omega)]
  congr 1
  omega
theorem app_set {α : Type} (X C : List α) (i : Nat) (x : α) : (X ++ C).set (X.length + i) x = X ++ C.set i x := by
  rw [List.set_append_right _ _ (by omega)]
  congr 2
  omega

/-- the variables that the function caught, in the order of their making, the last one first -/
def tryBoxes (bs bl ba bb bn sb : Nat) (ar : List Int) (aA aB : Option Addr) (cA cB : Nat) (A B : List Row) (seen : Int) : List Box :=
  [(bn, .cells #[.int .i64 seen] 3), (bb, .cells #[.slice aB B.length cB] 29), (ba, .cells #[.slice aA A.length cA] 29), (bl, .cells #[.int .i64 ((ar.length : Int) + 1)] 3), (bs, .cells #[.pointer (some ⟨sb, 0, none⟩)] 25)]

def TryPost (bs bl ba bb bn sb : Nat) (ar : List Int) (aA aB : Option Addr) (cA cB : Nat) (A B : List Row) (L : List RSl) (n : Nat) (in6 : Bool) (say : Bool) (rows2 : List Row) (ls2 : List (Nat × Int)) (k n2 : Nat) (S2 : List Ent) (L2 : List RSl) (C2 : List Box) : Prop :=
  say = in6 ∧ rows2 = B ∧ ls2 = [] ∧ k = A.length ∧ n2 = n + B.length ∧ S2 = [] ∧ L2 = L ∧ C2 = tryBoxes bs bl ba bb bn sb ar aA aB cA cB A B 1

set_option maxHeartbeats 4000000 in
set_option maxRecDepth 8000 in
theorem tryfn_any {w0 : World} {sb bs bl ba bb bn bi : Nat} {ar : List Int} {aA aB : Option Addr} {cA cB n : Nat} {A B : List Row} {L : List RSl} (in6 : Bool) (hin : ∀ W : World, Below w0.heap.size w0 W → W.cell? ⟨bi, 6, none⟩ = some (.bool in6))
    (hJ : joinedL A B = B) (hAB : A.length ≤ B.length) (hfit : ∀ r ∈ B, FitsRow (ar ++ [0]) r) (hB : n + B.length ≤ 100000000000) (hl : ar.length < 128) (hL : (aB, cB, B) ∈ L) :
    TryFn w0 1 sb (ar ++ [0]) A [] n [] L (tryBoxes bs bl ba bb bn sb ar aA aB cA cB A B 0) 24 #[.pointer (some ⟨bs, 0, none⟩), .pointer (some ⟨bb, 0, none⟩), .pointer (some ⟨ba, 0, none⟩), .pointer (some ⟨bl, 0, none⟩), .pointer (some ⟨bn, 0, none⟩), .pointer (some ⟨bi, 0, none⟩)]
      (TryPost bs bl ba bb bn sb ar aA aB cA cB A B L n in6) := by
  intro τ1 w1 b5 X E
  have HE := Lib.hid E
  have HJ := Lib.hid hJ
  have HFit := Lib.hid hfit
  have HIn := Lib.hid hin
  obtain ⟨c0, -⟩ := E.cell (k := X.length + 4) (by rw [app_at]; rfl) (j := 0) rfl
  obtain ⟨c1, -⟩ := E.cell (k := X.length + 1) (by rw [app_at]; rfl) (j := 0) rfl
  simp only [List.getElem_toArray, List.getElem_cons_zero] at c0 c1
  have cK := Lib.hid (env_add E (by decide) (fun z hz => by cases hz) hL hfit hB hJ)
  clear E hJ hfit hin
  go_enter Try.func24, Try.ntmps24
  go_wp2_with fail
  with_reducible refine cK.out.mono ?_
  rintro e w2 ⟨rfl, τ2, E2⟩
  obtain ⟨c0, -⟩ := E2.cell (k := X.length + 4) (by rw [app_at]; rfl) (j := 0) rfl
  obtain ⟨c1, -⟩ := E2.cell (k := X.length + 1) (by rw [app_at]; rfl) (j := 0) rfl
  obtain ⟨c2, -⟩ := E2.cell (k := X.length + 2) (by rw [app_at]; rfl) (j := 0) rfl
  obtain ⟨c3, -⟩ := E2.cell (k := X.length + 3) (by rw [app_at]; rfl) (j := 0) rfl
  simp only [List.getElem_toArray, List.getElem_cons_zero] at c0 c1 c2 c3
  have HE2 := Lib.hid E2
  have cH := Lib.hid (env_holds E2 ((ar.length : Int) + 1) hL (by omega) (by omega) (by omega))
  clear E2 cK HE
  go_wp2_with fail
  with_reducible refine cH.out.mono ?_
  rintro e w3 ⟨rfl, E3⟩
  obtain ⟨c4, f4⟩ := E3.cell (k := X.length + 0) (by rw [app_at]; rfl) (j := 0) rfl
  simp only [List.getElem_toArray, List.getElem_cons_zero] at c4
  have E4 := E3.setBox (fun z hz => by rw [List.mem_singleton] at hz; subst hz; simp [boxS]) (k := X.length + 0) (b := bn) (cs := #[.int .i64 0]) (T := 3) (fr := (0, 0)) (by rw [app_at]; rfl) 0 (.int .i64 1)
  rw [app_set] at E4
  have c6 := HIn.out _ E4.below
  have HE4 := Lib.hid E4
  clear E3 E4 HE2 cH c0 c1 c2 c3
  go_wp2_with fail
  trace_state
  go_ret
  exact ⟨in6, τ2, B, [], A.length, n + B.length, [], L, _, rfl, HE4.out, rfl, hAB, hB, (fun z hz => by cases hz), (fun z hz => by cases hz), rfl, rfl, rfl, rfl, rfl, rfl, rfl, rfl⟩
end Go.Proofs.Ytgodidoibcomcaa
