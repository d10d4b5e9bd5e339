/-
  fuse.Replace: the states behind a replacement, or the error; for all fuses, states, numbers. No condition.
-/
import Derived.Test.YtfgkljfoalgkaaaFState
namespace Go.Proofs.Ytfgkljfoalgkaaa
open Go.RowKit

set_option maxRecDepth 100000 in
set_option maxHeartbeats 1600000 in
theorem frep_ok (v1 v3 : Value) (n j : Nat) (F : Nat → Fuse) (S : Nat → FS) (w : World) (hS : StateF n F n S) (hj : j < n) (h1 : HoldsF w v1 n F) (h3 : HoldsT w v3 n S) :
    Calls Try.prog 58 #[v1, v3, .int .i64 j] w fun e w' => ∃ v', e = .returned (.tuple #[v', .int .i64 0]) ∧ HoldsT w' v' n (updT S j coldFS) ∧ Below w.heap.size w w' := by
  obtain ⟨a1, cap1, rfl, _⟩ := id h1
  obtain ⟨a3, cap3, rfl, hh3⟩ := id h3
  have hn8 := (validFE_zero hS.1).1
  have H3 := Lib.hid h3
  have HS := Lib.hid (fstate_yes hS _ h1 h3)
  have hwn : w.heap.size ≤ w.heap.size := Nat.le_refl _
  clear h1 h3 hS
  have b1 : (0 : Int) ≤ (j : Int) := by omega
  have b2 : (j : Int) < (n : Int) := by omega
  have b3 : decide ((j : Int) < 0) = false := by simp
  have b4 : decide ((n : Int) ≤ (j : Int)) = false := by simp; omega
  go_enter Try.func58, Try.ntmps58
  go_wp2_with fail
  refine HS.out.mono ?_
  rintro e w1 ⟨rfl, hb1⟩
  have Hb1 := Lib.hid hb1
  clear hb1 HS
  go_wp2_with fail
  refine (clone_fs _ n S _ (by omega) (H3.out.below Hb1.out (Nat.le_refl _))).mono ?_
  rintro e w4 ⟨v', rfl, hown, hb4⟩
  have Hb4 := Lib.hid (Hb1.out.trans (hb4.mono Hb1.out.size))
  obtain ⟨g, cap, rfl, hg, hR⟩ := rowT.of_owns hown (by omega)
  have HR := Lib.hid hR
  have hwg : w.heap.size ≤ g := Nat.le_trans Hb1.out.size hg
  have f0 := hR.fz (j * 2)
  have f1 := hR.fz (j * 2 + 1)
  have r0 : w4.cell? ⟨g, j * 2, none⟩ = some (.int .i64 (S j).heat) := hR.at hj (k := 0) rfl
  have r1 : w4.cell? ⟨g, j * 2 + 1, none⟩ = some (.bool (S j).blown) := hR.at hj (k := 1) rfl
  have HV := Lib.hid ((rowT.set2 hR hj coldFS).holds cap)
  clear hown hb4 hg hR
  go_wp2
  go_ret2
  exact ⟨_, rfl, HV.out, (Hb4.out.setCell hwg _).setCell hwg _⟩
set_option maxHeartbeats 800000 in
theorem frep_arg (v1 v3 : Value) (n m : Nat) (q : Int) (F : Nat → Fuse) (S : Nat → FS) (w : World) (hS : ¬ StateF n F m S) (h1 : HoldsF w v1 n F) (h3 : HoldsT w v3 m S) :
    Calls Try.prog 58 #[v1, v3, .int .i64 q] w fun e w' => e = .returned (.tuple #[.slice none 0 0, .int .i64 1]) ∧ Below w.heap.size w w' := by
  obtain ⟨a1, cap1, rfl, _⟩ := id h1
  obtain ⟨a3, cap3, rfl, hh3⟩ := id h3
  have HS := Lib.hid (fstate_no hS _ h1 h3)
  clear h1 h3 hS hh3
  go_enter Try.func58, Try.ntmps58
  go_wp2_with fail
  refine HS.out.mono ?_
  rintro e w1 ⟨rfl, hb1⟩
  have Hb1 := Lib.hid hb1
  clear hb1 HS
  go_wp2
  go_ret2
  exact ⟨rfl, Hb1.out⟩
set_option maxHeartbeats 800000 in
theorem frep_fuse (v1 v3 : Value) (n : Nat) (q : Int) (F : Nat → Fuse) (S : Nat → FS) (w : World) (hS : StateF n F n S) (hq : q < 0 ∨ (n : Int) ≤ q) (h1 : HoldsF w v1 n F) (h3 : HoldsT w v3 n S) :
    Calls Try.prog 58 #[v1, v3, .int .i64 q] w fun e w' => e = .returned (.tuple #[.slice none 0 0, .int .i64 43]) ∧ Below w.heap.size w w' := by
  obtain ⟨a1, cap1, rfl, _⟩ := id h1
  obtain ⟨a3, cap3, rfl, hh3⟩ := id h3
  have HS := Lib.hid (fstate_yes hS _ h1 h3)
  clear h1 h3 hS hh3
  cases t1 : decide (q < 0) with
  | true =>
    clear hq
    go_enter Try.func58, Try.ntmps58
    go_wp2_with fail
    refine HS.out.mono ?_
    rintro e w1 ⟨rfl, hb1⟩
    have Hb1 := Lib.hid hb1
    clear hb1 HS
    go_wp2
    go_ret2
    exact ⟨rfl, Hb1.out⟩
  | false =>
    have t2 : decide ((n : Int) ≤ q) = true := by
      have := of_decide_eq_false t1
      simp; omega
    clear hq
    go_enter Try.func58, Try.ntmps58
    go_wp2_with fail
    refine HS.out.mono ?_
    rintro e w1 ⟨rfl, hb1⟩
    have Hb1 := Lib.hid hb1
    clear hb1 HS
    go_wp2
    go_ret2
    exact ⟨rfl, Hb1.out⟩
end Go.Proofs.Ytfgkljfoalgkaaa
