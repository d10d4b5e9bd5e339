/-
  The laws' Same of fuse states (equal ones), small: what they hand back. No condition.
-/
import Derived.Test.YtfgkljfoalgkaaaFRow
namespace Go.Proofs.Ytfgkljfoalgkaaa
open Go.RowKit

set_option maxHeartbeats 1600000 in
theorem sameT (v1 v2 : Value) (n : Nat) (S S' : Nat → FS) (w : World) (hn : n ≤ 100000) (h1 : HoldsT w v1 n S) (h2 : HoldsT w v2 n S') (he : ∀ i, i < n → S i = S' i) :
    Calls Try.prog 48 #[v1, v2] w fun e w' => e = .returned (.bool true) ∧ Below w.heap.size w w' := by
  have h2 := h2.congr fun i hi => (he i hi).symm
  obtain ⟨a1, cap1, rfl, _⟩ := id h1
  obtain ⟨a2, cap2, rfl, _⟩ := id h2
  have H1 := Lib.hid h1
  have H2 := Lib.hid h2
  clear h1 h2 he
  go_enter Try.func48, Try.ntmps48
  go_wp2
  go_loopg [5] n (fun g i wr => ∃ k : Nat, k ≤ n ∧ g = n - k ∧ i = .int .i64 k ∧ Below w.heap.size w wr)
  case atStart => exact ⟨0, by omega, rfl, rfl, Below.refl _ _⟩
  case round =>
    obtain ⟨k, hk, hg, rfl, hb⟩ := hrel
    have Hg := Lib.hid hg
    have Hb := Lib.hid hb
    have hsz := hb.size
    clear hg hb
    by_cases hkn : k < n
    · obtain ⟨g1, o1, rfl, l1, hc1⟩ := H1.out.open2 hkn
      obtain ⟨g2, o2, rfl, l2, hc2⟩ := H2.out.open2 hkn
      obtain ⟨d0, d1⟩ := fs_cells (hc1 _ Hb.out) hkn
      obtain ⟨e0, e1⟩ := fs_cells (hc2 _ Hb.out) hkn
      have b1 : (0 : Int) ≤ (k : Int) := by omega
      have b2 : (k : Int) < (n : Int) := by omega
      have b3 : decide ((k : Int) < (n : Int)) = true := by simp; omega
      clear hc1 hc2
      go_wp2_with fail
      go_quiet (fail)
      go_wp2
      go_roundg (n - (k + 1))
      case measure => have := Hg.out; omega
      case rel => exact ⟨k + 1, by omega, rfl, by go_num, below_drewN Hb.out _⟩
    · have b3 : decide ((k : Int) < (n : Int)) = false := by simp; omega
      go_wp2
      go_ret
      exact ⟨rfl, Hb.out⟩
/-- A panel's value. -/
abbrev panel (v1 v2 v3 : Value) : Value := .agg #[v1, v2, v3]
def smallB (n c m : Nat) : Bool := decide (n ≤ 12) && decide (c ≤ 40) && decide (m ≤ 12)
set_option maxHeartbeats 800000 in
theorem small_any (a1 a2 a3 : Option Addr) (n c m k1 k2 k3 : Nat) (w : World) :
    Calls Try.prog 42 #[panel (.slice a1 n k1) (.slice a2 c k2) (.slice a3 m k3)] w fun e w' => e = .returned (.bool (smallB n c m)) ∧ Below w.heap.size w w' := by
  have q0 : decide ((n : Int) ≤ 12) = decide (n ≤ 12) := by rw [Bool.eq_iff_iff, decide_eq_true_eq, decide_eq_true_eq]; omega
  have q1 : decide ((c : Int) ≤ 40) = decide (c ≤ 40) := by rw [Bool.eq_iff_iff, decide_eq_true_eq, decide_eq_true_eq]; omega
  have q2 : decide ((m : Int) ≤ 12) = decide (m ≤ 12) := by rw [Bool.eq_iff_iff, decide_eq_true_eq, decide_eq_true_eq]; omega
  have HB := Lib.hid (show Below w.heap.size w (w.alloc (.cells #[.slice a1 n k1, .slice a2 c k2, .slice a3 m k3] 66)) from (Below.refl _ _).alloc (Nat.le_refl _) _)
  cases t0 : decide (n ≤ 12) with
  | false =>
    have HE := Lib.hid (show smallB n c m = false by unfold smallB; rw [t0]; rfl)
    rw [t0] at q0
    clear q1 q2 t0
    go_enter Try.func42, Try.ntmps42
    go_wp2
    go_ret
    exact ⟨by rw [HE.out]; rfl, HB.out⟩
  | true =>
    cases t1 : decide (c ≤ 40) with
    | false =>
      have HE := Lib.hid (show smallB n c m = false by unfold smallB; rw [t0, t1]; rfl)
      rw [t0] at q0
      rw [t1] at q1
      clear q2 t0 t1
      go_enter Try.func42, Try.ntmps42
      go_wp2
      go_ret
      exact ⟨by rw [HE.out]; rfl, HB.out⟩
    | true =>
      have HE := Lib.hid (show smallB n c m = decide (m ≤ 12) by unfold smallB; rw [t0, t1]; rfl)
      rw [t0] at q0
      rw [t1] at q1
      generalize decide (m ≤ 12) = t2 at *
      clear t0 t1
      go_enter Try.func42, Try.ntmps42
      go_wp2
      go_ret
      exact ⟨by rw [HE.out]; rfl, HB.out⟩
end Go.Proofs.Ytfgkljfoalgkaaa
