/-
  driver.good, driver.Valid: what they hand back, for every list of coils. No condition.
-/
import Derived.Test.YtfgkljfoalgkaaaRows
import Derived.Test.YtfgkljfoalgkaaaData
import Derived.Deep.LoopGhost
namespace Go.Proofs.Ytfgkljfoalgkaaa
open Go.RowKit

theorem within_any (v lo hi : Int) (w : World) : Calls Try.prog 75 #[.int .i64 v, .int .i64 lo, .int .i64 hi] w fun e w' => e = .returned (.bool (within v lo hi)) ∧ w = w' := by
  cases h : decide (lo ≤ v) with
  | true =>
    go_enter Try.func75, Try.ntmps75
    go_wp2
    go_ret
    exact ⟨by unfold within; rw [h, Bool.true_and]; rfl, rfl⟩
  | false =>
    go_enter Try.func75, Try.ntmps75
    go_wp2
    go_ret
    exact ⟨by unfold within; rw [h, Bool.false_and]; rfl, rfl⟩
set_option maxHeartbeats 1600000 in
theorem good_any (p on off r f u : Int) (w : World) : Calls Try.prog 65 #[.agg #[.int .i64 p, .int .i64 on, .int .i64 off, .int .i64 r, .int .i64 f, .int .i64 u]] w fun e w' =>
    e = .returned (.bool (goodB ⟨p, on, off, r, f, u⟩)) ∧ Below w.heap.size w w' := by
  go_enter Try.func65, Try.ntmps65
  go_wp2_with fail
  refine (within_any _ _ _ _).mono ?_
  rintro e w' ⟨rfl, rfl⟩
  cases k0 : within p 1 255 with
  | false =>
    go_wp2
    go_ret
    exact ⟨by have h : goodB ⟨p, on, off, r, f, u⟩ = false := (by unfold goodB; rw [k0]; rfl); rw [h]; rfl, (Below.refl _ _).alloc (Nat.le_refl _) _⟩
  | true =>
    go_wp2_with fail
    refine (within_any _ _ _ _).mono ?_
    rintro e w' ⟨rfl, rfl⟩
    cases k1 : within on 0 16 with
    | false =>
      go_wp2
      go_ret
      exact ⟨by have h : goodB ⟨p, on, off, r, f, u⟩ = false := (by unfold goodB; rw [k0, k1]; rfl); rw [h]; rfl, (Below.refl _ _).alloc (Nat.le_refl _) _⟩
    | true =>
      go_wp2_with fail
      refine (within_any _ _ _ _).mono ?_
      rintro e w' ⟨rfl, rfl⟩
      cases k2 : within off 0 16 with
      | false =>
        go_wp2
        go_ret
        exact ⟨by have h : goodB ⟨p, on, off, r, f, u⟩ = false := (by unfold goodB; rw [k0, k1, k2]; rfl); rw [h]; rfl, (Below.refl _ _).alloc (Nat.le_refl _) _⟩
      | true =>
        cases h4 : decide (0 < on) with
        | true =>
          go_wp2_with fail
          refine (within_any _ _ _ _).mono ?_
          rintro e w' ⟨rfl, rfl⟩
          cases k4 : within r 0 1000 with
          | false =>
            go_wp2
            go_ret
            exact ⟨by have h : goodB ⟨p, on, off, r, f, u⟩ = false := (by unfold goodB; rw [k0, k1, k2, h4, k4]; rfl); rw [h]; rfl, (Below.refl _ _).alloc (Nat.le_refl _) _⟩
          | true =>
            go_wp2_with fail
            refine (within_any _ _ _ _).mono ?_
            rintro e w' ⟨rfl, rfl⟩
            cases k5 : within f (-1) 7 with
            | false =>
              go_wp2
              go_ret
              exact ⟨by have h : goodB ⟨p, on, off, r, f, u⟩ = false := (by unfold goodB; rw [k0, k1, k2, h4, k4, k5]; rfl); rw [h]; rfl, (Below.refl _ _).alloc (Nat.le_refl _) _⟩
            | true =>
              go_wp2_with fail
              refine (within_any _ _ _ _).mono ?_
              rintro e w' ⟨rfl, rfl⟩
              cases k6 : within u 0 200 with
              | false =>
                go_wp2
                go_ret
                exact ⟨by have h : goodB ⟨p, on, off, r, f, u⟩ = false := (by unfold goodB; rw [k0, k1, k2, h4, k4, k5, k6]; rfl); rw [h]; rfl, (Below.refl _ _).alloc (Nat.le_refl _) _⟩
              | true =>
                go_wp2
                go_ret
                exact ⟨by have h : goodB ⟨p, on, off, r, f, u⟩ = true := (by unfold goodB; rw [k0, k1, k2, h4, k4, k5, k6]; rfl); rw [h]; rfl, (Below.refl _ _).alloc (Nat.le_refl _) _⟩
        | false =>
          cases h5 : (off == 0) with
          | false =>
            go_wp2
            go_ret
            exact ⟨by have h : goodB ⟨p, on, off, r, f, u⟩ = false := (by unfold goodB; rw [k0, k1, k2, h4, h5]; rfl); rw [h]; rfl, (Below.refl _ _).alloc (Nat.le_refl _) _⟩
          | true =>
            go_wp2_with fail
            refine (within_any _ _ _ _).mono ?_
            rintro e w' ⟨rfl, rfl⟩
            cases k4 : within r 0 1000 with
            | false =>
              go_wp2
              go_ret
              exact ⟨by have h : goodB ⟨p, on, off, r, f, u⟩ = false := (by unfold goodB; rw [k0, k1, k2, h4, h5, k4]; rfl); rw [h]; rfl, (Below.refl _ _).alloc (Nat.le_refl _) _⟩
            | true =>
              go_wp2_with fail
              refine (within_any _ _ _ _).mono ?_
              rintro e w' ⟨rfl, rfl⟩
              cases k5 : within f (-1) 7 with
              | false =>
                go_wp2
                go_ret
                exact ⟨by have h : goodB ⟨p, on, off, r, f, u⟩ = false := (by unfold goodB; rw [k0, k1, k2, h4, h5, k4, k5]; rfl); rw [h]; rfl, (Below.refl _ _).alloc (Nat.le_refl _) _⟩
              | true =>
                go_wp2_with fail
                refine (within_any _ _ _ _).mono ?_
                rintro e w' ⟨rfl, rfl⟩
                cases k6 : within u 0 200 with
                | false =>
                  go_wp2
                  go_ret
                  exact ⟨by have h : goodB ⟨p, on, off, r, f, u⟩ = false := (by unfold goodB; rw [k0, k1, k2, h4, h5, k4, k5, k6]; rfl); rw [h]; rfl, (Below.refl _ _).alloc (Nat.le_refl _) _⟩
                | true =>
                  go_wp2
                  go_ret
                  exact ⟨by have h : goodB ⟨p, on, off, r, f, u⟩ = true := (by unfold goodB; rw [k0, k1, k2, h4, h5, k4, k5, k6]; rfl); rw [h]; rfl, (Below.refl _ _).alloc (Nat.le_refl _) _⟩
end Go.Proofs.Ytfgkljfoalgkaaa
