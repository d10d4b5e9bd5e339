/-
  The plain steps of a coil: which drive is one of a coil, rest, orders, ticks; driver.fits.
-/
import Derived.Test.YtfgkljfoalgkaaaFlat
namespace Go.Proofs.Ytfgkljfoalgkaaa
open Go.RowKit

def fitsB (c : Coil) (d : Drive) : Bool :=
  cond (d.phase == 0) ((d.left == 0) && !d.held)
    (cond (d.phase == 1) (decide (1 ≤ d.left) && decide (d.left ≤ c.pulse) && (!d.held || decide (0 < c.on)))
      (cond (d.phase == 2) (decide (0 < c.on) && decide (0 ≤ d.left) && decide (d.left < c.on + c.off) && d.held)
        (cond (d.phase == 3) (decide (1 ≤ d.left) && decide (d.left ≤ c.rest) && !d.held) false)))
set_option maxHeartbeats 3200000 in
theorem fits_any (p on off r f u q l : Int) (h : Bool) (b1 : 0 ≤ on) (b2 : on ≤ 16) (b3 : 0 ≤ off) (b4 : off ≤ 16) (w : World) :
    Calls Try.prog 66 #[.agg #[.int .i64 p, .int .i64 on, .int .i64 off, .int .i64 r, .int .i64 f, .int .i64 u], .agg #[.int .i64 q, .int .i64 l, .bool h]] w fun e w' =>
    e = .returned (.bool (fitsB ⟨p, on, off, r, f, u⟩ ⟨q, l, h⟩)) ∧ Below w.heap.size w w' := by
  cases p0 : (q == 0) with
  | true =>
    cases a0 : (l == 0) with
    | true =>
      go_enter Try.func66, Try.ntmps66
      go_wp2
      go_ret
      exact ⟨by have h : fitsB ⟨p, on, off, r, f, u⟩ ⟨q, l, h⟩ = (!h) := (by unfold fitsB; rw [p0, a0]; rfl); rw [h]; rfl, ((Below.refl _ _).alloc (Nat.le_refl _) _).alloc (by simp) _⟩
    | false =>
      go_enter Try.func66, Try.ntmps66
      go_wp2
      go_ret
      exact ⟨by have h : fitsB ⟨p, on, off, r, f, u⟩ ⟨q, l, h⟩ = false := (by unfold fitsB; rw [p0, a0]; rfl); rw [h]; rfl, ((Below.refl _ _).alloc (Nat.le_refl _) _).alloc (by simp) _⟩
  | false =>
    cases p1 : (q == 1) with
    | true =>
      cases a1 : decide (1 ≤ l) with
      | true =>
        cases a2 : decide (l ≤ p) with
        | true =>
          cases h with
          | true =>
            cases a4 : decide (0 < on) with
            | true =>
              go_enter Try.func66, Try.ntmps66
              go_wp2
              go_ret
              exact ⟨by have h : fitsB ⟨p, on, off, r, f, u⟩ ⟨q, l, true⟩ = true := (by unfold fitsB; rw [p0, p1, a1, a2, a4]; rfl); rw [h]; rfl, ((Below.refl _ _).alloc (Nat.le_refl _) _).alloc (by simp) _⟩
            | false =>
              go_enter Try.func66, Try.ntmps66
              go_wp2
              go_ret
              exact ⟨by have h : fitsB ⟨p, on, off, r, f, u⟩ ⟨q, l, true⟩ = false := (by unfold fitsB; rw [p0, p1, a1, a2, a4]; rfl); rw [h]; rfl, ((Below.refl _ _).alloc (Nat.le_refl _) _).alloc (by simp) _⟩
          | false =>
            go_enter Try.func66, Try.ntmps66
            go_wp2
            go_ret
            exact ⟨by have h : fitsB ⟨p, on, off, r, f, u⟩ ⟨q, l, false⟩ = true := (by unfold fitsB; rw [p0, p1, a1, a2]; rfl); rw [h]; rfl, ((Below.refl _ _).alloc (Nat.le_refl _) _).alloc (by simp) _⟩
        | false =>
          go_enter Try.func66, Try.ntmps66
          go_wp2
          go_ret
          exact ⟨by have h : fitsB ⟨p, on, off, r, f, u⟩ ⟨q, l, h⟩ = false := (by unfold fitsB; rw [p0, p1, a1, a2]; rfl); rw [h]; rfl, ((Below.refl _ _).alloc (Nat.le_refl _) _).alloc (by simp) _⟩
      | false =>
        go_enter Try.func66, Try.ntmps66
        go_wp2
        go_ret
        exact ⟨by have h : fitsB ⟨p, on, off, r, f, u⟩ ⟨q, l, h⟩ = false := (by unfold fitsB; rw [p0, p1, a1]; rfl); rw [h]; rfl, ((Below.refl _ _).alloc (Nat.le_refl _) _).alloc (by simp) _⟩
    | false =>
      cases p2 : (q == 2) with
      | true =>
        cases a5 : decide (0 < on) with
        | true =>
          cases a6 : decide (0 ≤ l) with
          | true =>
            cases a7 : decide (l < on + off) with
            | true =>
              go_enter Try.func66, Try.ntmps66
              go_wp2
              go_ret
              exact ⟨by have h : fitsB ⟨p, on, off, r, f, u⟩ ⟨q, l, h⟩ = h := (by unfold fitsB; rw [p0, p1, p2, a5, a6, a7]; rfl); rw [h]; rfl, ((Below.refl _ _).alloc (Nat.le_refl _) _).alloc (by simp) _⟩
            | false =>
              go_enter Try.func66, Try.ntmps66
              go_wp2
              go_ret
              exact ⟨by have h : fitsB ⟨p, on, off, r, f, u⟩ ⟨q, l, h⟩ = false := (by unfold fitsB; rw [p0, p1, p2, a5, a6, a7]; rfl); rw [h]; rfl, ((Below.refl _ _).alloc (Nat.le_refl _) _).alloc (by simp) _⟩
          | false =>
            go_enter Try.func66, Try.ntmps66
            go_wp2
            go_ret
            exact ⟨by have h : fitsB ⟨p, on, off, r, f, u⟩ ⟨q, l, h⟩ = false := (by unfold fitsB; rw [p0, p1, p2, a5, a6]; rfl); rw [h]; rfl, ((Below.refl _ _).alloc (Nat.le_refl _) _).alloc (by simp) _⟩
        | false =>
          go_enter Try.func66, Try.ntmps66
          go_wp2
          go_ret
          exact ⟨by have h : fitsB ⟨p, on, off, r, f, u⟩ ⟨q, l, h⟩ = false := (by unfold fitsB; rw [p0, p1, p2, a5]; rfl); rw [h]; rfl, ((Below.refl _ _).alloc (Nat.le_refl _) _).alloc (by simp) _⟩
      | false =>
        cases p3 : (q == 3) with
        | true =>
          cases a9 : decide (1 ≤ l) with
          | true =>
            cases b1 : decide (l ≤ r) with
            | true =>
              go_enter Try.func66, Try.ntmps66
              go_wp2
              go_ret
              exact ⟨by have h : fitsB ⟨p, on, off, r, f, u⟩ ⟨q, l, h⟩ = (!h) := (by unfold fitsB; rw [p0, p1, p2, p3, a9, b1]; rfl); rw [h]; rfl, ((Below.refl _ _).alloc (Nat.le_refl _) _).alloc (by simp) _⟩
            | false =>
              go_enter Try.func66, Try.ntmps66
              go_wp2
              go_ret
              exact ⟨by have h : fitsB ⟨p, on, off, r, f, u⟩ ⟨q, l, h⟩ = false := (by unfold fitsB; rw [p0, p1, p2, p3, a9, b1]; rfl); rw [h]; rfl, ((Below.refl _ _).alloc (Nat.le_refl _) _).alloc (by simp) _⟩
          | false =>
            go_enter Try.func66, Try.ntmps66
            go_wp2
            go_ret
            exact ⟨by have h : fitsB ⟨p, on, off, r, f, u⟩ ⟨q, l, h⟩ = false := (by unfold fitsB; rw [p0, p1, p2, p3, a9]; rfl); rw [h]; rfl, ((Below.refl _ _).alloc (Nat.le_refl _) _).alloc (by simp) _⟩
        | false =>
          go_enter Try.func66, Try.ntmps66
          go_wp2
          go_ret
          exact ⟨by have h : fitsB ⟨p, on, off, r, f, u⟩ ⟨q, l, h⟩ = false := (by unfold fitsB; rw [p0, p1, p2, p3]; rfl); rw [h]; rfl, ((Below.refl _ _).alloc (Nat.le_refl _) _).alloc (by simp) _⟩
theorem fits_c (c : Coil) (d : Drive) (hc : goodB c = true) (w : World) :
    Calls Try.prog 66 #[.agg #[.int .i64 c.pulse, .int .i64 c.on, .int .i64 c.off, .int .i64 c.rest, .int .i64 c.fuse, .int .i64 c.cur], .agg #[.int .i64 d.phase, .int .i64 d.left, .bool d.held]] w fun e w' =>
    e = .returned (.bool (fitsB c d)) ∧ Below w.heap.size w w' := by
  have h := (goodB_iff c).1 hc
  exact fits_any c.pulse c.on c.off c.rest c.fuse c.cur d.phase d.left d.held (by omega) (by omega) (by omega) (by omega) w
def restF (c : Coil) : Drive := cond (c.rest == 0) idle ⟨3, c.rest, false⟩
theorem resting_any (p on off r f u : Int) (w : World) :
    Calls Try.prog 76 #[.agg #[.int .i64 p, .int .i64 on, .int .i64 off, .int .i64 r, .int .i64 f, .int .i64 u]] w fun e w' =>
    e = .returned (.agg #[.int .i64 (restF ⟨p, on, off, r, f, u⟩).phase, .int .i64 (restF ⟨p, on, off, r, f, u⟩).left, .bool (restF ⟨p, on, off, r, f, u⟩).held]) ∧ Below w.heap.size w w' := by
  cases h0 : (r == 0) with
  | true =>
    have h : restF ⟨p, on, off, r, f, u⟩ = idle := by unfold restF; rw [h0]; rfl
    rw [h]
    clear h
    go_enter Try.func76, Try.ntmps76
    go_wp2
    refine bodyPost_ret (v := .agg #[.int .i64 0, .int .i64 0, .bool false]) (by simp [results, Try.results76, go_sem]) rfl ⟨rfl, ?_⟩
    repeat (refine Below.setCell ?_ (show w.heap.size ≤ w.heap.size + 1 from Nat.le_add_right _ 1) _)
    exact ((Below.refl _ w).alloc (Nat.le_refl _) _).alloc (by simp) _
  | false =>
    have h : restF ⟨p, on, off, r, f, u⟩ = ⟨3, r, false⟩ := by unfold restF; rw [h0]; rfl
    rw [h]
    clear h
    go_enter Try.func76, Try.ntmps76
    go_wp2
    refine bodyPost_ret (v := .agg #[.int .i64 3, .int .i64 r, .bool false]) (by simp [results, Try.results76, go_sem]) rfl ⟨rfl, ?_⟩
    repeat (refine Below.setCell ?_ (show w.heap.size ≤ w.heap.size + 1 from Nat.le_add_right _ 1) _)
    exact ((Below.refl _ w).alloc (Nat.le_refl _) _).alloc (by simp) _
end Go.Proofs.Ytfgkljfoalgkaaa
