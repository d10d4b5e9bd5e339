/-
  The laws' coil: a coil made of small numbers. For numbers of one byte.
-/
import Derived.Test.YtfgkljfoalgkaaaDSane
namespace Go.Proofs.Ytfgkljfoalgkaaa
open Go.RowKit Go.Deep

def coilF (p on off r : Int) : Coil := ⟨p % 40 + 1, on % 9, if on % 9 = 0 then 0 else off % 9, r % 60, -1, 0⟩
theorem coilF_good (p on off r : Int) : goodB (coilF p on off r) = true := by
  rw [goodB_iff]
  unfold coilF
  simp only
  split <;> omega
set_option maxRecDepth 100000 in
set_option maxHeartbeats 1600000 in
theorem coil_any (p on off r : Int) (w : World) (p0 : 0 ≤ p) (p1 : p ≤ 255) (o0 : 0 ≤ on) (o1 : on ≤ 255) (f0 : 0 ≤ off) (f1 : off ≤ 255) (r0 : 0 ≤ r) (r1 : r ≤ 255) :
    Calls Try.prog 23 #[.int .u8 p, .int .u8 on, .int .u8 off, .int .u8 r] w fun e w' =>
    e = .returned (.agg #[.int .i64 (coilF p on off r).pulse, .int .i64 (coilF p on off r).on, .int .i64 (coilF p on off r).off, .int .i64 (coilF p on off r).rest, .int .i64 (coilF p on off r).fuse, .int .i64 (coilF p on off r).cur]) ∧ Below w.heap.size w w' := by
  cases h : (on % 9 == 0) with
  | true =>
    have ho : on % 9 = 0 := eq_of_beq h
    have hF : coilF p on off r = ⟨p % 40 + 1, on % 9, 0, r % 60, -1, 0⟩ := by unfold coilF; rw [if_pos ho]
    rw [hF]
    clear hF ho
    go_enter Try.func23, Try.ntmps23
    go_wp2
    refine bodyPost_ret (v := .agg #[.int .i64 (p % 40 + 1), .int .i64 (on % 9), .int .i64 0, .int .i64 (r % 60), .int .i64 (-1), .int .i64 0]) (by simp [results, Try.results23, go_sem]) rfl ⟨rfl, ?_⟩
    exact ((Below.refl _ _).alloc (Nat.le_refl _) _).alloc (by simp) _
  | false =>
    have ho : on % 9 ≠ 0 := fun e => by rw [e] at h; exact Bool.noConfusion h
    have hF : coilF p on off r = ⟨p % 40 + 1, on % 9, off % 9, r % 60, -1, 0⟩ := by unfold coilF; rw [if_neg ho]
    rw [hF]
    clear hF ho
    go_enter Try.func23, Try.ntmps23
    go_wp2
    refine bodyPost_ret (v := .agg #[.int .i64 (p % 40 + 1), .int .i64 (on % 9), .int .i64 (off % 9), .int .i64 (r % 60), .int .i64 (-1), .int .i64 0]) (by simp [results, Try.results23, go_sem]) rfl ⟨rfl, ?_⟩
    exact ((Below.refl _ _).alloc (Nat.le_refl _) _).alloc (by simp) _
end Go.Proofs.Ytfgkljfoalgkaaa
