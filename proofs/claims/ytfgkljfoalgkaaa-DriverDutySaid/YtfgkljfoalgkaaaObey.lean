/-
  driver.obey: the drive of a coil behind an order. No condition.
-/
import Derived.Test.YtfgkljfoalgkaaaStep
namespace Go.Proofs.Ytfgkljfoalgkaaa
open Go.RowKit

def obeyF (c : Coil) (d : Drive) (k : Int) : Drive :=
  cond ((d.phase == 0) && ((k == 1) || (k == 2))) ⟨1, c.pulse, k == 2⟩
    (cond ((d.phase == 1) && ((k == 2) || (k == 3))) ⟨d.phase, d.left, k == 2⟩
      (cond (((d.phase == 2) && (k == 3)) || (((d.phase == 1) || (d.phase == 2)) && (k == 4))) (restF c) d))
set_option maxHeartbeats 3200000 in
theorem obey_any (p on off r f u q l k : Int) (h : Bool) (w : World) :
    Calls Try.prog 68 #[.agg #[.int .i64 p, .int .i64 on, .int .i64 off, .int .i64 r, .int .i64 f, .int .i64 u], .agg #[.int .i64 q, .int .i64 l, .bool h], .int .i64 k] w fun e w' =>
    e = .returned (.agg #[.int .i64 (obeyF ⟨p, on, off, r, f, u⟩ ⟨q, l, h⟩ k).phase, .int .i64 (obeyF ⟨p, on, off, r, f, u⟩ ⟨q, l, h⟩ k).left, .bool (obeyF ⟨p, on, off, r, f, u⟩ ⟨q, l, h⟩ k).held]) ∧ Below w.heap.size w w' := by
  by_cases Q0 : q = 0
  · subst Q0
    by_cases K1 : k = 1
    · subst K1
      have HX := Lib.hid (show obeyF ⟨p, on, off, r, f, u⟩ ⟨0, l, h⟩ 1 = ⟨1, p, false⟩ from rfl)
      go_enter Try.func68, Try.ntmps68
      go_wp2
      go_quiet (fail)
      go_wp2
      refine bodyPost_ret (v := .agg #[.int .i64 1, .int .i64 p, .bool false]) (by simp [results, Try.results68, go_sem]) rfl ⟨by rw [HX.out], ?_⟩
      repeat (refine Below.setCell ?_ (by first | exact Nat.le_add_right _ 1 | exact Nat.le_add_right _ 2) _)
      exact below_drewN ((((Below.refl _ w).alloc (Nat.le_refl _) _).alloc (by simp) _).alloc (by simp; omega) _) _
    by_cases K2 : k = 2
    · subst K2
      have HX := Lib.hid (show obeyF ⟨p, on, off, r, f, u⟩ ⟨0, l, h⟩ 2 = ⟨1, p, true⟩ from rfl)
      go_enter Try.func68, Try.ntmps68
      go_wp2
      go_quiet (fail)
      go_wp2
      refine bodyPost_ret (v := .agg #[.int .i64 1, .int .i64 p, .bool true]) (by simp [results, Try.results68, go_sem]) rfl ⟨by rw [HX.out], ?_⟩
      repeat (refine Below.setCell ?_ (by first | exact Nat.le_add_right _ 1 | exact Nat.le_add_right _ 2) _)
      exact below_drewN ((((Below.refl _ w).alloc (Nat.le_refl _) _).alloc (by simp) _).alloc (by simp; omega) _) _
    by_cases K3 : k = 3
    · subst K3
      have HX := Lib.hid (show obeyF ⟨p, on, off, r, f, u⟩ ⟨0, l, h⟩ 3 = ⟨0, l, h⟩ from rfl)
      go_enter Try.func68, Try.ntmps68
      go_wp2
      go_quiet (fail)
      go_wp2
      refine bodyPost_ret (v := .agg #[.int .i64 0, .int .i64 l, .bool h]) (by simp [results, Try.results68, go_sem]) rfl ⟨by rw [HX.out], ?_⟩
      repeat (refine Below.setCell ?_ (by first | exact Nat.le_add_right _ 1 | exact Nat.le_add_right _ 2) _)
      exact below_drewN ((((Below.refl _ w).alloc (Nat.le_refl _) _).alloc (by simp) _).alloc (by simp; omega) _) _
    by_cases K4 : k = 4
    · subst K4
      have HX := Lib.hid (show obeyF ⟨p, on, off, r, f, u⟩ ⟨0, l, h⟩ 4 = ⟨0, l, h⟩ from rfl)
      go_enter Try.func68, Try.ntmps68
      go_wp2
      go_quiet (fail)
      go_wp2
      refine bodyPost_ret (v := .agg #[.int .i64 0, .int .i64 l, .bool h]) (by simp [results, Try.results68, go_sem]) rfl ⟨by rw [HX.out], ?_⟩
      repeat (refine Below.setCell ?_ (by first | exact Nat.le_add_right _ 1 | exact Nat.le_add_right _ 2) _)
      exact below_drewN ((((Below.refl _ w).alloc (Nat.le_refl _) _).alloc (by simp) _).alloc (by simp; omega) _) _
    have k1 : (k == 1) = false := by rw [beq_eq_false_iff_ne]; exact K1
    have k2 : (k == 2) = false := by rw [beq_eq_false_iff_ne]; exact K2
    have k3 : (k == 3) = false := by rw [beq_eq_false_iff_ne]; exact K3
    have k4 : (k == 4) = false := by rw [beq_eq_false_iff_ne]; exact K4
    clear K1 K2 K3 K4
    have HX := Lib.hid (show obeyF ⟨p, on, off, r, f, u⟩ ⟨0, l, h⟩ k = ⟨0, l, h⟩ by unfold obeyF; rw [k1, k2, k3, k4]; rfl)
    go_enter Try.func68, Try.ntmps68
    go_wp2
    go_quiet (fail)
    go_wp2
    refine bodyPost_ret (v := .agg #[.int .i64 0, .int .i64 l, .bool h]) (by simp [results, Try.results68, go_sem]) rfl ⟨by rw [HX.out], ?_⟩
    repeat (refine Below.setCell ?_ (by first | exact Nat.le_add_right _ 1 | exact Nat.le_add_right _ 2) _)
    exact below_drewN ((((Below.refl _ w).alloc (Nat.le_refl _) _).alloc (by simp) _).alloc (by simp; omega) _) _
  by_cases Q1 : q = 1
  · subst Q1
    by_cases K1 : k = 1
    · subst K1
      have HX := Lib.hid (show obeyF ⟨p, on, off, r, f, u⟩ ⟨1, l, h⟩ 1 = ⟨1, l, h⟩ from rfl)
      go_enter Try.func68, Try.ntmps68
      go_wp2
      go_quiet (fail)
      go_wp2
      refine bodyPost_ret (v := .agg #[.int .i64 1, .int .i64 l, .bool h]) (by simp [results, Try.results68, go_sem]) rfl ⟨by rw [HX.out], ?_⟩
      repeat (refine Below.setCell ?_ (by first | exact Nat.le_add_right _ 1 | exact Nat.le_add_right _ 2) _)
      exact below_drewN ((((Below.refl _ w).alloc (Nat.le_refl _) _).alloc (by simp) _).alloc (by simp; omega) _) _
    by_cases K2 : k = 2
    · subst K2
      have HX := Lib.hid (show obeyF ⟨p, on, off, r, f, u⟩ ⟨1, l, h⟩ 2 = ⟨1, l, true⟩ from rfl)
      go_enter Try.func68, Try.ntmps68
      go_wp2
      go_quiet (fail)
      go_wp2
      refine bodyPost_ret (v := .agg #[.int .i64 1, .int .i64 l, .bool true]) (by simp [results, Try.results68, go_sem]) rfl ⟨by rw [HX.out], ?_⟩
      repeat (refine Below.setCell ?_ (by first | exact Nat.le_add_right _ 1 | exact Nat.le_add_right _ 2) _)
      exact below_drewN ((((Below.refl _ w).alloc (Nat.le_refl _) _).alloc (by simp) _).alloc (by simp; omega) _) _
    by_cases K3 : k = 3
    · subst K3
      have HX := Lib.hid (show obeyF ⟨p, on, off, r, f, u⟩ ⟨1, l, h⟩ 3 = ⟨1, l, false⟩ from rfl)
      go_enter Try.func68, Try.ntmps68
      go_wp2
      go_quiet (fail)
      go_wp2
      refine bodyPost_ret (v := .agg #[.int .i64 1, .int .i64 l, .bool false]) (by simp [results, Try.results68, go_sem]) rfl ⟨by rw [HX.out], ?_⟩
      repeat (refine Below.setCell ?_ (by first | exact Nat.le_add_right _ 1 | exact Nat.le_add_right _ 2) _)
      exact below_drewN ((((Below.refl _ w).alloc (Nat.le_refl _) _).alloc (by simp) _).alloc (by simp; omega) _) _
    by_cases K4 : k = 4
    · subst K4
      have HX := Lib.hid (show obeyF ⟨p, on, off, r, f, u⟩ ⟨1, l, h⟩ 4 = restF ⟨p, on, off, r, f, u⟩ from rfl)
      go_enter Try.func68, Try.ntmps68
      go_wp2
      go_quiet (fail)
      go_wp2_with fail
      refine (resting_any _ _ _ _ _ _ _).mono ?_
      rintro e w1 ⟨rfl, hb1⟩
      obtain ⟨hc1, hf1⟩ := bcell hb1
      have u0 : w1.cell? ⟨w.heap.size + 1 + 1, 0, none⟩ = some (.int .i64 0) := by rw [hc1 _ _ (by simp)]; simp [go_sem]
      have u1 : w1.cell? ⟨w.heap.size + 1 + 1, 1, none⟩ = some (.int .i64 0) := by rw [hc1 _ _ (by simp)]; simp [go_sem]
      have u2 : w1.cell? ⟨w.heap.size + 1 + 1, 2, none⟩ = some (.bool false) := by rw [hc1 _ _ (by simp)]; simp [go_sem]
      have Hb1 := Lib.hid (show Below w.heap.size w w1 from (below_drewN ((((Below.refl _ w).alloc (Nat.le_refl _) _).alloc (by simp) _).alloc (by simp; omega) _) _).trans (hb1.mono (by simp; omega)))
      clear hb1
      generalize restF ⟨p, on, off, r, f, u⟩ = X at *
      go_wp2
      refine bodyPost_ret (v := .agg #[.int .i64 X.phase, .int .i64 X.left, .bool X.held]) (by simp [results, Try.results68, go_sem, u0, u1, u2]) rfl ⟨by rw [HX.out], ?_⟩
      repeat (refine Below.setCell ?_ (by first | exact Nat.le_add_right _ 1 | exact Nat.le_add_right _ 2) _)
      exact Hb1.out
    have k1 : (k == 1) = false := by rw [beq_eq_false_iff_ne]; exact K1
    have k2 : (k == 2) = false := by rw [beq_eq_false_iff_ne]; exact K2
    have k3 : (k == 3) = false := by rw [beq_eq_false_iff_ne]; exact K3
    have k4 : (k == 4) = false := by rw [beq_eq_false_iff_ne]; exact K4
    clear K1 K2 K3 K4
    have HX := Lib.hid (show obeyF ⟨p, on, off, r, f, u⟩ ⟨1, l, h⟩ k = ⟨1, l, h⟩ by unfold obeyF; rw [k1, k2, k3, k4]; rfl)
    go_enter Try.func68, Try.ntmps68
    go_wp2
    go_quiet (fail)
    go_wp2
    refine bodyPost_ret (v := .agg #[.int .i64 1, .int .i64 l, .bool h]) (by simp [results, Try.results68, go_sem]) rfl ⟨by rw [HX.out], ?_⟩
    repeat (refine Below.setCell ?_ (by first | exact Nat.le_add_right _ 1 | exact Nat.le_add_right _ 2) _)
    exact below_drewN ((((Below.refl _ w).alloc (Nat.le_refl _) _).alloc (by simp) _).alloc (by simp; omega) _) _
  by_cases Q2 : q = 2
  · subst Q2
    by_cases K1 : k = 1
    · subst K1
      have HX := Lib.hid (show obeyF ⟨p, on, off, r, f, u⟩ ⟨2, l, h⟩ 1 = ⟨2, l, h⟩ from rfl)
      go_enter Try.func68, Try.ntmps68
      go_wp2
      go_quiet (fail)
      go_wp2
      refine bodyPost_ret (v := .agg #[.int .i64 2, .int .i64 l, .bool h]) (by simp [results, Try.results68, go_sem]) rfl ⟨by rw [HX.out], ?_⟩
      repeat (refine Below.setCell ?_ (by first | exact Nat.le_add_right _ 1 | exact Nat.le_add_right _ 2) _)
      exact below_drewN ((((Below.refl _ w).alloc (Nat.le_refl _) _).alloc (by simp) _).alloc (by simp; omega) _) _
    by_cases K2 : k = 2
    · subst K2
      have HX := Lib.hid (show obeyF ⟨p, on, off, r, f, u⟩ ⟨2, l, h⟩ 2 = ⟨2, l, h⟩ from rfl)
      go_enter Try.func68, Try.ntmps68
      go_wp2
      go_quiet (fail)
      go_wp2
      refine bodyPost_ret (v := .agg #[.int .i64 2, .int .i64 l, .bool h]) (by simp [results, Try.results68, go_sem]) rfl ⟨by rw [HX.out], ?_⟩
      repeat (refine Below.setCell ?_ (by first | exact Nat.le_add_right _ 1 | exact Nat.le_add_right _ 2) _)
      exact below_drewN ((((Below.refl _ w).alloc (Nat.le_refl _) _).alloc (by simp) _).alloc (by simp; omega) _) _
    by_cases K3 : k = 3
    · subst K3
      have HX := Lib.hid (show obeyF ⟨p, on, off, r, f, u⟩ ⟨2, l, h⟩ 3 = restF ⟨p, on, off, r, f, u⟩ from rfl)
      go_enter Try.func68, Try.ntmps68
      go_wp2
      go_quiet (fail)
      go_wp2_with fail
      refine (resting_any _ _ _ _ _ _ _).mono ?_
      rintro e w1 ⟨rfl, hb1⟩
      obtain ⟨hc1, hf1⟩ := bcell hb1
      have u0 : w1.cell? ⟨w.heap.size + 1 + 1, 0, none⟩ = some (.int .i64 0) := by rw [hc1 _ _ (by simp)]; simp [go_sem]
      have u1 : w1.cell? ⟨w.heap.size + 1 + 1, 1, none⟩ = some (.int .i64 0) := by rw [hc1 _ _ (by simp)]; simp [go_sem]
      have u2 : w1.cell? ⟨w.heap.size + 1 + 1, 2, none⟩ = some (.bool false) := by rw [hc1 _ _ (by simp)]; simp [go_sem]
      have Hb1 := Lib.hid (show Below w.heap.size w w1 from (below_drewN ((((Below.refl _ w).alloc (Nat.le_refl _) _).alloc (by simp) _).alloc (by simp; omega) _) _).trans (hb1.mono (by simp; omega)))
      clear hb1
      generalize restF ⟨p, on, off, r, f, u⟩ = X at *
      go_wp2
      refine bodyPost_ret (v := .agg #[.int .i64 X.phase, .int .i64 X.left, .bool X.held]) (by simp [results, Try.results68, go_sem, u0, u1, u2]) rfl ⟨by rw [HX.out], ?_⟩
      repeat (refine Below.setCell ?_ (by first | exact Nat.le_add_right _ 1 | exact Nat.le_add_right _ 2) _)
      exact Hb1.out
    by_cases K4 : k = 4
    · subst K4
      have HX := Lib.hid (show obeyF ⟨p, on, off, r, f, u⟩ ⟨2, l, h⟩ 4 = restF ⟨p, on, off, r, f, u⟩ from rfl)
      go_enter Try.func68, Try.ntmps68
      go_wp2
      go_quiet (fail)
      go_wp2_with fail
      refine (resting_any _ _ _ _ _ _ _).mono ?_
      rintro e w1 ⟨rfl, hb1⟩
      obtain ⟨hc1, hf1⟩ := bcell hb1
      have u0 : w1.cell? ⟨w.heap.size + 1 + 1, 0, none⟩ = some (.int .i64 0) := by rw [hc1 _ _ (by simp)]; simp [go_sem]
      have u1 : w1.cell? ⟨w.heap.size + 1 + 1, 1, none⟩ = some (.int .i64 0) := by rw [hc1 _ _ (by simp)]; simp [go_sem]
      have u2 : w1.cell? ⟨w.heap.size + 1 + 1, 2, none⟩ = some (.bool false) := by rw [hc1 _ _ (by simp)]; simp [go_sem]
      have Hb1 := Lib.hid (show Below w.heap.size w w1 from (below_drewN ((((Below.refl _ w).alloc (Nat.le_refl _) _).alloc (by simp) _).alloc (by simp; omega) _) _).trans (hb1.mono (by simp; omega)))
      clear hb1
      generalize restF ⟨p, on, off, r, f, u⟩ = X at *
      go_wp2
      refine bodyPost_ret (v := .agg #[.int .i64 X.phase, .int .i64 X.left, .bool X.held]) (by simp [results, Try.results68, go_sem, u0, u1, u2]) rfl ⟨by rw [HX.out], ?_⟩
      repeat (refine Below.setCell ?_ (by first | exact Nat.le_add_right _ 1 | exact Nat.le_add_right _ 2) _)
      exact Hb1.out
    have k1 : (k == 1) = false := by rw [beq_eq_false_iff_ne]; exact K1
    have k2 : (k == 2) = false := by rw [beq_eq_false_iff_ne]; exact K2
    have k3 : (k == 3) = false := by rw [beq_eq_false_iff_ne]; exact K3
    have k4 : (k == 4) = false := by rw [beq_eq_false_iff_ne]; exact K4
    clear K1 K2 K3 K4
    have HX := Lib.hid (show obeyF ⟨p, on, off, r, f, u⟩ ⟨2, l, h⟩ k = ⟨2, l, h⟩ by unfold obeyF; rw [k1, k2, k3, k4]; rfl)
    go_enter Try.func68, Try.ntmps68
    go_wp2
    go_quiet (fail)
    go_wp2
    refine bodyPost_ret (v := .agg #[.int .i64 2, .int .i64 l, .bool h]) (by simp [results, Try.results68, go_sem]) rfl ⟨by rw [HX.out], ?_⟩
    repeat (refine Below.setCell ?_ (by first | exact Nat.le_add_right _ 1 | exact Nat.le_add_right _ 2) _)
    exact below_drewN ((((Below.refl _ w).alloc (Nat.le_refl _) _).alloc (by simp) _).alloc (by simp; omega) _) _
  have q0 : (q == 0) = false := by rw [beq_eq_false_iff_ne]; exact Q0
  have q1 : (q == 1) = false := by rw [beq_eq_false_iff_ne]; exact Q1
  have q2 : (q == 2) = false := by rw [beq_eq_false_iff_ne]; exact Q2
  clear Q0 Q1 Q2
  by_cases K1 : k = 1
  · subst K1
    have HX := Lib.hid (show obeyF ⟨p, on, off, r, f, u⟩ ⟨q, l, h⟩ 1 = ⟨q, l, h⟩ by unfold obeyF; rw [q0, q1, q2]; rfl)
    go_enter Try.func68, Try.ntmps68
    go_wp2
    go_quiet (fail)
    go_wp2
    refine bodyPost_ret (v := .agg #[.int .i64 q, .int .i64 l, .bool h]) (by simp [results, Try.results68, go_sem]) rfl ⟨by rw [HX.out], ?_⟩
    repeat (refine Below.setCell ?_ (by first | exact Nat.le_add_right _ 1 | exact Nat.le_add_right _ 2) _)
    exact below_drewN ((((Below.refl _ w).alloc (Nat.le_refl _) _).alloc (by simp) _).alloc (by simp; omega) _) _
  by_cases K2 : k = 2
  · subst K2
    have HX := Lib.hid (show obeyF ⟨p, on, off, r, f, u⟩ ⟨q, l, h⟩ 2 = ⟨q, l, h⟩ by unfold obeyF; rw [q0, q1, q2]; rfl)
    go_enter Try.func68, Try.ntmps68
    go_wp2
    go_quiet (fail)
    go_wp2
    refine bodyPost_ret (v := .agg #[.int .i64 q, .int .i64 l, .bool h]) (by simp [results, Try.results68, go_sem]) rfl ⟨by rw [HX.out], ?_⟩
    repeat (refine Below.setCell ?_ (by first | exact Nat.le_add_right _ 1 | exact Nat.le_add_right _ 2) _)
    exact below_drewN ((((Below.refl _ w).alloc (Nat.le_refl _) _).alloc (by simp) _).alloc (by simp; omega) _) _
  by_cases K3 : k = 3
  · subst K3
    have HX := Lib.hid (show obeyF ⟨p, on, off, r, f, u⟩ ⟨q, l, h⟩ 3 = ⟨q, l, h⟩ by unfold obeyF; rw [q0, q1, q2]; rfl)
    go_enter Try.func68, Try.ntmps68
    go_wp2
    go_quiet (fail)
    go_wp2
    refine bodyPost_ret (v := .agg #[.int .i64 q, .int .i64 l, .bool h]) (by simp [results, Try.results68, go_sem]) rfl ⟨by rw [HX.out], ?_⟩
    repeat (refine Below.setCell ?_ (by first | exact Nat.le_add_right _ 1 | exact Nat.le_add_right _ 2) _)
    exact below_drewN ((((Below.refl _ w).alloc (Nat.le_refl _) _).alloc (by simp) _).alloc (by simp; omega) _) _
  by_cases K4 : k = 4
  · subst K4
    have HX := Lib.hid (show obeyF ⟨p, on, off, r, f, u⟩ ⟨q, l, h⟩ 4 = ⟨q, l, h⟩ by unfold obeyF; rw [q0, q1, q2]; rfl)
    go_enter Try.func68, Try.ntmps68
    go_wp2
    go_quiet (fail)
    go_wp2
    refine bodyPost_ret (v := .agg #[.int .i64 q, .int .i64 l, .bool h]) (by simp [results, Try.results68, go_sem]) rfl ⟨by rw [HX.out], ?_⟩
    repeat (refine Below.setCell ?_ (by first | exact Nat.le_add_right _ 1 | exact Nat.le_add_right _ 2) _)
    exact below_drewN ((((Below.refl _ w).alloc (Nat.le_refl _) _).alloc (by simp) _).alloc (by simp; omega) _) _
  have k1 : (k == 1) = false := by rw [beq_eq_false_iff_ne]; exact K1
  have k2 : (k == 2) = false := by rw [beq_eq_false_iff_ne]; exact K2
  have k3 : (k == 3) = false := by rw [beq_eq_false_iff_ne]; exact K3
  have k4 : (k == 4) = false := by rw [beq_eq_false_iff_ne]; exact K4
  clear K1 K2 K3 K4
  have HX := Lib.hid (show obeyF ⟨p, on, off, r, f, u⟩ ⟨q, l, h⟩ k = ⟨q, l, h⟩ by unfold obeyF; rw [q0, q1, q2, k1, k2, k3, k4]; rfl)
  go_enter Try.func68, Try.ntmps68
  go_wp2
  go_quiet (fail)
  go_wp2
  refine bodyPost_ret (v := .agg #[.int .i64 q, .int .i64 l, .bool h]) (by simp [results, Try.results68, go_sem]) rfl ⟨by rw [HX.out], ?_⟩
  repeat (refine Below.setCell ?_ (by first | exact Nat.le_add_right _ 1 | exact Nat.le_add_right _ 2) _)
  exact below_drewN ((((Below.refl _ w).alloc (Nat.le_refl _) _).alloc (by simp) _).alloc (by simp; omega) _) _
end Go.Proofs.Ytfgkljfoalgkaaa
