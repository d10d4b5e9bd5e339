/-
  driver.Apply, an order that can be obeyed: the drives behind it.
-/
import Derived.Test.YtfgkljfoalgkaaaApplyW
namespace Go.Proofs.Ytfgkljfoalgkaaa
open Go.RowKit

set_option maxRecDepth 100000 in
set_option maxHeartbeats 6400000 in
theorem apply_ok (v1 v2 : Value) (n m : Nat) (C : Nat → Coil) (D : Nat → Drive) (kd : Int) (i : Nat) (w : World) (hS : StateP n C m D) (h1 : HoldsC w v1 n C) (h2 : HoldsD w v2 m D)
    (him : i < m) (k1 : 1 ≤ kd) (k4 : kd ≤ 4) (hh : kd = 2 → (C i).on ≠ 0) (hr : kd ≤ 2 → (D i).phase ≠ 3) :
    Calls Try.prog 33 #[v1, v2, .agg #[.int .i64 kd, .int .i64 i]] w fun e w' => ∃ v', e = .returned (.tuple #[v', .int .i64 0]) ∧ HoldsD w' v' m (updD D i (obeyF (C i) (D i) kd)) ∧ Below w.heap.size w w' := by
  obtain ⟨a1, cap1, rfl, _⟩ := id h1
  obtain ⟨a2, cap2, rfl, _⟩ := id h2
  have hmn := hS.2.1
  subst hmn
  have hn32 := (validE_zero hS.1).1
  have hb0 : Below w.heap.size w (w.alloc (.cells #[.int .i64 kd, .int .i64 i] 43)) := (Below.refl _ _).alloc (Nat.le_refl _) _
  have HC := Lib.hid (isState_yes hS _ (h1.below hb0 (Nat.le_refl _)) (h2.below hb0 (Nat.le_refl _)))
  have H1 := Lib.hid h1
  have H2 := Lib.hid h2
  clear h1 h2 hb0 hS
  obtain ⟨g1, of1, rfl, l1, hc1⟩ := H1.out.open2 him
  obtain ⟨g2, of2, rfl, l2, hc2⟩ := H2.out.open2 him
  have b1 : (0 : Int) ≤ (i : Int) := by omega
  have b2 : (i : Int) < (m : Int) := by omega
  have t1 : decide ((i : Int) < 0) = false := by simp
  have t2 : decide ((m : Int) ≤ (i : Int)) = false := by simp; omega
  by_cases K1 : kd = 1
  · subst K1
    have t3 : ((D i).phase == 3) = false := by rw [beq_eq_false_iff_ne]; exact hr (by omega)
    clear hh hr k1 k4
    go_enter Try.func33, Try.ntmps33
    go_wp2_with fail
    refine HC.out.mono ?_
    rintro e w1 ⟨rfl, hb1⟩
    obtain ⟨o0, o1⟩ := box_open hb1 (by simp)
    have hb : Below w.heap.size w w1 := ((Below.refl _ w).alloc (Nat.le_refl _) _).trans (hb1.mono (by simp))
    have hsz1 : w.heap.size < w1.heap.size := by have := hb1.size; simp at this; omega
    have Hb1 := Lib.hid hb
    obtain ⟨x0, x1, x2, x3, x4, x5⟩ := coil_cells (hc1 _ hb) him
    obtain ⟨d0, d1, d2⟩ := drive_cells (hc2 _ hb) him
    have HV2 := Lib.hid (H2.out.below hb (Nat.le_refl _))
    clear hb1 hb
    go_wp2_with fail
    refine (clone_any _ m D _ (by omega) HV2.out).mono ?_
    rintro e w2 ⟨v', rfl, hown, hb2⟩
    obtain ⟨g, cap, rfl, hbase, hlt, hfr, hcell⟩ := owns_open hown (by omega)
    have HK := Lib.hid (fun b o (hb : b < w1.heap.size) => hb2.cell (p := ⟨b, o, none⟩) hb)
    have lg1 : g1 < w1.heap.size := by omega
    have lg2 : g2 < w1.heap.size := by omega
    rw [← HK.out _ _ hsz1] at o0 o1
    rw [← HK.out _ _ lg1] at x0 x1 x2 x3 x4 x5
    rw [← HK.out _ _ lg2] at d0 d1 d2
    obtain ⟨c0, c1, c2⟩ := drive_cells hcell him
    rw [Nat.zero_add] at c0 c1 c2
    have f0 := hfr (i * 3)
    have f1 := hfr (i * 3 + 1)
    have f2 := hfr (i * 3 + 2)
    have Hcell := Lib.hid hcell
    have Hfr := Lib.hid hfr
    have Hb2 := Lib.hid hb2
    have n1 : g ≠ g1 := by omega
    have n2 : g ≠ g2 := by omega
    have n3 : g ≠ w.heap.size := by omega
    have n1' : g1 ≠ g := by omega
    have n2' : g2 ≠ g := by omega
    have n3' : w.heap.size ≠ g := by omega
    have z1 : g1 < w2.heap.size := by have := hb2.size; omega
    have z2 : g2 < w2.heap.size := by have := hb2.size; omega
    have z3 : w.heap.size < w2.heap.size := by have := hb2.size; omega
    have Hbase := Lib.hid hbase
    have HO := Lib.hid (fun w => obey_any (C i).pulse (C i).on (C i).off (C i).rest (C i).fuse (C i).cur (D i).phase (D i).left 1 (D i).held w)
    clear hown hcell hfr hb2 hbase hc1 hc2 lg1 lg2
    go_wp2_with fail
    go_region_held3 (fun w' => w'.cell? ⟨w.heap.size, 0, none⟩ = some (.int .i64 1) ∧ w'.cell? ⟨w.heap.size, 1, none⟩ = some (.int .i64 i) ∧
        w'.cell? ⟨g1, of1 + i * 6, none⟩ = some (.int .i64 (C i).pulse) ∧ w'.cell? ⟨g1, of1 + i * 6 + 1, none⟩ = some (.int .i64 (C i).on) ∧ w'.cell? ⟨g1, of1 + i * 6 + 2, none⟩ = some (.int .i64 (C i).off) ∧ w'.cell? ⟨g1, of1 + i * 6 + 3, none⟩ = some (.int .i64 (C i).rest) ∧ w'.cell? ⟨g1, of1 + i * 6 + 4, none⟩ = some (.int .i64 (C i).fuse) ∧ w'.cell? ⟨g1, of1 + i * 6 + 5, none⟩ = some (.int .i64 (C i).cur) ∧
        w'.cell? ⟨g2, of2 + i * 3, none⟩ = some (.int .i64 (D i).phase) ∧ w'.cell? ⟨g2, of2 + i * 3 + 1, none⟩ = some (.int .i64 (D i).left) ∧ w'.cell? ⟨g2, of2 + i * 3 + 2, none⟩ = some (.bool (D i).held)) (go_keep)
      (first
        | (go_at_call 68; refine (HO.out _).mono ?_; rintro e w3 ⟨rfl, hb3⟩
           have hb3' := (Below.refl _ w2).drew.trans hb3
           have hk := fun b o (hb : b < w2.heap.size) => hb3'.cell (p := ⟨b, o, none⟩) hb
           have hkf := fun b o (hb : b < w2.heap.size) => hb3'.frozen (p := ⟨b, o, none⟩) hb
           rw [← hk _ _ z3] at o0 o1
           rw [← hk _ _ z1] at x0 x1 x2 x3 x4 x5
           rw [← hk _ _ z2] at d0 d1 d2
           rw [← hk _ _ hlt] at c0 c1 c2
           rw [← hkf _ _ hlt] at f0 f1 f2))
    have HB3 := Lib.hid hb3'
    clear hb3 hb3' hk hkf
    go_wp2
    go_ret2
    refine ⟨_, rfl, ?_, ?_⟩
    · refine ⟨_, _, rfl, .inr ⟨g, 0, rfl, ?_, ?_⟩⟩
      · have := HB3.out.size
        simp [World.setCell]; omega
      · have h3 := set3 (w := w3) (g := g) (off := 0) (n := m) (i := i) (D := D) (fun j hj k u hu => by rw [HB3.out.cell (p := ⟨g, 0 + j * 3 + k, none⟩) hlt]; exact Hcell.out j hj k u hu) him (obeyF (C i) (D i) 1)
        rw [Nat.zero_add] at h3
        exact h3
    · have h0 := Hb1.out.trans ((Hb2.out.trans (HB3.out.mono Hb2.out.size)).mono Hb1.out.size)
      have := Hbase.out
      repeat (refine Below.setCell ?_ (by show w.heap.size ≤ g; omega) _)
      exact h0
  by_cases K2 : kd = 2
  · subst K2
    have t3 : ((D i).phase == 3) = false := by rw [beq_eq_false_iff_ne]; exact hr (by omega)
    have t4 : ((C i).on == 0) = false := by rw [beq_eq_false_iff_ne]; exact hh rfl
    clear hh hr k1 k4 K1
    go_enter Try.func33, Try.ntmps33
    go_wp2_with fail
    refine HC.out.mono ?_
    rintro e w1 ⟨rfl, hb1⟩
    obtain ⟨o0, o1⟩ := box_open hb1 (by simp)
    have hb : Below w.heap.size w w1 := ((Below.refl _ w).alloc (Nat.le_refl _) _).trans (hb1.mono (by simp))
    have hsz1 : w.heap.size < w1.heap.size := by have := hb1.size; simp at this; omega
    have Hb1 := Lib.hid hb
    obtain ⟨x0, x1, x2, x3, x4, x5⟩ := coil_cells (hc1 _ hb) him
    obtain ⟨d0, d1, d2⟩ := drive_cells (hc2 _ hb) him
    have HV2 := Lib.hid (H2.out.below hb (Nat.le_refl _))
    clear hb1 hb
    go_wp2_with fail
    refine (clone_any _ m D _ (by omega) HV2.out).mono ?_
    rintro e w2 ⟨v', rfl, hown, hb2⟩
    obtain ⟨g, cap, rfl, hbase, hlt, hfr, hcell⟩ := owns_open hown (by omega)
    have HK := Lib.hid (fun b o (hb : b < w1.heap.size) => hb2.cell (p := ⟨b, o, none⟩) hb)
    have lg1 : g1 < w1.heap.size := by omega
    have lg2 : g2 < w1.heap.size := by omega
    rw [← HK.out _ _ hsz1] at o0 o1
    rw [← HK.out _ _ lg1] at x0 x1 x2 x3 x4 x5
    rw [← HK.out _ _ lg2] at d0 d1 d2
    obtain ⟨c0, c1, c2⟩ := drive_cells hcell him
    rw [Nat.zero_add] at c0 c1 c2
    have f0 := hfr (i * 3)
    have f1 := hfr (i * 3 + 1)
    have f2 := hfr (i * 3 + 2)
    have Hcell := Lib.hid hcell
    have Hfr := Lib.hid hfr
    have Hb2 := Lib.hid hb2
    have n1 : g ≠ g1 := by omega
    have n2 : g ≠ g2 := by omega
    have n3 : g ≠ w.heap.size := by omega
    have n1' : g1 ≠ g := by omega
    have n2' : g2 ≠ g := by omega
    have n3' : w.heap.size ≠ g := by omega
    have z1 : g1 < w2.heap.size := by have := hb2.size; omega
    have z2 : g2 < w2.heap.size := by have := hb2.size; omega
    have z3 : w.heap.size < w2.heap.size := by have := hb2.size; omega
    have Hbase := Lib.hid hbase
    have HO := Lib.hid (fun w => obey_any (C i).pulse (C i).on (C i).off (C i).rest (C i).fuse (C i).cur (D i).phase (D i).left 2 (D i).held w)
    clear hown hcell hfr hb2 hbase hc1 hc2 lg1 lg2
    go_wp2_with fail
    go_region_held3 (fun w' => w'.cell? ⟨w.heap.size, 0, none⟩ = some (.int .i64 2) ∧ w'.cell? ⟨w.heap.size, 1, none⟩ = some (.int .i64 i) ∧
        w'.cell? ⟨g1, of1 + i * 6, none⟩ = some (.int .i64 (C i).pulse) ∧ w'.cell? ⟨g1, of1 + i * 6 + 1, none⟩ = some (.int .i64 (C i).on) ∧ w'.cell? ⟨g1, of1 + i * 6 + 2, none⟩ = some (.int .i64 (C i).off) ∧ w'.cell? ⟨g1, of1 + i * 6 + 3, none⟩ = some (.int .i64 (C i).rest) ∧ w'.cell? ⟨g1, of1 + i * 6 + 4, none⟩ = some (.int .i64 (C i).fuse) ∧ w'.cell? ⟨g1, of1 + i * 6 + 5, none⟩ = some (.int .i64 (C i).cur) ∧
        w'.cell? ⟨g2, of2 + i * 3, none⟩ = some (.int .i64 (D i).phase) ∧ w'.cell? ⟨g2, of2 + i * 3 + 1, none⟩ = some (.int .i64 (D i).left) ∧ w'.cell? ⟨g2, of2 + i * 3 + 2, none⟩ = some (.bool (D i).held)) (go_keep)
      (first
        | (go_at_call 68; refine (HO.out _).mono ?_; rintro e w3 ⟨rfl, hb3⟩
           have hb3' := (Below.refl _ w2).drew.trans hb3
           have hk := fun b o (hb : b < w2.heap.size) => hb3'.cell (p := ⟨b, o, none⟩) hb
           have hkf := fun b o (hb : b < w2.heap.size) => hb3'.frozen (p := ⟨b, o, none⟩) hb
           rw [← hk _ _ z3] at o0 o1
           rw [← hk _ _ z1] at x0 x1 x2 x3 x4 x5
           rw [← hk _ _ z2] at d0 d1 d2
           rw [← hk _ _ hlt] at c0 c1 c2
           rw [← hkf _ _ hlt] at f0 f1 f2))
    have HB3 := Lib.hid hb3'
    clear hb3 hb3' hk hkf
    go_wp2
    go_ret2
    refine ⟨_, rfl, ?_, ?_⟩
    · refine ⟨_, _, rfl, .inr ⟨g, 0, rfl, ?_, ?_⟩⟩
      · have := HB3.out.size
        simp [World.setCell]; omega
      · have h3 := set3 (w := w3) (g := g) (off := 0) (n := m) (i := i) (D := D) (fun j hj k u hu => by rw [HB3.out.cell (p := ⟨g, 0 + j * 3 + k, none⟩) hlt]; exact Hcell.out j hj k u hu) him (obeyF (C i) (D i) 2)
        rw [Nat.zero_add] at h3
        exact h3
    · have h0 := Hb1.out.trans ((Hb2.out.trans (HB3.out.mono Hb2.out.size)).mono Hb1.out.size)
      have := Hbase.out
      repeat (refine Below.setCell ?_ (by show w.heap.size ≤ g; omega) _)
      exact h0
  have t3 : decide (kd ≤ 2) = false := by simp; omega
  have t4 : (kd == 2) = false := by rw [beq_eq_false_iff_ne]; exact K2
  have t5 : decide (kd < 1) = false := by simp; omega
  have t6 : decide (4 < kd) = false := by simp; omega
  clear hh hr k1 k4 K1 K2
  go_enter Try.func33, Try.ntmps33
  go_wp2_with fail
  refine HC.out.mono ?_
  rintro e w1 ⟨rfl, hb1⟩
  obtain ⟨o0, o1⟩ := box_open hb1 (by simp)
  have hb : Below w.heap.size w w1 := ((Below.refl _ w).alloc (Nat.le_refl _) _).trans (hb1.mono (by simp))
  have hsz1 : w.heap.size < w1.heap.size := by have := hb1.size; simp at this; omega
  have Hb1 := Lib.hid hb
  obtain ⟨x0, x1, x2, x3, x4, x5⟩ := coil_cells (hc1 _ hb) him
  obtain ⟨d0, d1, d2⟩ := drive_cells (hc2 _ hb) him
  have HV2 := Lib.hid (H2.out.below hb (Nat.le_refl _))
  clear hb1 hb
  go_wp2_with fail
  refine (clone_any _ m D _ (by omega) HV2.out).mono ?_
  rintro e w2 ⟨v', rfl, hown, hb2⟩
  obtain ⟨g, cap, rfl, hbase, hlt, hfr, hcell⟩ := owns_open hown (by omega)
  have HK := Lib.hid (fun b o (hb : b < w1.heap.size) => hb2.cell (p := ⟨b, o, none⟩) hb)
  have lg1 : g1 < w1.heap.size := by omega
  have lg2 : g2 < w1.heap.size := by omega
  rw [← HK.out _ _ hsz1] at o0 o1
  rw [← HK.out _ _ lg1] at x0 x1 x2 x3 x4 x5
  rw [← HK.out _ _ lg2] at d0 d1 d2
  obtain ⟨c0, c1, c2⟩ := drive_cells hcell him
  rw [Nat.zero_add] at c0 c1 c2
  have f0 := hfr (i * 3)
  have f1 := hfr (i * 3 + 1)
  have f2 := hfr (i * 3 + 2)
  have Hcell := Lib.hid hcell
  have Hfr := Lib.hid hfr
  have Hb2 := Lib.hid hb2
  have n1 : g ≠ g1 := by omega
  have n2 : g ≠ g2 := by omega
  have n3 : g ≠ w.heap.size := by omega
  have n1' : g1 ≠ g := by omega
  have n2' : g2 ≠ g := by omega
  have n3' : w.heap.size ≠ g := by omega
  have z1 : g1 < w2.heap.size := by have := hb2.size; omega
  have z2 : g2 < w2.heap.size := by have := hb2.size; omega
  have z3 : w.heap.size < w2.heap.size := by have := hb2.size; omega
  have Hbase := Lib.hid hbase
  have HO := Lib.hid (fun w => obey_any (C i).pulse (C i).on (C i).off (C i).rest (C i).fuse (C i).cur (D i).phase (D i).left kd (D i).held w)
  clear hown hcell hfr hb2 hbase hc1 hc2 lg1 lg2
  go_wp2_with fail
  go_region_held3 (fun w' => w'.cell? ⟨w.heap.size, 0, none⟩ = some (.int .i64 kd) ∧ w'.cell? ⟨w.heap.size, 1, none⟩ = some (.int .i64 i) ∧
      w'.cell? ⟨g1, of1 + i * 6, none⟩ = some (.int .i64 (C i).pulse) ∧ w'.cell? ⟨g1, of1 + i * 6 + 1, none⟩ = some (.int .i64 (C i).on) ∧ w'.cell? ⟨g1, of1 + i * 6 + 2, none⟩ = some (.int .i64 (C i).off) ∧ w'.cell? ⟨g1, of1 + i * 6 + 3, none⟩ = some (.int .i64 (C i).rest) ∧ w'.cell? ⟨g1, of1 + i * 6 + 4, none⟩ = some (.int .i64 (C i).fuse) ∧ w'.cell? ⟨g1, of1 + i * 6 + 5, none⟩ = some (.int .i64 (C i).cur) ∧
      w'.cell? ⟨g2, of2 + i * 3, none⟩ = some (.int .i64 (D i).phase) ∧ w'.cell? ⟨g2, of2 + i * 3 + 1, none⟩ = some (.int .i64 (D i).left) ∧ w'.cell? ⟨g2, of2 + i * 3 + 2, none⟩ = some (.bool (D i).held)) (go_keep)
    (first
      | (go_at_call 68; refine (HO.out _).mono ?_; rintro e w3 ⟨rfl, hb3⟩
         have hb3' := (Below.refl _ w2).drew.trans hb3
         have hk := fun b o (hb : b < w2.heap.size) => hb3'.cell (p := ⟨b, o, none⟩) hb
         have hkf := fun b o (hb : b < w2.heap.size) => hb3'.frozen (p := ⟨b, o, none⟩) hb
         rw [← hk _ _ z3] at o0 o1
         rw [← hk _ _ z1] at x0 x1 x2 x3 x4 x5
         rw [← hk _ _ z2] at d0 d1 d2
         rw [← hk _ _ hlt] at c0 c1 c2
         rw [← hkf _ _ hlt] at f0 f1 f2))
  have HB3 := Lib.hid hb3'
  clear hb3 hb3' hk hkf
  go_wp2
  go_ret2
  refine ⟨_, rfl, ?_, ?_⟩
  · refine ⟨_, _, rfl, .inr ⟨g, 0, rfl, ?_, ?_⟩⟩
    · have := HB3.out.size
      simp [World.setCell]; omega
    · have h3 := set3 (w := w3) (g := g) (off := 0) (n := m) (i := i) (D := D) (fun j hj k u hu => by rw [HB3.out.cell (p := ⟨g, 0 + j * 3 + k, none⟩) hlt]; exact Hcell.out j hj k u hu) him (obeyF (C i) (D i) kd)
      rw [Nat.zero_add] at h3
      exact h3
  · have h0 := Hb1.out.trans ((Hb2.out.trans (HB3.out.mono Hb2.out.size)).mono Hb1.out.size)
    have := Hbase.out
    repeat (refine Below.setCell ?_ (by show w.heap.size ≤ g; omega) _)
    exact h0
end Go.Proofs.Ytfgkljfoalgkaaa
