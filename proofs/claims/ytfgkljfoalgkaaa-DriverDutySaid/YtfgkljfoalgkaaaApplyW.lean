/-
  driver.Apply walked: the first error, or the drives behind the order.
-/
import Derived.Test.YtfgkljfoalgkaaaApply
namespace Go.Proofs.Ytfgkljfoalgkaaa
open Go.RowKit

theorem isState_yes {v1 v2 : Value} {n m : Nat} {C : Nat → Coil} {D : Nat → Drive} (hS : StateP n C m D) (w : World) (h1 : HoldsC w v1 n C) (h2 : HoldsD w v2 m D) :
    Calls Try.prog 31 #[v1, v2] w fun e w' => e = .returned (.bool true) ∧ Below w.heap.size w w' :=
  (isState_any v1 v2 n m C D w h1 h2).mono fun _ _ ⟨b, he, hb, hw⟩ => ⟨by rw [he, hb.2 hS], hw⟩
theorem isState_no {v1 v2 : Value} {n m : Nat} {C : Nat → Coil} {D : Nat → Drive} (hS : ¬ StateP n C m D) (w : World) (h1 : HoldsC w v1 n C) (h2 : HoldsD w v2 m D) :
    Calls Try.prog 31 #[v1, v2] w fun e w' => e = .returned (.bool false) ∧ Below w.heap.size w w' :=
  (isState_any v1 v2 n m C D w h1 h2).mono fun _ _ ⟨b, he, hb, hw⟩ => ⟨by
    cases b with
    | false => exact he
    | true => exact absurd (hb.1 rfl) hS, hw⟩
/-- The error number of an order. -/
def applyE (n : Nat) (C : Nat → Coil) (D : Nat → Drive) (o : Order) : Int :=
  if o.coil < 0 ∨ (n : Int) ≤ o.coil then 40 else if o.kind < 1 ∨ 4 < o.kind then 44
  else if o.kind = 2 ∧ (C o.coil.toNat).on = 0 then 46 else if o.kind ≤ 2 ∧ (D o.coil.toNat).phase = 3 then 45 else 0
theorem box_open {w w1 : World} {kd ci : Int} {B : Nat} (hb : Below B (w.alloc (.cells #[.int .i64 kd, .int .i64 ci] 43)) w1) (hB : w.heap.size < B) :
    w1.cell? ⟨w.heap.size, 0, none⟩ = some (.int .i64 kd) ∧ w1.cell? ⟨w.heap.size, 1, none⟩ = some (.int .i64 ci) := by
  constructor
  · rw [hb.cell (p := ⟨w.heap.size, 0, none⟩) hB]; simp [go_sem]
  · rw [hb.cell (p := ⟨w.heap.size, 1, none⟩) hB]; simp [go_sem]
theorem apply_arg (v1 v2 : Value) (n m : Nat) (C : Nat → Coil) (D : Nat → Drive) (o : Order) (w : World) (hS : ¬ StateP n C m D) (h1 : HoldsC w v1 n C) (h2 : HoldsD w v2 m D) :
    Calls Try.prog 33 #[v1, v2, .agg #[.int .i64 o.kind, .int .i64 o.coil]] w fun e w' => e = .returned (.tuple #[.slice none 0 0, .int .i64 1]) ∧ Below w.heap.size w w' := by
  have hb0 : Below w.heap.size w (w.alloc (.cells #[.int .i64 o.kind, .int .i64 o.coil] 43)) := (Below.refl _ _).alloc (Nat.le_refl _) _
  have HC := Lib.hid (isState_no hS _ (h1.below hb0 (Nat.le_refl _)) (h2.below hb0 (Nat.le_refl _)))
  clear h1 h2 hb0
  go_enter Try.func33, Try.ntmps33
  go_wp2_with fail
  refine HC.out.mono ?_
  rintro e w1 ⟨rfl, hb1⟩
  have Hb1 := Lib.hid (show Below w.heap.size w w1 from ((Below.refl _ w).alloc (Nat.le_refl _) _).trans (hb1.mono (by simp)))
  clear hb1
  go_wp2
  go_ret2
  exact ⟨rfl, Hb1.out⟩
set_option maxHeartbeats 1600000 in
theorem apply_err (v1 v2 : Value) (n m : Nat) (C : Nat → Coil) (D : Nat → Drive) (o : Order) (w : World) (hS : StateP n C m D) (h1 : HoldsC w v1 n C) (h2 : HoldsD w v2 m D) (hE : applyE n C D o ≠ 0) :
    Calls Try.prog 33 #[v1, v2, .agg #[.int .i64 o.kind, .int .i64 o.coil]] w fun e w' => e = .returned (.tuple #[.slice none 0 0, .int .i64 (applyE n C D o)]) ∧ Below w.heap.size w w' := by
  obtain ⟨a1, cap1, rfl, _⟩ := id h1
  obtain ⟨a2, cap2, rfl, _⟩ := id h2
  have hmn := hS.2.1
  subst hmn
  have hn32 := (validE_zero hS.1).1
  have hb0 : Below w.heap.size w (w.alloc (.cells #[.int .i64 o.kind, .int .i64 o.coil] 43)) := (Below.refl _ _).alloc (Nat.le_refl _) _
  have HC := Lib.hid (isState_yes hS _ (h1.below hb0 (Nat.le_refl _)) (h2.below hb0 (Nat.le_refl _)))
  have HE := Lib.hid hE
  have HS := Lib.hid hS
  have H1 := Lib.hid h1
  have H2 := Lib.hid h2
  clear h1 h2 hb0 hE hS
  obtain ⟨kd, ci⟩ := o
  by_cases c1 : ci < 0
  · have HX := Lib.hid (show applyE m C D ⟨kd, ci⟩ = 40 by unfold applyE; rw [if_pos (.inl c1)])
    rw [HX.out]
    go_enter Try.func33, Try.ntmps33
    go_wp2_with fail
    refine HC.out.mono ?_
    rintro e w1 ⟨rfl, hb1⟩
    obtain ⟨o0, o1⟩ := box_open hb1 (by simp)
    have Hb1 := Lib.hid (show Below w.heap.size w w1 from ((Below.refl _ w).alloc (Nat.le_refl _) _).trans (hb1.mono (by simp)))
    clear hb1
    go_wp2
    go_ret2
    exact ⟨rfl, Hb1.out⟩
  by_cases c2 : (m : Int) ≤ ci
  · have HX := Lib.hid (show applyE m C D ⟨kd, ci⟩ = 40 by unfold applyE; rw [if_pos (.inr c2)])
    rw [HX.out]
    go_enter Try.func33, Try.ntmps33
    go_wp2_with fail
    refine HC.out.mono ?_
    rintro e w1 ⟨rfl, hb1⟩
    obtain ⟨o0, o1⟩ := box_open hb1 (by simp)
    have Hb1 := Lib.hid (show Below w.heap.size w w1 from ((Below.refl _ w).alloc (Nat.le_refl _) _).trans (hb1.mono (by simp)))
    clear hb1
    go_wp2
    go_ret2
    exact ⟨rfl, Hb1.out⟩
  have cc : ¬ (ci < 0 ∨ (m : Int) ≤ ci) := by omega
  by_cases k1 : kd < 1
  · have HX := Lib.hid (show applyE m C D ⟨kd, ci⟩ = 44 by unfold applyE; rw [if_neg cc, if_pos (.inl k1)])
    rw [HX.out]
    clear cc
    go_enter Try.func33, Try.ntmps33
    go_wp2_with fail
    refine HC.out.mono ?_
    rintro e w1 ⟨rfl, hb1⟩
    obtain ⟨o0, o1⟩ := box_open hb1 (by simp)
    have Hb1 := Lib.hid (show Below w.heap.size w w1 from ((Below.refl _ w).alloc (Nat.le_refl _) _).trans (hb1.mono (by simp)))
    clear hb1
    go_wp2
    go_ret2
    exact ⟨rfl, Hb1.out⟩
  by_cases k2 : 4 < kd
  · have HX := Lib.hid (show applyE m C D ⟨kd, ci⟩ = 44 by unfold applyE; rw [if_neg cc, if_pos (.inr k2)])
    rw [HX.out]
    clear cc
    go_enter Try.func33, Try.ntmps33
    go_wp2_with fail
    refine HC.out.mono ?_
    rintro e w1 ⟨rfl, hb1⟩
    obtain ⟨o0, o1⟩ := box_open hb1 (by simp)
    have Hb1 := Lib.hid (show Below w.heap.size w w1 from ((Below.refl _ w).alloc (Nat.le_refl _) _).trans (hb1.mono (by simp)))
    clear hb1
    go_wp2
    go_ret2
    exact ⟨rfl, Hb1.out⟩
  have kk : ¬ (kd < 1 ∨ 4 < kd) := by omega
  obtain ⟨i, rfl⟩ : ∃ i : Nat, ci = (i : Int) := ⟨ci.toNat, by omega⟩
  have him : i < m := by omega
  obtain ⟨g1, of1, rfl, l1, hc1⟩ := H1.out.open2 him
  obtain ⟨g2, of2, rfl, l2, hc2⟩ := H2.out.open2 him
  have ht : ((i : Int)).toNat = i := rfl
  by_cases e2 : kd = 2 ∧ (C i).on = 0
  · have HX := Lib.hid (show applyE m C D ⟨kd, i⟩ = 46 by unfold applyE; rw [if_neg cc, if_neg kk]; exact if_pos e2)
    rw [HX.out]
    obtain ⟨rfl, hon⟩ := e2
    clear cc kk k1 k2 c1 c2 ht
    have b1 : (0 : Int) ≤ (i : Int) := by omega
    have b2 : (i : Int) < (m : Int) := by omega
    go_enter Try.func33, Try.ntmps33
    go_wp2_with fail
    refine HC.out.mono ?_
    rintro e w1 ⟨rfl, hb1⟩
    obtain ⟨o0, o1⟩ := box_open hb1 (by simp)
    have hb : Below w.heap.size w w1 := ((Below.refl _ w).alloc (Nat.le_refl _) _).trans (hb1.mono (by simp))
    have Hb1 := Lib.hid hb
    obtain ⟨x0, x1, x2, x3, x4, x5⟩ := coil_cells (hc1 _ hb) him
    rw [hon] at x1
    clear hb1 hb hc1 hc2
    go_wp2
    go_ret2
    exact ⟨rfl, Hb1.out⟩
  by_cases e3 : kd ≤ 2 ∧ (D i).phase = 3
  · have HX := Lib.hid (show applyE m C D ⟨kd, i⟩ = 45 by unfold applyE; rw [if_neg cc, if_neg kk]; exact (if_neg e2).trans (if_pos e3))
    rw [HX.out]
    obtain ⟨hk, hph⟩ := e3
    have b1 : (0 : Int) ≤ (i : Int) := by omega
    have b2 : (i : Int) < (m : Int) := by omega
    by_cases hk2 : kd = 2
    · have hon : ((C i).on == 0) = false := by rw [beq_eq_false_iff_ne]; exact fun h => e2 ⟨hk2, h⟩
      subst hk2
      clear cc kk k1 k2 c1 c2 ht e2
      go_enter Try.func33, Try.ntmps33
      go_wp2_with fail
      refine HC.out.mono ?_
      rintro e w1 ⟨rfl, hb1⟩
      obtain ⟨o0, o1⟩ := box_open hb1 (by simp)
      have hb : Below w.heap.size w w1 := ((Below.refl _ w).alloc (Nat.le_refl _) _).trans (hb1.mono (by simp))
      have Hb1 := Lib.hid hb
      obtain ⟨x0, x1, x2, x3, x4, x5⟩ := coil_cells (hc1 _ hb) him
      obtain ⟨d0, d1, d2⟩ := drive_cells (hc2 _ hb) him
      rw [hph] at d0
      clear hb1 hb hc1 hc2
      go_wp2
      go_ret2
      exact ⟨rfl, Hb1.out⟩
    · obtain rfl : kd = 1 := by omega
      clear cc kk k1 k2 c1 c2 ht e2 hk2
      go_enter Try.func33, Try.ntmps33
      go_wp2_with fail
      refine HC.out.mono ?_
      rintro e w1 ⟨rfl, hb1⟩
      obtain ⟨o0, o1⟩ := box_open hb1 (by simp)
      have hb : Below w.heap.size w w1 := ((Below.refl _ w).alloc (Nat.le_refl _) _).trans (hb1.mono (by simp))
      have Hb1 := Lib.hid hb
      obtain ⟨x0, x1, x2, x3, x4, x5⟩ := coil_cells (hc1 _ hb) him
      obtain ⟨d0, d1, d2⟩ := drive_cells (hc2 _ hb) him
      rw [hph] at d0
      clear hb1 hb hc1 hc2
      go_wp2
      go_ret2
      exact ⟨rfl, Hb1.out⟩
  · exact absurd (show applyE m C D ⟨kd, i⟩ = 0 by unfold applyE; rw [if_neg cc, if_neg kk]; exact (if_neg e2).trans (if_neg e3)) HE.out
end Go.Proofs.Ytfgkljfoalgkaaa
