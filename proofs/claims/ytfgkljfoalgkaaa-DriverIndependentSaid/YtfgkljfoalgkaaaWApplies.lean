/-
  The walk of the law DriverApplies: for all arguments it hands back true, and nothing that was there turns.
-/
import Derived.Test.YtfgkljfoalgkaaaRApply
import Derived.Test.YtfgkljfoalgkaaaDSane2
namespace Go.Proofs.Ytfgkljfoalgkaaa
open Go.RowKit

theorem applyE_in {n : Nat} {C : Nat → Coil} {D : Nat → Drive} {k c : Int} (h0 : 0 ≤ c) (h1 : c < n) : applyE n C D ⟨k, c⟩ = ordE (C c.toNat) (D c.toNat) k := by
  unfold applyE ordE
  rw [if_neg (show ¬ (c < 0 ∨ (n : Int) ≤ c) by omega)]
theorem rapply_yes {n m : Nat} {C : Nat → Coil} {D : Nat → Drive} {o : Order} (hE : applyE n C D o = 0) (v1 v2 : Value) (w : World) (hS : StateP n C m D) (h1 : HoldsC w v1 n C) (h2 : HoldsD w v2 m D) :
    Calls Try.prog 34 #[v1, v2, .agg #[.int .i64 o.kind, .int .i64 o.coil]] w fun e w' => ∃ v', e = .returned (.tuple #[v', .int .i64 0]) ∧ HoldsD w' v' m (applyD n C D o) ∧ Below w.heap.size w w' := by
  obtain ⟨c0, c1, _⟩ := applyE_zero hE
  have hD : applyD n C D o = updD D o.coil.toNat (obeyF (C o.coil.toNat) (D o.coil.toNat) o.kind) := by unfold applyD; rw [if_pos hE]
  rw [hD]
  obtain ⟨k, c⟩ := o
  rw [applyE_in c0 c1] at hE
  simp only at hE c0 c1
  obtain ⟨i, rfl⟩ : ∃ i : Nat, c = i := ⟨c.toNat, by omega⟩
  exact rapply_ok v1 v2 n m C D k i w hS h1 h2 (by have := hS.2.1; omega) hE
theorem rapply_no (v1 v2 : Value) (n m : Nat) (C : Nat → Coil) (D : Nat → Drive) (o : Order) (w : World) (hS : StateP n C m D) (h1 : HoldsC w v1 n C) (h2 : HoldsD w v2 m D) (hE : applyE n C D o ≠ 0) :
    Calls Try.prog 34 #[v1, v2, .agg #[.int .i64 o.kind, .int .i64 o.coil]] w fun e w' => e = .returned (.tuple #[.slice none 0 0, .int .i64 (applyE n C D o)]) ∧ Below w.heap.size w w' := by
  obtain ⟨k, c⟩ := o
  by_cases hc : c < 0 ∨ (n : Int) ≤ c
  · rw [show applyE n C D ⟨k, c⟩ = 40 by unfold applyE; rw [if_pos hc]]
    exact rapply_coil v1 v2 n m C D k c w hS h1 h2 hc
  · have e := applyE_in (n := n) (C := C) (D := D) (k := k) (c := c) (by omega) (by omega)
    rw [e] at hE ⊢
    obtain ⟨i, rfl⟩ : ∃ i : Nat, c = i := ⟨c.toNat, by omega⟩
    exact rapply_err v1 v2 n m C D k i w hS h1 h2 (by have := hS.2.1; omega) hE
theorem nilD_eq (w : World) : Calls Try.prog 30 #[.slice none 0 0, .slice none 0 0] w fun e w' => e = .returned (.bool true) ∧ Below w.heap.size w w' :=
  sameD _ _ 0 (fun _ => idle) (fun _ => idle) w (by omega) (Holds.nil _ _ _ _) (Holds.nil _ _ _ _) (fun _ _ => rfl)
set_option maxRecDepth 100000 in
set_option maxHeartbeats 6400000 in
theorem driverApplies_walk (v1 : Value) (n : Nat) (C : Nat → Coil) (v2 : Value) (m : Nat) (D : Nat → Drive) (kd ci : Int) (w : World) (h1 : HoldsC w v1 n C) (h2 : HoldsD w v2 m D) :
    Calls Try.prog 5 #[v1, v2, .agg #[.int .i64 kd, .int .i64 ci]] w fun e w' => e = .returned (.bool true) ∧ Below w.heap.size w w' := by
  obtain ⟨a1, k1, rfl, _⟩ := id h1
  obtain ⟨a2, k2, rfl, _⟩ := id h2
  have hal := (Below.refl w.heap.size w).alloc (Nat.le_refl _) (.cells #[.int .i64 kd, .int .i64 ci] 43)
  have HAL := Lib.hid hal
  have H1 := Lib.hid (h1.below hal (Nat.le_refl _))
  have H2 := Lib.hid (h2.below hal (Nat.le_refl _))
  have hls : w.heap.size < (w.alloc (.cells #[.int .i64 kd, .int .i64 ci] 43)).heap.size := by simp
  clear h1 h2 hal
  by_cases hn : 40 < n
  · have t1 : decide (40 < (n : Int)) = true := by simp; omega
    go_enter Try.func5, Try.ntmps5
    go_wp2_with fail
    refine (dsane _).mono ?_
    rintro e w9 ⟨rfl, hb9⟩
    have HB9 := Lib.hid hb9
    clear hb9
    go_wp2
    go_ret
    exact ⟨rfl, HAL.out.trans (HB9.out.mono (Nat.le_of_lt hls))⟩
  have t1 : decide (40 < (n : Int)) = false := by simp; omega
  by_cases hm : 40 < m
  · have t2 : decide (40 < (m : Int)) = true := by simp; omega
    go_enter Try.func5, Try.ntmps5
    go_wp2_with fail
    refine (dsane _).mono ?_
    rintro e w9 ⟨rfl, hb9⟩
    have HB9 := Lib.hid hb9
    clear hb9
    go_wp2
    go_ret
    exact ⟨rfl, HAL.out.trans (HB9.out.mono (Nat.le_of_lt hls))⟩
  have t2 : decide (40 < (m : Int)) = false := by simp; omega
  have hm40 : m ≤ 40 := by omega
  by_cases hS : StateP n C m D
  · have HST := Lib.hid hS
    clear hS
    by_cases hE : applyE n C D ⟨kd, ci⟩ = 0
    · have HE := Lib.hid hE
      clear hE
      go_enter Try.func5, Try.ntmps5
      go_wp2_with fail
      refine (apply_yes (o := ⟨kd, ci⟩) HE.out _ _ _ HST.out H1.out H2.out).mono ?_
      rintro e w1 ⟨va, rfl, hT, hb1⟩
      have HB1 := Lib.hid hb1
      obtain ⟨o0, o1⟩ := box_open hb1 hls
      have HT := Lib.hid hT
      clear hb1 hT
      go_wp2_with fail
      refine (rapply_yes (o := ⟨kd, ci⟩) HE.out _ _ _ HST.out (H1.out.below HB1.out (Nat.le_refl _)) (H2.out.below HB1.out (Nat.le_refl _))).mono ?_
      rintro e w2 ⟨vb, rfl, hT2, hb2⟩
      have HB2 := Lib.hid (HB1.out.trans (hb2.mono HB1.out.size))
      have HA2 := Lib.hid (HT.out.below hb2 (Nat.le_refl _))
      have HT2 := Lib.hid hT2
      clear hb2 hT2 HT
      go_wp2_with fail
      refine (sameD va vb m _ _ _ (by omega) HA2.out HT2.out (fun _ _ => rfl)).mono ?_
      rintro e w3 ⟨rfl, hb3⟩
      have HB3 := Lib.hid (HB2.out.trans (hb3.mono HB2.out.size))
      have HA3 := Lib.hid (HA2.out.below hb3 (Nat.le_refl _))
      clear hb3 HA2 HT2
      go_wp2_with fail
      refine (ristate_yes (applyD_state _ HST.out) _ (H1.out.below HB3.out (Nat.le_refl _)) HA3.out).mono ?_
      rintro e w4 ⟨rfl, hb4⟩
      have HB4 := Lib.hid (HB3.out.trans (hb4.mono HB3.out.size))
      clear hb4
      go_wp2_with fail
      refine (dsane _).mono ?_
      rintro e w5 ⟨rfl, hb5⟩
      have HB5 := Lib.hid (HB4.out.trans (hb5.mono HB4.out.size))
      clear hb5
      go_wp2
      go_ret
      exact ⟨rfl, HAL.out.trans (HB5.out.mono (Nat.le_of_lt hls))⟩
    · have HE := Lib.hid hE
      obtain ⟨E, hEE⟩ : ∃ E, applyE n C D ⟨kd, ci⟩ = E := ⟨_, rfl⟩
      have HEE := Lib.hid hEE
      rw [hEE] at hE
      have t3 : (E != 0) = true := by rw [bne_iff_ne]; exact hE
      clear hE hEE
      go_enter Try.func5, Try.ntmps5
      go_wp2_with fail
      refine (apply_err _ _ n m C D ⟨kd, ci⟩ _ HST.out H1.out H2.out HE.out).mono ?_
      rintro e w1 ⟨rfl, hb1⟩
      rw [HEE.out]
      have HB1 := Lib.hid hb1
      obtain ⟨o0, o1⟩ := box_open hb1 hls
      clear hb1
      go_wp2_with fail
      refine (rapply_no _ _ n m C D ⟨kd, ci⟩ _ HST.out (H1.out.below HB1.out (Nat.le_refl _)) (H2.out.below HB1.out (Nat.le_refl _)) HE.out).mono ?_
      rintro e w2 ⟨rfl, hb2⟩
      rw [HEE.out]
      have HB2 := Lib.hid (HB1.out.trans (hb2.mono HB1.out.size))
      clear hb2
      go_wp2_with fail
      refine (nilD_eq _).mono ?_
      rintro e w3 ⟨rfl, hb3⟩
      have HB3 := Lib.hid (HB2.out.trans (hb3.mono HB2.out.size))
      clear hb3
      go_wp2_with fail
      refine (dsane _).mono ?_
      rintro e w5 ⟨rfl, hb5⟩
      have HB5 := Lib.hid (HB3.out.trans (hb5.mono HB3.out.size))
      clear hb5
      go_wp2
      go_ret
      exact ⟨rfl, HAL.out.trans (HB5.out.mono (Nat.le_of_lt hls))⟩
  · have HST := Lib.hid hS
    clear hS
    go_enter Try.func5, Try.ntmps5
    go_wp2_with fail
    refine (apply_arg _ _ n m C D ⟨kd, ci⟩ _ HST.out H1.out H2.out).mono ?_
    rintro e w1 ⟨rfl, hb1⟩
    have HB1 := Lib.hid hb1
    obtain ⟨o0, o1⟩ := box_open hb1 hls
    clear hb1
    go_wp2_with fail
    refine (rapply_arg _ _ n m C D ⟨kd, ci⟩ _ HST.out (H1.out.below HB1.out (Nat.le_refl _)) (H2.out.below HB1.out (Nat.le_refl _))).mono ?_
    rintro e w2 ⟨rfl, hb2⟩
    have HB2 := Lib.hid (HB1.out.trans (hb2.mono HB1.out.size))
    clear hb2
    go_wp2_with fail
    refine (nilD_eq _).mono ?_
    rintro e w3 ⟨rfl, hb3⟩
    have HB3 := Lib.hid (HB2.out.trans (hb3.mono HB2.out.size))
    clear hb3
    go_wp2_with fail
    refine (dsane _).mono ?_
    rintro e w5 ⟨rfl, hb5⟩
    have HB5 := Lib.hid (HB3.out.trans (hb5.mono HB3.out.size))
    clear hb5
    go_wp2
    go_ret
    exact ⟨rfl, HAL.out.trans (HB5.out.mono (Nat.le_of_lt hls))⟩
end Go.Proofs.Ytfgkljfoalgkaaa
