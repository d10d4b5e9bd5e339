/-
  The walk of the law DriverTicks: for all arguments it hands back true, and nothing that was there turns.
-/
import Derived.Test.YtfgkljfoalgkaaaRTick
import Derived.Test.YtfgkljfoalgkaaaDSane2
namespace Go.Proofs.Ytfgkljfoalgkaaa
open Go.RowKit

theorem nilD_same (w : World) : Calls Try.prog 30 #[.slice none 0 0, .slice none 0 0] w fun e w' => e = .returned (.bool true) ∧ Below w.heap.size w w' :=
  sameD _ _ 0 (fun _ => idle) (fun _ => idle) w (by omega) (Holds.nil _ _ _ _) (Holds.nil _ _ _ _) (fun _ _ => rfl)
set_option maxRecDepth 100000 in
set_option maxHeartbeats 6400000 in
theorem driverTicks_walk (v1 : Value) (n : Nat) (C : Nat → Coil) (v2 : Value) (m : Nat) (D : Nat → Drive) (w : World) (h1 : HoldsC w v1 n C) (h2 : HoldsD w v2 m D) :
    Calls Try.prog 6 #[v1, v2] w fun e w' => e = .returned (.bool true) ∧ Below w.heap.size w w' := by
  obtain ⟨a1, k1, rfl, _⟩ := id h1
  obtain ⟨a2, k2, rfl, _⟩ := id h2
  have H1 := Lib.hid h1
  have H2 := Lib.hid h2
  clear h1 h2
  by_cases hn : 40 < n
  · have t1 : decide (40 < (n : Int)) = true := by simp; omega
    go_enter Try.func6, Try.ntmps6
    go_wp2_with fail
    refine (dsane _).mono ?_
    rintro e w9 ⟨rfl, hb9⟩
    have HB9 := Lib.hid hb9
    clear hb9
    go_wp2
    go_ret
    exact ⟨rfl, HB9.out⟩
  have t1 : decide (40 < (n : Int)) = false := by simp; omega
  by_cases hm : 40 < m
  · have t2 : decide (40 < (m : Int)) = true := by simp; omega
    go_enter Try.func6, Try.ntmps6
    go_wp2_with fail
    refine (dsane _).mono ?_
    rintro e w9 ⟨rfl, hb9⟩
    have HB9 := Lib.hid hb9
    clear hb9
    go_wp2
    go_ret
    exact ⟨rfl, HB9.out⟩
  have t2 : decide (40 < (m : Int)) = false := by simp; omega
  have hm40 : m ≤ 40 := by omega
  by_cases hS : StateP n C m D
  · have HST := Lib.hid hS
    clear hS
    go_enter Try.func6, Try.ntmps6
    go_wp2_with fail
    refine (tickC _ _ n m C D _ HST.out H1.out H2.out).mono ?_
    rintro e w1 ⟨va, rfl, hT, _, hb1⟩
    have HB1 := Lib.hid hb1
    have HT := Lib.hid hT
    clear hb1 hT
    go_wp2_with fail
    refine (rtick_ok _ _ n m C D _ HST.out (H1.out.below HB1.out (Nat.le_refl _)) (H2.out.below HB1.out (Nat.le_refl _))).mono ?_
    rintro e w2 ⟨vb, rfl, hT2, hb2⟩
    have HB2 := Lib.hid (HB1.out.trans (hb2.mono HB1.out.size))
    have HA2 := Lib.hid (HT.out.below hb2 (Nat.le_refl _))
    have HT2 := Lib.hid hT2
    clear hb2 hT2 HT
    go_wp2_with fail
    refine (sameD va vb m _ _ _ (by omega) HA2.out HT2.out (fun _ _ => rfl)).mono ?_
    rintro e w3 ⟨rfl, hb3⟩
    have HB3 := Lib.hid (HB2.out.trans (hb3.mono HB2.out.size))
    have HA3 := Lib.hid (HA2.out.below hb3 (Nat.le_refl _))
    clear hb3 HA2 HT2
    go_wp2_with fail
    refine (ristate_yes (nextAll_state HST.out) _ (H1.out.below HB3.out (Nat.le_refl _)) HA3.out).mono ?_
    rintro e w4 ⟨rfl, hb4⟩
    have HB4 := Lib.hid (HB3.out.trans (hb4.mono HB3.out.size))
    clear hb4
    go_wp2_with fail
    refine (dsane _).mono ?_
    rintro e w5 ⟨rfl, hb5⟩
    have HB5 := Lib.hid (HB4.out.trans (hb5.mono HB4.out.size))
    clear hb5
    go_wp2
    go_ret
    exact ⟨rfl, HB5.out⟩
  · have HST := Lib.hid hS
    clear hS
    go_enter Try.func6, Try.ntmps6
    go_wp2_with fail
    refine (tick_arg _ _ n m C D _ HST.out H1.out H2.out).mono ?_
    rintro e w1 ⟨rfl, hb1⟩
    have HB1 := Lib.hid hb1
    clear hb1
    go_wp2_with fail
    refine (rtick_arg _ _ n m C D _ HST.out (H1.out.below HB1.out (Nat.le_refl _)) (H2.out.below HB1.out (Nat.le_refl _))).mono ?_
    rintro e w2 ⟨rfl, hb2⟩
    have HB2 := Lib.hid (HB1.out.trans (hb2.mono HB1.out.size))
    clear hb2
    go_wp2_with fail
    refine (nilD_same _).mono ?_
    rintro e w3 ⟨rfl, hb3⟩
    have HB3 := Lib.hid (HB2.out.trans (hb3.mono HB2.out.size))
    clear hb3
    go_wp2_with fail
    refine (dsane _).mono ?_
    rintro e w5 ⟨rfl, hb5⟩
    have HB5 := Lib.hid (HB3.out.trans (hb5.mono HB3.out.size))
    clear hb5
    go_wp2
    go_ret
    exact ⟨rfl, HB5.out⟩
end Go.Proofs.Ytfgkljfoalgkaaa
