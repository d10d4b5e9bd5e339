/-
  The walk of the law DriverStates: for all arguments it hands back true, and nothing that was there turns.
-/
import Derived.Test.YtfgkljfoalgkaaaDRef
import Derived.Test.YtfgkljfoalgkaaaDSane2
namespace Go.Proofs.Ytfgkljfoalgkaaa
open Go.RowKit

set_option maxRecDepth 100000 in
set_option maxHeartbeats 6400000 in
theorem driverStates_walk (v1 : Value) (n : Nat) (C : Nat → Coil) (v2 : Value) (m : Nat) (D : Nat → Drive) (w : World) (h1 : HoldsC w v1 n C) (h2 : HoldsD w v2 m D) :
    Calls Try.prog 4 #[v1, v2] w fun e w' => e = .returned (.bool true) ∧ Below w.heap.size w w' := by
  obtain ⟨b, hb⟩ : ∃ b : Bool, b = true ↔ StateP n C m D := by
    by_cases h : StateP n C m D
    · exact ⟨true, ⟨fun _ => h, fun _ => rfl⟩⟩
    · exact ⟨false, ⟨fun e => Bool.noConfusion e, fun e => absurd e h⟩⟩
  obtain ⟨a1, k1, rfl, _⟩ := id h1
  obtain ⟨a2, k2, rfl, _⟩ := id h2
  have HI := Lib.hid (fun W0 g1 g2 => show Calls Try.prog 31 #[.slice a1 n k1, .slice a2 m k2] W0 fun e w' => e = .returned (.bool b) ∧ Below W0.heap.size W0 w' from (isState_any _ _ n m C D W0 g1 g2).mono fun _ _ ⟨b', he, hb', hw⟩ => ⟨by rw [he, show b' = b from Bool.eq_iff_iff.2 (hb'.trans hb.symm)], hw⟩)
  have HR := Lib.hid (fun W0 g1 g2 => show Calls Try.prog 32 #[.slice a1 n k1, .slice a2 m k2] W0 fun e w' => e = .returned (.bool b) ∧ Below W0.heap.size W0 w' from (ristate _ _ n m C D W0 g1 g2).mono fun _ _ ⟨b', he, hb', hw⟩ => ⟨by rw [he, show b' = b from Bool.eq_iff_iff.2 (hb'.trans hb.symm)], hw⟩)
  have H1 := Lib.hid h1
  have H2 := Lib.hid h2
  clear h1 h2 hb
  by_cases hn : 40 < n
  · have t1 : decide (40 < (n : Int)) = true := by simp; omega
    go_enter Try.func4, Try.ntmps4
    try simp only [List.append_eq, List.cons_append, List.nil_append]
    go_wp2_with fail
    refine (dsane _).mono ?_
    rintro e w9 ⟨rfl, hb9⟩
    have HB9 := Lib.hid hb9
    clear hb9
    go_wp2
    go_ret
    exact ⟨rfl, HB9.out⟩
  have t1 : decide (40 < (n : Int)) = false := by simp; omega
  by_cases hm : 40 < m
  · have t2 : decide (40 < (m : Int)) = true := by simp; omega
    go_enter Try.func4, Try.ntmps4
    try simp only [List.append_eq, List.cons_append, List.nil_append]
    go_wp2_with fail
    refine (dsane _).mono ?_
    rintro e w9 ⟨rfl, hb9⟩
    have HB9 := Lib.hid hb9
    clear hb9
    go_wp2
    go_ret
    exact ⟨rfl, HB9.out⟩
  have t2 : decide (40 < (m : Int)) = false := by simp; omega
  obtain ⟨E, hEE⟩ : ∃ E, validE n C = E := ⟨_, rfl⟩
  have HE := Lib.hid hEE
  go_enter Try.func4, Try.ntmps4
  try simp only [List.append_eq, List.cons_append, List.nil_append]
  go_wp2_with fail
  refine (dnew _ n C _ H1.out).mono ?_
  rintro e w1 ⟨va, rfl, hT1, hb1⟩
  have HB1 := Lib.hid hb1
  have HT1 := Lib.hid hT1
  rw [HE.out]
  clear hb1 hT1 hEE
  go_wp2_with fail
  refine (rdnew _ n C _ (H1.out.below HB1.out (Nat.le_refl _))).mono ?_
  rintro e w2 ⟨vb, rfl, hT2, hb2⟩
  have HB2 := Lib.hid (HB1.out.trans (hb2.mono HB1.out.size))
  have HA2 := Lib.hid (HT1.out.below hb2 (Nat.le_refl _))
  have HT2 := Lib.hid hT2
  rw [HE.out]
  clear hb2 hT2 HT1
  go_wp2_with fail
  refine (valid_any _ n C _ (H1.out.below HB2.out (Nat.le_refl _))).mono ?_
  rintro e w3 ⟨rfl, hb3⟩
  have HB3 := Lib.hid (HB2.out.trans (hb3.mono HB2.out.size))
  have HA3 := Lib.hid (HA2.out.below hb3 (Nat.le_refl _))
  have HT3 := Lib.hid (HT2.out.below hb3 (Nat.le_refl _))
  rw [HE.out]
  clear hb3 HA2 HT2
  go_wp2_with fail
  refine (rvalid_any _ n C _ (H1.out.below HB3.out (Nat.le_refl _))).mono ?_
  rintro e w4 ⟨rfl, hb4⟩
  have HB4 := Lib.hid (HB3.out.trans (hb4.mono HB3.out.size))
  have HA4 := Lib.hid (HA3.out.below hb4 (Nat.le_refl _))
  have HT4 := Lib.hid (HT3.out.below hb4 (Nat.le_refl _))
  rw [HE.out]
  clear hb4 HA3 HT3
  go_wp2_with fail
  refine (sameD va vb _ _ _ _ (by split <;> omega) HA4.out HT4.out (fun _ _ => rfl)).mono ?_
  rintro e w6 ⟨rfl, hb6⟩
  have HB6 := Lib.hid (HB4.out.trans (hb6.mono HB4.out.size))
  have HA6 := Lib.hid (HA4.out.below hb6 (Nat.le_refl _))
  clear hb6 HA4 HT4
  go_wp2_with fail
  refine (HI.out _ (H1.out.below HB6.out (Nat.le_refl _)) (H2.out.below HB6.out (Nat.le_refl _))).mono ?_
  rintro e w7 ⟨rfl, hb7⟩
  have HB7 := Lib.hid (HB6.out.trans (hb7.mono HB6.out.size))
  have HA7 := Lib.hid (HA6.out.below hb7 (Nat.le_refl _))
  clear hb7 HA6
  go_wp2_with fail
  refine (HR.out _ (H1.out.below HB7.out (Nat.le_refl _)) (H2.out.below HB7.out (Nat.le_refl _))).mono ?_
  rintro e w8 ⟨rfl, hb8⟩
  have HB8 := Lib.hid (HB7.out.trans (hb8.mono HB7.out.size))
  have HA8 := Lib.hid (HA7.out.below hb8 (Nat.le_refl _))
  clear hb8 HA7
  have t3 : (b == b) = true := by simp
  by_cases hE : E = 0
  · subst hE
    have HI8 := Lib.hid (show HoldsD w8 va n (fun _ => idle) from by have h := HA8.out; rw [HE.out, if_pos rfl] at h; exact h)
    go_wp2_with fail
    refine (isState_yes (idle_state HE.out) _ (H1.out.below HB8.out (Nat.le_refl _)) HI8.out).mono ?_
    rintro e w9 ⟨rfl, hb9⟩
    have HB9 := Lib.hid (HB8.out.trans (hb9.mono HB8.out.size))
    clear hb9
    go_wp2_with fail
    refine (dsane _).mono ?_
    rintro e w10 ⟨rfl, hb10⟩
    have HB10 := Lib.hid (HB9.out.trans (hb10.mono HB9.out.size))
    clear hb10
    go_wp2
    go_ret
    exact ⟨rfl, HB10.out⟩
  · have t4 : (E != 0) = true := by rw [bne_iff_ne]; exact hE
    go_wp2_with fail
    refine (dsane _).mono ?_
    rintro e w10 ⟨rfl, hb10⟩
    have HB10 := Lib.hid (HB8.out.trans (hb10.mono HB8.out.size))
    clear hb10
    go_wp2
    go_ret
    exact ⟨rfl, HB10.out⟩
end Go.Proofs.Ytfgkljfoalgkaaa
