/-
  The walk of the law MatrixSuspects: for all arguments it hands back true, and nothing that was there turns.
-/
import Derived.Test.YtpboblanjngeeaaSuspect
import Derived.Test.YtpboblanjngeeaaLawA
namespace Go.Proofs.Ytpboblanjngeeaa
open Go.RowKit
attribute [local go_sem] shr_min64 shr_min8 shl_min64 U_shr U_shr' U_shl U_shl' U_shl1 U_and U_or U_andNot U_and1 U_bit U_bit0 U_to8 B8_to64 B8_shr B8_shr' B8_shl B8_shl' B8_shl1 B8_pow U_pow B8_and B8_or B8_andNot B8_and1 B8_bit B8_bit0 Later.cell

theorem suspects_agree (v : Value) (n : Nat) (C R : Nat → BitVec 64) : ∃ a b E : Int,
    (∀ w, HoldsS w v n C R → Calls Try.prog 30 #[v] w fun e w' => e = .returned (.tuple #[.int .u64 a, .int .u64 b, .int .i64 E]) ∧ Below w.heap.size w w') ∧
    (∀ w, HoldsS w v n C R → Calls Try.prog 31 #[v] w fun e w' => e = .returned (.tuple #[.int .u64 a, .int .u64 b, .int .i64 E]) ∧ Below w.heap.size w w') := by
  by_cases h : n ≤ 1000
  · exact ⟨_, _, _, fun w hv => suspects_in v n C R w hv h, fun w hv => refSuspects_in v n C R w hv h⟩
  · exact ⟨_, _, _, fun w hv => suspects_out v n C R w hv (by omega), fun w hv => refSuspects_out v n C R w hv (by omega)⟩

set_option maxHeartbeats 800000 in
theorem matrixSuspects_walk (v : Value) (n : Nat) (C R : Nat → BitVec 64) (w : World) (hv : HoldsS w v n C R) :
    Calls Try.prog 12 #[v] w fun e w' => e = .returned (.bool true) ∧ Below w.heap.size w w' := by
  obtain ⟨a, b, E, c1, c2⟩ := suspects_agree v n C R
  have C1 := Lib.hid c1
  have C2 := Lib.hid c2
  have HV := Lib.hid hv
  clear c1 c2 hv
  go_enter Try.func12, Try.ntmps12
  go_wp2_with fail
  refine (C1.out _ HV.out).mono ?_
  rintro e w1 ⟨rfl, hb1⟩
  have Hb1 := Lib.hid hb1
  have HV1 := Lib.hid (HV.out.below hb1 (Nat.le_refl _))
  clear hb1
  go_wp2_with fail
  refine (C2.out _ HV1.out).mono ?_
  rintro e w2 ⟨rfl, hb2⟩
  have Hb2 := Lib.hid hb2
  clear hb2
  go_wp2_with fail
  refine (sane_any _).mono ?_
  rintro e w3 ⟨rfl, hb3⟩
  have Hb3 := Lib.hid hb3
  clear hb3
  go_wp2
  go_ret
  exact ⟨rfl, Hb1.out.trans ((Hb2.out.trans (Hb3.out.mono Hb2.out.size)).mono Hb1.out.size)⟩
end Go.Proofs.Ytpboblanjngeeaa
