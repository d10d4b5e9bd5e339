/-
  The small functions: matrix.has, matrix.Physical, the reference's has and Physical.
-/
import Derived.Test.YtpboblanjngeeaaRows
import Derived.Test.YtpboblanjngeeaaBits
import Derived.Test.YtpboblanjngeeaaPlain
namespace Go.Proofs.Ytpboblanjngeeaa
open Go.RowKit
attribute [local go_sem] shr_min64 shr_min8 U_shr U_shr' U_shl U_shl1 U_and U_or U_andNot U_and1 U_bit U_to8 B8_to64 B8_shr B8_shr' B8_shl B8_shl1 B8_and B8_or B8_andNot B8_and1 B8_bit B8_bit0 Later.cell

theorem has_any (x : BitVec 64) (c r : Nat) (hc : c ≤ 100) (hr : r ≤ 100) (w : World) :
    Calls Try.prog 35 #[.int .u64 (U x), .int .i64 c, .int .i64 r] w fun e w' => e = .returned (.bool (tb x (8 * c + r))) ∧ w = w' := by
  have h0 : (0 : Int) ≤ 8 * (c : Int) + (r : Int) := by omega
  go_enter Try.func35, Try.ntmps35
  go_wp2
  go_ret
  exact ⟨rfl, rfl⟩
theorem refHas_any (x : BitVec 64) (s : Nat) (hs : s ≤ 1000) (w : World) :
    Calls Try.prog 38 #[.int .u64 (U x), .int .i64 s] w fun e w' => e = .returned (.bool (tb x s)) ∧ w = w' := by
  go_enter Try.func38, Try.ntmps38
  go_wp2
  go_ret
  exact ⟨rfl, rfl⟩
theorem phys_any (s b d x : BitVec 64) (w : World) :
    Calls Try.prog 17 #[.agg #[.int .u64 (U s), .int .u64 (U b), .int .u64 (U d)], .int .u64 (U x)] w fun e w' => e = .returned (.int .u64 (U (phys s b x))) ∧ Below w.heap.size w w' := by
  go_enter Try.func17, Try.ntmps17
  go_wp2
  go_ret
  exact ⟨rfl, (Below.refl _ _).alloc (Nat.le_refl _) _⟩
theorem refPhys_any (s b d x : BitVec 64) (w : World) :
    Calls Try.prog 18 #[.agg #[.int .u64 (U s), .int .u64 (U b), .int .u64 (U d)], .int .u64 (U x)] w fun e w' => e = .returned (.int .u64 (U (phys s b x))) ∧ Below w.heap.size w w' := by
  go_enter Try.func18, Try.ntmps18
  go_wp2
  go_ret
  exact ⟨rfl, (Below.refl _ _).alloc (Nat.le_refl _) _⟩
end Go.Proofs.Ytpboblanjngeeaa
