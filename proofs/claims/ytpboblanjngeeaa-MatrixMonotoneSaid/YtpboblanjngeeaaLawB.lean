/-
  The walk of the law MatrixMonotone: for all arguments it hands back true, and nothing that was there turns.
-/
import Derived.Test.YtpboblanjngeeaaLawA
namespace Go.Proofs.Ytpboblanjngeeaa
open Go.RowKit
attribute [local go_sem] shr_min64 shr_min8 shl_min64 U_shr U_shr' U_shl U_shl' U_shl1 U_and U_or U_andNot U_and1 U_bit U_to8 B8_to64 B8_shr B8_shr' B8_shl B8_shl' B8_shl1 B8_pow U_pow B8_and B8_or B8_andNot B8_and1 B8_bit B8_bit0 Later.cell

set_option maxHeartbeats 800000 in
theorem matrixMonotone_walk (s b d x y : BitVec 64) (w : World) :
    Calls Try.prog 7 #[.agg #[.int .u64 (U s), .int .u64 (U b), .int .u64 (U d)], .int .u64 (U x), .int .u64 (U y)] w fun e w' => e = .returned (.bool true) ∧ Below w.heap.size w w' := by
  have q1 : (U (scanB s b d x &&& ~~~scanB s b d (x ||| y)) == 0) = true := by rw [mono_closed]; rfl
  have q2 : (U (scanB s b d x &&& ~~~scanB s b (d ||| y >>> 7) x) == 0) = true := by rw [mono_diodes]; rfl
  have q3 : U y / (128 : Int) = U (y >>> 7) := U_shr' y 7
  go_enter Try.func7, Try.ntmps7
  go_wp2
  refine wp_region_later (by kernel_rfl) (by kernel_rfl) ?_
  repeat (go_big_quiet_step ((first | (go_at_call 19; exact Later.of (scan_any _ _ _ _ _)) | (go_at_call 23; exact sane_later _))))
  refine wpQuiet_nil ?_
  rintro _ ⟨z, rfl⟩
  go_wp2
  go_ret
  exact ⟨rfl, ((Below.refl _ _).alloc (Nat.le_refl _) _).trans (((Below.refl _ _).alloc (by simp) _).trans (z.h.mono (by simp; omega)))⟩
end Go.Proofs.Ytpboblanjngeeaa
