/-
  The walk of the law MatrixSafe: for all arguments it hands back true, and nothing that was there turns.
-/
import Derived.Test.YtpboblanjngeeaaRefSafeW
import Derived.Test.YtpboblanjngeeaaLawA
namespace Go.Proofs.Ytpboblanjngeeaa
open Go.RowKit
attribute [local go_sem] shr_min64 shr_min8 shl_min64 U_shr U_shr' U_shl U_shl' U_shl1 U_and U_or U_andNot U_and1 U_bit U_bit0 U_to8 B8_to64 B8_shr B8_shr' B8_shl B8_shl' B8_shl1 B8_pow U_pow B8_and B8_or B8_andNot B8_and1 B8_bit B8_bit0 Later.cell

theorem safe_val {s b d : BitVec 64} {v : Bool} (h : safeB s b d = v) (w : World) :
    Calls Try.prog 28 #[.agg #[.int .u64 (U s), .int .u64 (U b), .int .u64 (U d)]] w fun e w' => e = .returned (.bool v) ∧ Below w.heap.size w w' := by
  rw [← h]; exact safe_any s b d w
theorem refSafe_val {s b d : BitVec 64} {v : Bool} (h : safeB s b d = v) (w : World) :
    Calls Try.prog 29 #[.agg #[.int .u64 (U s), .int .u64 (U b), .int .u64 (U d)]] w fun e w' => e = .returned (.bool v) ∧ Below w.heap.size w w' := by
  rw [← h]; exact refSafe_any s b d w

set_option maxHeartbeats 1600000 in
theorem matrixSafe_walk (s b d x : BitVec 64) (w : World) :
    Calls Try.prog 11 #[.agg #[.int .u64 (U s), .int .u64 (U b), .int .u64 (U d)], .int .u64 (U x)] w fun e w' => e = .returned (.bool true) ∧ Below w.heap.size w w' := by
  cases hs : safeB s b d with
  | false =>
    go_enter Try.func11, Try.ntmps11
    go_wp2_with fail
    refine (safe_val hs _).mono ?_
    rintro e w1 ⟨rfl, hb1⟩
    obtain ⟨k0, k1, k2, k3, hb⟩ := keep3 hb1
    have Hb := Lib.hid hb
    clear hb1 hb
    go_wp2_with fail
    refine wp_region_later (by kernel_rfl) (by kernel_rfl) ?_
    repeat (go_big_quiet_step ((first | (go_at_call 29; exact Later.of (refSafe_val hs _)) | (go_at_call 23; exact sane_later _))))
    refine wpQuiet_nil ?_
    rintro _ ⟨z, rfl⟩
    go_wp2
    go_ret
    exact ⟨rfl, Hb.out.trans (z.h.mono Hb.out.size)⟩
  | true =>
    have q1 : (U (ghostB s b d x) == 0) = true := by rw [safe_ghost hs]; rfl
    have q2 : (U (scanB s b d x) == U (phys s b x)) = true := by rw [U_inj, safe_scan hs]; simp
    go_enter Try.func11, Try.ntmps11
    go_wp2_with fail
    refine (safe_val hs _).mono ?_
    rintro e w1 ⟨rfl, hb1⟩
    obtain ⟨k0, k1, k2, k3, hb⟩ := keep3 hb1
    have Hb := Lib.hid hb
    clear hb1 hb
    go_wp2_with fail
    refine wp_region_later (by kernel_rfl) (by kernel_rfl) ?_
    repeat (go_big_quiet_step ((first | (go_at_call 29; exact Later.of (refSafe_val hs _)) | (go_at_call 21; exact Later.of (ghosts_any _ _ _ _ _)) | (go_at_call 19; exact Later.of (scan_any _ _ _ _ _)) | (go_at_call 17; exact Later.of (phys_any _ _ _ _ _)) | (go_at_call 23; exact sane_later _))))
    refine wpQuiet_nil ?_
    rintro _ ⟨z, rfl⟩
    go_wp2
    go_ret
    exact ⟨rfl, Hb.out.trans (z.h.mono Hb.out.size)⟩
end Go.Proofs.Ytpboblanjngeeaa
