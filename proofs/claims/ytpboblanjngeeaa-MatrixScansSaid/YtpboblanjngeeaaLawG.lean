/-
  The walk of the law MatrixScans: for all arguments it hands back true, and nothing that was there turns.
-/
import Derived.Test.YtpboblanjngeeaaRefScanW
import Derived.Test.YtpboblanjngeeaaLawA
namespace Go.Proofs.Ytpboblanjngeeaa
open Go.RowKit
attribute [local go_sem] shr_min64 shr_min8 shl_min64 U_shr U_shr' U_shl U_shl' U_shl1 U_and U_or U_andNot U_and1 U_bit U_bit0 U_to8 B8_to64 B8_shr B8_shr' B8_shl B8_shl' B8_shl1 B8_pow U_pow B8_and B8_or B8_andNot B8_and1 B8_bit B8_bit0 Later.cell

def colR (s b d x : BitVec 64) (c : Int) : Int := if 0 ≤ c ∧ c ≤ 7 then B8 (colB s b d x c.toNat) else 0
def colE (c : Int) : Int := if 0 ≤ c ∧ c ≤ 7 then 0 else 5
theorem column_all (s b d x : BitVec 64) (c : Int) (w : World) :
    Calls Try.prog 15 #[.agg #[.int .u64 (U s), .int .u64 (U b), .int .u64 (U d)], .int .u64 (U x), .int .i64 c] w fun e w' => e = .returned (.tuple #[.int .u8 (colR s b d x c), .int .i64 (colE c)]) ∧ Below w.heap.size w w' := by
  unfold colR colE
  by_cases h : 0 ≤ c ∧ c ≤ 7
  · rw [if_pos h, if_pos h]
    have := column_in s b d x c.toNat (by omega) w
    rwa [show ((c.toNat : Nat) : Int) = c by omega] at this
  · rw [if_neg h, if_neg h]
    exact column_out s b d x c h w
theorem refColumn_all (s b d x : BitVec 64) (c : Int) (w : World) :
    Calls Try.prog 16 #[.agg #[.int .u64 (U s), .int .u64 (U b), .int .u64 (U d)], .int .u64 (U x), .int .i64 c] w fun e w' => e = .returned (.tuple #[.int .u8 (colR s b d x c), .int .i64 (colE c)]) ∧ Below w.heap.size w w' := by
  unfold colR colE
  by_cases h : 0 ≤ c ∧ c ≤ 7
  · rw [if_pos h, if_pos h]
    have := refColumn_in s b d x c.toNat (by omega) w
    rwa [show ((c.toNat : Nat) : Int) = c by omega] at this
  · rw [if_neg h, if_neg h]
    exact refColumn_out s b d x c h w

set_option maxHeartbeats 1600000 in
theorem matrixScans_walk (s b d x : BitVec 64) (c : Int) (_h1 : -9223372036854775808 ≤ c) (_h2 : c ≤ 9223372036854775807) (w : World) :
    Calls Try.prog 3 #[.agg #[.int .u64 (U s), .int .u64 (U b), .int .u64 (U d)], .int .u64 (U x), .int .i64 c] w fun e w' => e = .returned (.bool true) ∧ Below w.heap.size w w' := by
  go_enter Try.func3, Try.ntmps3
  go_wp2
  obtain ⟨w1, hw1⟩ : ∃ w1, w1 = w.alloc (.cells #[.int .u64 (U s), .int .u64 (U b), .int .u64 (U d)] 24) := ⟨_, rfl⟩
  have hf0 : w1.cell? ⟨w.heap.size, 0, none⟩ = some (.int .u64 (U s)) := by rw [hw1]; simp [go_sem]
  have hf1 : w1.cell? ⟨w.heap.size, 1, none⟩ = some (.int .u64 (U b)) := by rw [hw1]; simp [go_sem]
  have hf2 : w1.cell? ⟨w.heap.size, 2, none⟩ = some (.int .u64 (U d)) := by rw [hw1]; simp [go_sem]
  have hz : w.heap.size < w1.heap.size := by rw [hw1]; simp
  have Hb1 := Lib.hid (show Below w.heap.size w w1 by rw [hw1]; exact (Below.refl _ w).alloc (Nat.le_refl _) _)
  rw [← hw1]
  clear hw1
  go_loopg [7] 10 (fun g i wr => ∃ k : Int, -1 ≤ k ∧ k ≤ 9 ∧ g = (9 - k).toNat ∧ i = .int .i64 k ∧ Below w1.heap.size w1 wr)
  case atStart => exact ⟨-1, by omega, by omega, rfl, rfl, Below.refl _ _⟩
  case round =>
    obtain ⟨k, hk0, hk, hg, rfl, hb⟩ := hrel
    have Hb := Lib.hid hb
    have Hg := Lib.hid hg
    have g0 : wr.cell? ⟨w.heap.size, 0, none⟩ = some (.int .u64 (U s)) := by rw [hb.cell hz]; exact hf0
    have g1 : wr.cell? ⟨w.heap.size, 1, none⟩ = some (.int .u64 (U b)) := by rw [hb.cell hz]; exact hf1
    have g2 : wr.cell? ⟨w.heap.size, 2, none⟩ = some (.int .u64 (U d)) := by rw [hb.cell hz]; exact hf2
    have gz : w.heap.size < wr.heap.size := Nat.lt_of_lt_of_le hz hb.size
    clear hb hg
    by_cases hk9 : k < 9
    · go_wp2_with (first | (go_at_call 15; refine (column_all _ _ _ _ _ _).mono ?_; rintro e w2 ⟨rfl, hb2⟩; obtain ⟨m0, m1, m2, mz⟩ := keep3' hb2 ⟨g0, g1, g2, gz⟩; have Hb2 := Lib.hid hb2; clear hb2) | (go_at_call 16; refine (refColumn_all _ _ _ _ _ _).mono ?_; rintro e w3 ⟨rfl, hb3⟩; have Hb3 := Lib.hid hb3; clear hb3))
      go_roundg (9 - (k + 1)).toNat
      case measure => have := Hg.out; omega
      case rel => exact ⟨k + 1, by omega, by omega, rfl, by go_num, Hb.out.trans ((Hb2.out.trans (Hb3.out.mono Hb2.out.size)).mono Hb.out.size)⟩
    · go_wp2_with fail
      refine (column_all _ _ _ _ _ _).mono ?_
      rintro e w2 ⟨rfl, hb2⟩
      obtain ⟨m0, m1, m2, mz⟩ := keep3' hb2 ⟨g0, g1, g2, gz⟩
      have Hb2 := Lib.hid hb2
      clear hb2
      go_wp2_with fail
      refine (refColumn_all _ _ _ _ _ _).mono ?_
      rintro e w3 ⟨rfl, hb3⟩
      obtain ⟨n0, n1, n2, nz⟩ := keep3' hb3 ⟨m0, m1, m2, mz⟩
      have Hb3 := Lib.hid hb3
      clear hb3
      clear g0 g1 g2 gz m0 m1 m2 mz hf0 hf1 hf2 hz
      go_wp2_with fail
      refine wp_region_later (by kernel_rfl) (by kernel_rfl) ?_
      repeat (go_big_quiet_step ((first | (go_at_call 17; exact Later.of (phys_any _ _ _ _ _)) | (go_at_call 18; exact Later.of (refPhys_any _ _ _ _ _)) | (go_at_call 19; exact Later.of (scan_any _ _ _ _ _)) | (go_at_call 20; exact Later.of (refScan_any _ _ _ _ _)) | (go_at_call 21; exact Later.of (ghosts_any _ _ _ _ _)) | (go_at_call 22; exact Later.of (refGhosts_any _ _ _ _ _)) | (go_at_call 23; exact sane_later _))))
      refine wpQuiet_nil ?_
      rintro _ ⟨z, rfl⟩
      go_wp2
      go_ret
      exact ⟨rfl, Hb1.out.trans ((Hb.out.trans ((Hb2.out.trans ((Hb3.out.trans (z.h.mono Hb3.out.size)).mono Hb2.out.size)).mono Hb.out.size)).mono Hb1.out.size)⟩
end Go.Proofs.Ytpboblanjngeeaa
