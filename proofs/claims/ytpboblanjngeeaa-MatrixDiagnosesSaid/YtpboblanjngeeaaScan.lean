/-
  matrix.Column, matrix.Scan, matrix.Ghosts: what they hand back, as computed sets. No condition.
-/
import Derived.Test.YtpboblanjngeeaaSmall
import Derived.Test.YtpboblanjngeeaaReach
namespace Go.Proofs.Ytpboblanjngeeaa
open Go.RowKit
attribute [local go_sem] shr_min64 shr_min8 shl_min64 U_shr U_shr' U_shl U_shl' U_shl1 U_and U_or U_andNot U_and1 U_bit U_to8 B8_to64 B8_shr B8_shr' B8_shl B8_shl' B8_shl1 B8_pow U_pow B8_and B8_or B8_andNot B8_and1 B8_bit B8_bit0 Later.cell

theorem column_in (s b d x : BitVec 64) (c : Nat) (hc : c < 8) (w : World) :
    Calls Try.prog 15 #[.agg #[.int .u64 (U s), .int .u64 (U b), .int .u64 (U d)], .int .u64 (U x), .int .i64 c] w fun e w' => e = .returned (.tuple #[.int .u8 (B8 (colB s b d x c)), .int .i64 0]) ∧ Below w.heap.size w w' := by
  have h1 : ¬ (7 < (c : Int)) := by omega
  go_enter Try.func15, Try.ntmps15
  go_wp2
  refine wp_region_later (by kernel_rfl) (by kernel_rfl) ?_
  repeat (go_big_quiet_step ((first | (go_at_call 17; exact Later.of (phys_any s b d x _)) | (go_at_call 32; exact Later.of (reach_any s b d (phys s b x) c hc _)))))
  refine wpQuiet_nil ?_
  rintro _ ⟨z, rfl⟩
  go_wp2
  go_ret2
  exact ⟨rfl, ((Below.refl _ _).alloc (Nat.le_refl _) _).trans (z.h.mono (by simp))⟩
theorem column_out (s b d x : BitVec 64) (c : Int) (hc : ¬ (0 ≤ c ∧ c ≤ 7)) (w : World) :
    Calls Try.prog 15 #[.agg #[.int .u64 (U s), .int .u64 (U b), .int .u64 (U d)], .int .u64 (U x), .int .i64 c] w fun e w' => e = .returned (.tuple #[.int .u8 0, .int .i64 5]) ∧ Below w.heap.size w w' := by
  by_cases h0 : c < 0
  · go_enter Try.func15, Try.ntmps15
    go_wp2
    go_ret2
    exact ⟨rfl, (Below.refl _ _).alloc (Nat.le_refl _) _⟩
  · have h1 : 7 < c := by omega
    clear hc
    go_enter Try.func15, Try.ntmps15
    go_wp2
    go_ret2
    exact ⟨rfl, (Below.refl _ _).alloc (Nat.le_refl _) _⟩

set_option maxHeartbeats 800000 in
theorem scan_any (s b d x : BitVec 64) (w : World) :
    Calls Try.prog 19 #[.agg #[.int .u64 (U s), .int .u64 (U b), .int .u64 (U d)], .int .u64 (U x)] w fun e w' => e = .returned (.int .u64 (U (scanB s b d x))) ∧ Below w.heap.size w w' := by
  go_enter Try.func19, Try.ntmps19
  go_wp2_with (go_at_call 17; refine (phys_any s b d x _).mono ?_; rintro e w1 ⟨rfl, hb1⟩)
  obtain ⟨hc1, hf1⟩ := bcell hb1
  have Hb1 := Lib.hid (show Below w.heap.size w w1 from ((Below.refl _ _).alloc (Nat.le_refl _) _).trans (hb1.mono (by simp)))
  have hf0 : w1.cell? ⟨w.heap.size, 0, none⟩ = some (.int .u64 (U s)) := by rw [hc1 _ _ (by simp)]; simp [go_sem]
  have hf1 : w1.cell? ⟨w.heap.size, 1, none⟩ = some (.int .u64 (U b)) := by rw [hc1 _ _ (by simp)]; simp [go_sem]
  have hf2 : w1.cell? ⟨w.heap.size, 2, none⟩ = some (.int .u64 (U d)) := by rw [hc1 _ _ (by simp)]; simp [go_sem]
  have hz : w.heap.size < w1.heap.size := by have := hb1.size; simp at this; omega
  clear hb1 hc1
  go_wp2
  go_loopg [6, 11] 8 (fun g r i wr => ∃ k, k ≤ 8 ∧ g = 8 - k ∧ i = .int .i64 k ∧ r = .int .u64 (U (scanTo (phys s b x) (phys s b x &&& d) k)) ∧ Below w1.heap.size w1 wr)
  case atStart => exact ⟨0, by omega, rfl, rfl, rfl, Below.refl _ _⟩
  case round =>
    obtain ⟨k, hk, hg, rfl, rfl, hb⟩ := hrel
    have Hb := Lib.hid hb
    have Hg := Lib.hid hg
    have g0 : wr.cell? ⟨w.heap.size, 0, none⟩ = some (.int .u64 (U s)) := by rw [hb.cell hz]; exact hf0
    have g1 : wr.cell? ⟨w.heap.size, 1, none⟩ = some (.int .u64 (U b)) := by rw [hb.cell hz]; exact hf1
    have g2 : wr.cell? ⟨w.heap.size, 2, none⟩ = some (.int .u64 (U d)) := by rw [hb.cell hz]; exact hf2
    clear hb hg
    by_cases hk8 : k < 8
    · go_wp2_with (go_at_call 32; refine (reach_any s b d (phys s b x) k hk8 _).mono ?_; rintro e w2 ⟨rfl, hb2⟩)
      have Hb2 := Lib.hid hb2
      clear hb2
      go_wp2
      go_roundg (8 - (k + 1))
      case measure => have := Hg.out; omega
      case rel => exact ⟨k + 1, by omega, rfl, by go_num, rfl, Hb.out.trans (Hb2.out.mono Hb.out.size)⟩
    · obtain rfl : k = 8 := by omega
      go_wp2
      go_ret
      exact ⟨rfl, Hb1.out.trans (Hb.out.mono Hb1.out.size)⟩
theorem ghosts_any (s b d x : BitVec 64) (w : World) :
    Calls Try.prog 21 #[.agg #[.int .u64 (U s), .int .u64 (U b), .int .u64 (U d)], .int .u64 (U x)] w fun e w' => e = .returned (.int .u64 (U (ghostB s b d x))) ∧ Below w.heap.size w w' := by
  go_enter Try.func21, Try.ntmps21
  go_wp2
  refine wp_region_later (by kernel_rfl) (by kernel_rfl) ?_
  repeat (go_big_quiet_step ((first | (go_at_call 17; exact Later.of (phys_any s b d x _)) | (go_at_call 19; exact Later.of (scan_any s b d x _)))))
  refine wpQuiet_nil ?_
  rintro _ ⟨z, rfl⟩
  go_wp2
  go_ret
  exact ⟨rfl, ((Below.refl _ _).alloc (Nat.le_refl _) _).trans (z.h.mono (by simp))⟩
end Go.Proofs.Ytpboblanjngeeaa
