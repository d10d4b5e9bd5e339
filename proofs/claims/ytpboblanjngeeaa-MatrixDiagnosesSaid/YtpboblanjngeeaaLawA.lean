/-
  The walks of the laws MatrixClean and MatrixMonotone: for all arguments they hand back true, and nothing that was there turns.
-/
import Derived.Test.YtpboblanjngeeaaSane
namespace Go.Proofs.Ytpboblanjngeeaa
open Go.RowKit
attribute [local go_sem] shr_min64 shr_min8 shl_min64 U_shr U_shr' U_shl U_shl' U_shl1 U_and U_or U_andNot U_and1 U_bit U_to8 B8_to64 B8_shr B8_shr' B8_shl B8_shl' B8_shl1 B8_pow U_pow B8_and B8_or B8_andNot B8_and1 B8_bit B8_bit0 Later.cell

/-- What two boxed structs of three cells read behind a call. -/
theorem keep33 {w w1 : World} {a b c a' b' c' : Value} {t t' : TypeId} (hb : Below ((w.alloc (.cells #[a, b, c] t)).alloc (.cells #[a', b', c'] t')).heap.size ((w.alloc (.cells #[a, b, c] t)).alloc (.cells #[a', b', c'] t')) w1) :
    (w1.cell? ⟨w.heap.size, 0, none⟩ = some a ∧ w1.cell? ⟨w.heap.size, 1, none⟩ = some b ∧ w1.cell? ⟨w.heap.size, 2, none⟩ = some c ∧ w.heap.size < w1.heap.size) ∧
    (w1.cell? ⟨w.heap.size + 1, 0, none⟩ = some a' ∧ w1.cell? ⟨w.heap.size + 1, 1, none⟩ = some b' ∧ w1.cell? ⟨w.heap.size + 1, 2, none⟩ = some c' ∧ w.heap.size + 1 < w1.heap.size) ∧ Below w.heap.size w w1 := by
  have hs : ((w.alloc (.cells #[a, b, c] t)).alloc (.cells #[a', b', c'] t')).heap.size = w.heap.size + 1 + 1 := by simp
  have h := hb.size
  rw [hs] at h
  have h0 : ∀ o, w1.cell? ⟨w.heap.size, o, none⟩ = ((w.alloc (.cells #[a, b, c] t)).alloc (.cells #[a', b', c'] t')).cell? ⟨w.heap.size, o, none⟩ := fun o => hb.cell (p := ⟨w.heap.size, o, none⟩) (by rw [hs]; show w.heap.size < _; omega)
  have h1 : ∀ o, w1.cell? ⟨w.heap.size + 1, o, none⟩ = ((w.alloc (.cells #[a, b, c] t)).alloc (.cells #[a', b', c'] t')).cell? ⟨w.heap.size + 1, o, none⟩ := fun o => hb.cell (p := ⟨w.heap.size + 1, o, none⟩) (by rw [hs]; show w.heap.size + 1 < _; omega)
  refine ⟨⟨?_, ?_, ?_, by omega⟩, ⟨?_, ?_, ?_, by omega⟩, (((Below.refl _ w).alloc (Nat.le_refl _) _).alloc (by simp) _).trans (hb.mono (by rw [hs]; omega))⟩
  · rw [h0]; simp [go_sem]
  · rw [h0]; simp [go_sem]
  · rw [h0]; simp [go_sem]
  · rw [h1]; simp [go_sem]
  · rw [h1]; simp [go_sem]
  · rw [h1]; simp [go_sem]
theorem sane_later {W : World} (z : Later W) : Calls Try.prog 23 #[] z.w fun e w' => e = .returned (.bool true) ∧ ∃ z' : Later W, w' = z'.w := Later.of (sane_any z.w)

set_option maxHeartbeats 800000 in
theorem matrixClean_walk (s b d x : BitVec 64) (w : World) :
    Calls Try.prog 6 #[.agg #[.int .u64 (U s), .int .u64 (U b), .int .u64 (U d)], .int .u64 (U x)] w fun e w' => e = .returned (.bool true) ∧ Below w.heap.size w w' := by
  have q1 : (U (scanB s b 0#64 x) == U (phys s b x)) = true := by rw [U_inj, clean_scan]; simp
  have q2 : (U (ghostB s b 0#64 x) == 0) = true := by rw [clean_ghost]; rfl
  have q3 : (U (phys s b x &&& ~~~scanB s b d x) == 0) = true := by rw [clean_sub]; rfl
  have q4 : (U (scanB s b d x &&& ~~~phys s b x) == U (ghostB s b d x)) = true := by rw [U_inj]; simp [ghostB]
  go_enter Try.func6, Try.ntmps6
  go_wp2_with fail
  refine (phys_any s b d x _).mono ?_
  rintro e w1 ⟨rfl, hb1⟩
  obtain ⟨⟨k0, k1, k2, k3⟩, ⟨l0, l1, l2, l3⟩, hb⟩ := keep33 hb1
  have Hb := Lib.hid hb
  have l2' : w1.cell? ⟨w.heap.size + 1, 2, none⟩ = some (.int .u64 (U 0#64)) := l2
  clear hb1 hb l2
  go_wp2_with fail
  refine wp_region_later (by kernel_rfl) (by kernel_rfl) ?_
  repeat (go_big_quiet_step ((first | (go_at_call 19; exact Later.of (scan_any _ _ _ _ _)) | (go_at_call 21; exact Later.of (ghosts_any _ _ _ _ _)) | (go_at_call 23; exact sane_later _))))
  refine wpQuiet_nil ?_
  rintro _ ⟨z, rfl⟩
  go_wp2
  go_ret
  exact ⟨rfl, Hb.out.trans (z.h.mono Hb.out.size)⟩
end Go.Proofs.Ytpboblanjngeeaa
