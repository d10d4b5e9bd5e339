/-
  The walk of the law MatrixTurns: for all arguments it hands back true, and nothing that was there turns.
-/
import Derived.Test.YtpboblanjngeeaaLawA
import Derived.Test.YtpboblanjngeeaaTurn
import Derived.Deep.RegionHeld3
namespace Go.Proofs.Ytpboblanjngeeaa
open Go.RowKit
attribute [local go_sem] shr_min64 shr_min8 shl_min64 U_shr U_shr' U_shl U_shl' U_shl1 U_and U_or U_andNot U_and1 U_bit U_bit0 U_to8 B8_to64 B8_shr B8_shr' B8_shl B8_shl' B8_shl1 B8_pow U_pow B8_and B8_or B8_andNot B8_and1 B8_bit B8_bit0 Later.cell

theorem U_shl1' (n : Nat) : IntKind.u64.wrap (2 ^ n) = U (1#64 <<< n) := by
  rw [wrap_u64']; exact toNat_pow 64 n (by decide)
attribute [local go_sem] U_shl1'
set_option maxHeartbeats 1600000 in
theorem turned_any (x : BitVec 64) (n m : Nat) (hn : n < 8) (hm : m < 8) (w : World) :
    Calls Try.prog 27 #[.int .u64 (U x), .int .i64 n, .int .i64 m] w fun e w' => e = .returned (.int .u64 (U (turnB x n m))) ∧ w = w' := by
  go_enter Try.func27, Try.ntmps27
  go_wp2
  go_loopg [7, 8] 64 (fun g o i wr => ∃ t : Nat, t ≤ 64 ∧ g = 64 - t ∧ i = .int .i64 t ∧ o = .int .u64 (U (turnTo x n m t)) ∧ w = wr)
  case atStart => exact ⟨0, by omega, rfl, rfl, rfl, rfl⟩
  case round =>
    obtain ⟨t, ht, hg, rfl, rfl, rfl⟩ := hrel
    have Hg := Lib.hid hg
    clear hg
    by_cases ht64 : t < 64
    · cases hb : tb x t with
      | false =>
        have HT := Lib.hid (show turnTo x n m (t + 1) = turnTo x n m t by rw [turnTo, if_neg (by rw [hb]; exact Bool.false_ne_true)])
        go_wp2
        go_roundg (64 - (t + 1))
        case measure => have := Hg.out; omega
        case rel => exact ⟨t + 1, by omega, rfl, by go_num, by rw [HT.out], rfl⟩
      | true =>
        have HT := Lib.hid (show turnTo x n m (t + 1) = turnTo x n m t ||| 1#64 <<< sig n m t by rw [turnTo, if_pos hb])
        obtain ⟨u, hu⟩ : ∃ u : Nat, u = (t / 8 + n) % 8 := ⟨_, rfl⟩
        obtain ⟨v, hv⟩ : ∃ v : Nat, v = (t % 8 + m) % 8 := ⟨_, rfl⟩
        obtain ⟨y, hy⟩ : ∃ y : Nat, y = sig n m t := ⟨_, rfl⟩
        have d1 : ((t : Int) / 8 + (n : Int)) % 8 = (u : Int) := by omega
        have d2 : ((t : Int) % 8 + (m : Int)) % 8 = (v : Int) := by omega
        have d3 : (u : Int) * 8 + (v : Int) = (y : Int) := by rw [hy]; unfold sig; omega
        have l1 : u < 8 := by omega
        have l2 : v < 8 := by omega
        have l3 : y < 64 := by rw [hy]; exact sig_lt _ _ _
        have HY := Lib.hid hy
        clear hu hv hy
        go_wp2
        go_roundg (64 - (t + 1))
        case measure => have := Hg.out; omega
        case rel => exact ⟨t + 1, by omega, rfl, by go_num, by rw [HT.out, ← HY.out], rfl⟩
    · have Ht := Lib.hid (show t = 64 by omega)
      go_wp2
      go_ret
      exact ⟨by rw [Ht.out]; rfl, rfl⟩
theorem turned_later (x : BitVec 64) (n m : Nat) (hn : n < 8) (hm : m < 8) {W : World} (z : Later W) :
    Calls Try.prog 27 #[.int .u64 (U x), .int .i64 n, .int .i64 m] z.w fun e w' => e = .returned (.int .u64 (U (turnB x n m))) ∧ ∃ z' : Later W, w' = z'.w :=
  (turned_any x n m hn hm z.w).mono fun _ _ ⟨he, hw⟩ => ⟨he, z, hw.symm⟩
set_option maxHeartbeats 1600000 in
theorem matrixTurns_walk (s b d x : BitVec 64) (y : BitVec 8) (w : World) :
    Calls Try.prog 10 #[.agg #[.int .u64 (U s), .int .u64 (U b), .int .u64 (U d)], .int .u64 (U x), .int .u8 (B8 y)] w fun e w' => e = .returned (.bool true) ∧ Below w.heap.size w w' := by
  obtain ⟨Y, hY⟩ : ∃ Y : Nat, B8 y = (Y : Int) ∧ Y < 256 := ⟨y.toNat, rfl, y.isLt⟩
  obtain ⟨hY, hY2⟩ := hY
  rw [hY]
  obtain ⟨n, hn⟩ : ∃ n : Nat, n = Y % 8 := ⟨_, rfl⟩
  obtain ⟨m, hm⟩ : ∃ m : Nat, m = Y / 8 % 8 := ⟨_, rfl⟩
  have d1 : (Y : Int) % 8 = (n : Int) := by omega
  have d2 : (Y : Int) / 8 % 8 = (m : Int) := by omega
  have hn8 : n < 8 := by omega
  have hm8 : m < 8 := by omega
  have q1 : (U (scanB (turnB s n m) (turnB b n m) (turnB d n m) (turnB x n m)) == U (turnB (scanB s b d x) n m)) = true := by rw [turn_scan]; simp
  have q2 : (safeB (turnB s n m) (turnB b n m) (turnB d n m) == safeB s b d) = true := by rw [turn_safe]; simp
  clear hY hn hm
  go_enter Try.func10, Try.ntmps10
  go_wp2
  go_region_held3 (fun w' => w'.cell? ⟨w.heap.size, 0, none⟩ = some (.int .u64 (U s)) ∧ w'.cell? ⟨w.heap.size, 1, none⟩ = some (.int .u64 (U b)) ∧ w'.cell? ⟨w.heap.size, 2, none⟩ = some (.int .u64 (U d))) (go_keep)
    (first | (go_at_call 27; refine (turned_any _ n m hn8 hm8 _).mono ?_; rintro e w' ⟨rfl, rfl⟩))
  all_goals
    go_wp2_with fail
    refine wp_region_later (by kernel_rfl) (by kernel_rfl) ?_
    repeat (go_big_quiet_step ((first | (go_at_call 27; exact turned_later _ n m hn8 hm8 _) | (go_at_call 19; exact Later.of (scan_any _ _ _ _ _)) | (go_at_call 28; exact Later.of (safe_any _ _ _ _)) | (go_at_call 23; exact sane_later _))))
    refine wpQuiet_nil ?_
    rintro _ ⟨z, rfl⟩
    go_wp2
    go_ret
    refine ⟨rfl, Below.trans ?_ (z.h.mono (by simp [World.drew]; omega))⟩
    exact (((Below.refl _ w).alloc (Nat.le_refl _) _).alloc (by simp) _).drew
end Go.Proofs.Ytpboblanjngeeaa
