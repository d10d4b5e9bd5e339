/-
  The walk of the law MatrixPaths: for all arguments it hands back true, and nothing that was there turns.
-/
import Derived.Test.YtpboblanjngeeaaRefPathW
import Derived.Test.YtpboblanjngeeaaLawA
namespace Go.Proofs.Ytpboblanjngeeaa
open Go.RowKit
attribute [local go_sem] shr_min64 shr_min8 shl_min64 U_shr U_shr' U_shl U_shl' U_shl1 U_and U_or U_andNot U_and1 U_bit U_bit0 U_to8 B8_to64 B8_shr B8_shr' B8_shl B8_shl' B8_shl1 B8_pow U_pow B8_and B8_or B8_andNot B8_and1 B8_bit B8_bit0 Later.cell

theorem paths_agree (s b d x : BitVec 64) (c r : Int) : ∃ (xs : List Nat) (E : Int), xs.length ≤ 1000 ∧
    (∀ w, Calls Try.prog 24 #[.agg #[.int .u64 (U s), .int .u64 (U b), .int .u64 (U d)], .int .u64 (U x), .int .i64 c, .int .i64 r] w fun e w' => ∃ v, e = .returned (.tuple #[v, .int .i64 E]) ∧ HoldsI w' v xs ∧ Below w.heap.size w w') ∧
    (∀ w, Calls Try.prog 25 #[.agg #[.int .u64 (U s), .int .u64 (U b), .int .u64 (U d)], .int .u64 (U x), .int .i64 c, .int .i64 r] w fun e w' => ∃ v, e = .returned (.tuple #[v, .int .i64 E]) ∧ HoldsI w' v xs ∧ Below w.heap.size w w') := by
  by_cases hc : 0 ≤ c ∧ c ≤ 7 ∧ 0 ≤ r ∧ r ≤ 7
  · obtain ⟨cn, rfl⟩ : ∃ n : Nat, c = (n : Int) := ⟨c.toNat, by omega⟩
    obtain ⟨rn, rfl⟩ : ∃ n : Nat, r = (n : Int) := ⟨r.toNat, by omega⟩
    cases hl : (lev (phys s b x) (phys s b x &&& d) rn 7).getLsbD cn with
    | false => exact ⟨[], 8, by simp, fun w => (path_far s b d x cn rn (by omega) (by omega) hl w).mono fun _ _ ⟨h1, h2⟩ => ⟨_, h1, HoldsI.nil _ _ _, h2⟩,
        fun w => (refPath_far s b d x cn rn (by omega) (by omega) hl w).mono fun _ _ ⟨h1, h2⟩ => ⟨_, h1, HoldsI.nil _ _ _, h2⟩⟩
    | true =>
      obtain ⟨m, _, hd⟩ := Dist.exists hl
      have h7 := hd.seven
      exact ⟨pathL (phys s b x) (phys s b x &&& d) rn m cn, 0, by rw [pathL_length]; omega,
        fun w => (path_in s b d x cn rn m (by omega) hd w).mono fun _ _ ⟨v, h1, h2, h3⟩ => ⟨v, h1, HoldsI.of_owns h2, h3⟩,
        fun w => (refPath_in s b d x cn rn m (by omega) hd w).mono fun _ _ ⟨v, h1, h2, h3⟩ => ⟨v, h1, HoldsI.of_owns h2, h3⟩⟩
  · exact ⟨[], 5, by simp, fun w => (path_out s b d x c r hc w).mono fun _ _ ⟨h1, h2⟩ => ⟨_, h1, HoldsI.nil _ _ _, h2⟩,
      fun w => (refPath_out s b d x c r hc w).mono fun _ _ ⟨h1, h2⟩ => ⟨_, h1, HoldsI.nil _ _ _, h2⟩⟩

set_option maxHeartbeats 1600000 in
theorem matrixPaths_walk (s b d x : BitVec 64) (x0 x1 : Int) (_k0 : -9223372036854775808 ≤ x0) (_l0 : x0 ≤ 9223372036854775807) (_k1 : -9223372036854775808 ≤ x1) (_l1 : x1 ≤ 9223372036854775807) (w : World) :
    Calls Try.prog 4 #[.agg #[.int .u64 (U s), .int .u64 (U b), .int .u64 (U d)], .int .u64 (U x), .agg #[.int .i64 x0, .int .i64 x1]] w fun e w' => e = .returned (.bool true) ∧ Below w.heap.size w w' := by
  go_enter Try.func4, Try.ntmps4
  go_wp2
  obtain ⟨w1, hw1⟩ : ∃ w1, w1 = (w.alloc (.cells #[.int .u64 (U s), .int .u64 (U b), .int .u64 (U d)] 24)).alloc (.cells #[.int .i64 x0, .int .i64 x1] 31) := ⟨_, rfl⟩
  have hf0 : w1.cell? ⟨w.heap.size, 0, none⟩ = some (.int .u64 (U s)) := by rw [hw1]; simp [go_sem]
  have hf1 : w1.cell? ⟨w.heap.size, 1, none⟩ = some (.int .u64 (U b)) := by rw [hw1]; simp [go_sem]
  have hf2 : w1.cell? ⟨w.heap.size, 2, none⟩ = some (.int .u64 (U d)) := by rw [hw1]; simp [go_sem]
  have hp0 : w1.cell? ⟨w.heap.size + 1, 0, none⟩ = some (.int .i64 x0) := by rw [hw1]; simp [go_sem]
  have hp1 : w1.cell? ⟨w.heap.size + 1, 1, none⟩ = some (.int .i64 x1) := by rw [hw1]; simp [go_sem]
  have hz : w.heap.size + 1 < w1.heap.size := by rw [hw1]; simp
  have Hb1 := Lib.hid (show Below w.heap.size w w1 by rw [hw1]; exact ((Below.refl _ w).alloc (Nat.le_refl _) _).alloc (by simp) _)
  rw [← hw1]
  clear hw1
  have KF := Lib.hid (show ∀ wr, Below w1.heap.size w1 wr → wr.cell? ⟨w.heap.size, 0, none⟩ = some (.int .u64 (U s)) ∧ wr.cell? ⟨w.heap.size, 1, none⟩ = some (.int .u64 (U b)) ∧ wr.cell? ⟨w.heap.size, 2, none⟩ = some (.int .u64 (U d)) ∧
      wr.cell? ⟨w.heap.size + 1, 0, none⟩ = some (.int .i64 x0) ∧ wr.cell? ⟨w.heap.size + 1, 1, none⟩ = some (.int .i64 x1) from fun wr hb => by
    have hz' : w.heap.size < w1.heap.size := by omega
    exact ⟨by rw [hb.cell (p := ⟨w.heap.size, 0, none⟩) hz']; exact hf0, by rw [hb.cell (p := ⟨w.heap.size, 1, none⟩) hz']; exact hf1, by rw [hb.cell (p := ⟨w.heap.size, 2, none⟩) hz']; exact hf2,
      by rw [hb.cell (p := ⟨w.heap.size + 1, 0, none⟩) hz]; exact hp0, by rw [hb.cell (p := ⟨w.heap.size + 1, 1, none⟩) hz]; exact hp1⟩)
  clear hf0 hf1 hf2 hp0 hp1 hz
  go_loopg [7] 10 (fun g i wr => ∃ k : Int, -1 ≤ k ∧ k ≤ 9 ∧ g = (9 - k).toNat ∧ i = .int .i64 k ∧ Below w1.heap.size w1 wr)
  case atStart => exact ⟨-1, by omega, by omega, rfl, rfl, Below.refl _ _⟩
  case round =>
    obtain ⟨k, hk0, hk, hg, rfl, hb⟩ := hrel
    have Hb := Lib.hid hb
    have Hg := Lib.hid hg
    clear hb hg
    by_cases hk9 : k < 9
    · have hk9' : decide (k < 9) = true := by simp; omega
      go_wp2
      obtain ⟨wo, hwo⟩ : ∃ wo : World, wo = wr := ⟨_, rfl⟩
      subst hwo
      go_loopg [8] 8 (fun g i wi => ∃ n : Nat, n ≤ 8 ∧ g = 8 - n ∧ i = .int .i64 n ∧ Below w1.heap.size w1 wi)
      case atStart => exact ⟨0, by omega, rfl, rfl, Hb.out⟩
      case round =>
        clear Hb
        obtain ⟨n, hn, hg, rfl, hb⟩ := hrel
        have Hb := Lib.hid hb
        have Hgn := Lib.hid hg
        clear hb hg
        by_cases hn8 : n < 8
        · obtain ⟨f0, f1, f2, _, _⟩ := KF.out _ Hb.out
          obtain ⟨xs, E, hl, c24, c25⟩ := paths_agree s b d x k n
          have C24 := Lib.hid c24
          have C25 := Lib.hid c25
          clear c24 c25
          go_wp2_with fail
          refine (C24.out _).mono ?_
          rintro e w2 ⟨v1, rfl, hv1, hb2⟩
          have Hb2 := Lib.hid (Hb.out.trans (hb2.mono Hb.out.size))
          have Hv1 := Lib.hid hv1
          clear hv1 hb2 f0 f1 f2
          obtain ⟨f0, f1, f2, _, _⟩ := KF.out _ Hb2.out
          go_wp2_with fail
          refine (C25.out _).mono ?_
          rintro e w3 ⟨v2, rfl, hv2, hb3⟩
          have Hb3 := Lib.hid (Hb2.out.trans (hb3.mono Hb2.out.size))
          have Hv2 := Lib.hid hv2
          have Hv1' := Lib.hid (Hv1.out.below hb3 (Nat.le_refl _))
          clear hv2 hb3 f0 f1 f2
          go_wp2_with fail
          refine (same_true v1 v2 xs _ Hv1'.out Hv2.out hl).mono ?_
          rintro e w4 ⟨rfl, hb4⟩
          have Hb4 := Lib.hid hb4
          clear hb4
          go_wp2
          go_roundg (8 - (n + 1))
          case measure => have := Hgn.out; omega
          case rel => exact ⟨n + 1, by omega, rfl, by go_num, Hb3.out.trans (Hb4.out.mono Hb3.out.size)⟩
        · go_wp2
          go_roundg (9 - (k + 1)).toNat
          case measure => have := Hg.out; omega
          case rel => exact ⟨k + 1, by omega, by omega, rfl, by go_num, Hb.out⟩
    · have hk9' : decide (k < 9) = false := by simp; omega
      obtain ⟨f0, f1, f2, p0, p1⟩ := KF.out _ Hb.out
      obtain ⟨xs, E, hl, c24, c25⟩ := paths_agree s b d x x0 x1
      have C24 := Lib.hid c24
      have C25 := Lib.hid c25
      clear c24 c25
      go_wp2_with fail
      refine (C24.out _).mono ?_
      rintro e w2 ⟨v1, rfl, hv1, hb2⟩
      have Hb2 := Lib.hid (Hb.out.trans (hb2.mono Hb.out.size))
      have Hv1 := Lib.hid hv1
      clear hv1 hb2 f0 f1 f2 p0 p1
      obtain ⟨f0, f1, f2, p0, p1⟩ := KF.out _ Hb2.out
      go_wp2_with fail
      refine (C25.out _).mono ?_
      rintro e w3 ⟨v2, rfl, hv2, hb3⟩
      have Hb3 := Lib.hid (Hb2.out.trans (hb3.mono Hb2.out.size))
      have Hv2 := Lib.hid hv2
      have Hv1' := Lib.hid (Hv1.out.below hb3 (Nat.le_refl _))
      clear hv2 hb3 f0 f1 f2 p0 p1
      go_wp2_with fail
      refine (same_true v1 v2 xs _ Hv1'.out Hv2.out hl).mono ?_
      rintro e w4 ⟨rfl, hb4⟩
      have Hb4 := Lib.hid hb4
      clear hb4
      go_wp2_with fail
      refine (sane_any _).mono ?_
      rintro e w5 ⟨rfl, hb5⟩
      have Hb5 := Lib.hid hb5
      clear hb5
      go_wp2
      go_ret
      exact ⟨rfl, Hb1.out.trans ((Hb3.out.trans ((Hb4.out.trans (Hb5.out.mono Hb4.out.size)).mono Hb3.out.size)).mono Hb1.out.size)⟩
end Go.Proofs.Ytpboblanjngeeaa
