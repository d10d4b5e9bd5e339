/-
  The reference's Safe: it says what the program's own says. No condition.
-/
import Derived.Test.YtpboblanjngeeaaRefScanW
import Derived.Test.YtpboblanjngeeaaRefSafe
namespace Go.Proofs.Ytpboblanjngeeaa
open Go.RowKit
attribute [local go_sem] shr_min64 shr_min8 shl_min64 U_shr U_shr' U_shl U_shl' U_shl1 U_and U_or U_andNot U_and1 U_bit U_bit0 U_to8 B8_to64 B8_shr B8_shr' B8_shl B8_shl' B8_shl1 B8_pow U_pow B8_and B8_or B8_andNot B8_and1 B8_bit B8_bit0 Later.cell

def AA : BitVec 64 := BitVec.allOnes 64
theorem AA_bit (n : Nat) (h : n < 64) : AA.getLsbD n = true := by unfold AA; rw [BitVec.getLsbD_allOnes, decide_eq_true h]
theorem U_AA : (18446744073709551615 : Int) = U AA := by unfold U AA; rw [BitVec.toNat_allOnes]; rfl
theorem U_AA_andNot (y : BitVec 64) : bits .andNot .u64 18446744073709551615 (U y) = U (AA &&& ~~~y) := by rw [U_AA, U_andNot]
theorem U_shl1'' (n : Nat) : IntKind.u64.wrap (2 ^ n) = U (1#64 <<< n) := by
  rw [wrap_u64']; exact toNat_pow 64 n (by decide)
attribute [local go_sem] U_AA_andNot U_shl1''
theorem refGhosts_AA (s b d : BitVec 64) (w : World) :
    Calls Try.prog 22 #[.agg #[.int .u64 (U s), .int .u64 (U b), .int .u64 (U d)], .int .u64 18446744073709551615] w fun e w' => e = .returned (.int .u64 (U (ghostB s b d AA))) ∧ Below w.heap.size w w' := by
  rw [U_AA]; exact refGhosts_any s b d AA w

set_option maxHeartbeats 1600000 in
theorem refSafe_any (s b d : BitVec 64) (w : World) :
    Calls Try.prog 29 #[.agg #[.int .u64 (U s), .int .u64 (U b), .int .u64 (U d)]] w fun e w' => e = .returned (.bool (safeB s b d)) ∧ Below w.heap.size w w' := by
  go_enter Try.func29, Try.ntmps29
  go_wp2
  obtain ⟨w1, hw1⟩ : ∃ w1, w1 = w.alloc (.cells #[.int .u64 (U s), .int .u64 (U b), .int .u64 (U d)] 24) := ⟨_, rfl⟩
  have hf0 : w1.cell? ⟨w.heap.size, 0, none⟩ = some (.int .u64 (U s)) := by rw [hw1]; simp [go_sem]
  have hf1 : w1.cell? ⟨w.heap.size, 1, none⟩ = some (.int .u64 (U b)) := by rw [hw1]; simp [go_sem]
  have hf2 : w1.cell? ⟨w.heap.size, 2, none⟩ = some (.int .u64 (U d)) := by rw [hw1]; simp [go_sem]
  have hz : w.heap.size < w1.heap.size := by rw [hw1]; simp
  have Hb1 := Lib.hid (show Below w.heap.size w w1 by rw [hw1]; exact (Below.refl _ w).alloc (Nat.le_refl _) _)
  rw [← hw1]
  clear hw1
  go_loopg [3] 64 (fun g i wr => ∃ k : Nat, k ≤ 64 ∧ g = 64 - k ∧ i = .int .i64 k ∧ (∀ j, j < k → safeT s b d AA j = false) ∧ Below w1.heap.size w1 wr)
  case atStart => exact ⟨0, by omega, rfl, rfl, fun j hj => absurd hj (by omega), Below.refl _ _⟩
  case round =>
    obtain ⟨k, hk, hg, rfl, hT, hb⟩ := hrel
    have Hb := Lib.hid hb
    have Hg := Lib.hid hg
    have HT := Lib.hid hT
    have g0 : wr.cell? ⟨w.heap.size, 0, none⟩ = some (.int .u64 (U s)) := by rw [hb.cell hz]; exact hf0
    have g1 : wr.cell? ⟨w.heap.size, 1, none⟩ = some (.int .u64 (U b)) := by rw [hb.cell hz]; exact hf1
    have g2 : wr.cell? ⟨w.heap.size, 2, none⟩ = some (.int .u64 (U d)) := by rw [hb.cell hz]; exact hf2
    have gz : w.heap.size < wr.heap.size := Nat.lt_of_lt_of_le hz hb.size
    clear hb hg hT
    by_cases hk64 : k < 64
    · have hk' : decide ((k : Int) < 64) = true := by simp; omega
      cases h1 : tb (ghostB s b d (AA &&& ~~~(1#64 <<< k))) k with
      | true =>
        have HS := Lib.hid (show safeB s b d = false from safeT_some (A := AA) (g := k) (by unfold safeT; rw [h1]; rfl))
        go_wp2_with fail
        refine (refGhosts_any s b d (AA &&& ~~~(1#64 <<< k)) _).mono ?_
        rintro e w2 ⟨rfl, hb2⟩
        have Hb2 := Lib.hid hb2
        clear hb2
        go_wp2
        go_ret
        exact ⟨by rw [HS.out]; rfl, Hb1.out.trans ((Hb.out.trans (Hb2.out.mono Hb.out.size)).mono Hb1.out.size)⟩
      | false =>
        cases h2 : tb b k with
        | false =>
          have HS := Lib.hid (show safeT s b d AA k = false by unfold safeT; rw [h1, h2]; rfl)
          go_wp2_with fail
          refine (refGhosts_any s b d (AA &&& ~~~(1#64 <<< k)) _).mono ?_
          rintro e w2 ⟨rfl, hb2⟩
          obtain ⟨m0, m1, m2, mz⟩ := keep3' hb2 ⟨g0, g1, g2, gz⟩
          have Hb2 := Lib.hid hb2
          clear hb2
          go_wp2_with (go_at_call 38; refine (refHas_any b k (by omega) _).mono ?_; rintro e w3 ⟨rfl, rfl⟩)
          go_roundg (64 - (k + 1))
          case measure => have := Hg.out; omega
          case rel => exact ⟨k + 1, by omega, rfl, by go_num, fun j hj => by
            by_cases e : j = k
            · rw [e]; exact HS.out
            · exact HT.out j (by omega), Hb.out.trans (Hb2.out.mono Hb.out.size)⟩
        | true =>
          cases h3 : tb (ghostB s b d AA) k with
          | false =>
            have HS := Lib.hid (show safeT s b d AA k = false by unfold safeT; rw [h1, h3]; simp)
            go_wp2_with fail
            refine (refGhosts_any s b d (AA &&& ~~~(1#64 <<< k)) _).mono ?_
            rintro e w2 ⟨rfl, hb2⟩
            obtain ⟨m0, m1, m2, mz⟩ := keep3' hb2 ⟨g0, g1, g2, gz⟩
            have Hb2 := Lib.hid hb2
            clear hb2
            go_wp2_with (first | (go_at_call 38; refine (refHas_any b k (by omega) _).mono ?_; rintro e w3 ⟨rfl, rfl⟩) | (go_at_call 22; refine (refGhosts_AA s b d _).mono ?_; rintro e w4 ⟨rfl, hb4⟩; have Hb4 := Lib.hid hb4; clear hb4))
            go_roundg (64 - (k + 1))
            case measure => have := Hg.out; omega
            case rel => exact ⟨k + 1, by omega, rfl, by go_num, fun j hj => by
              by_cases e : j = k
              · rw [e]; exact HS.out
              · exact HT.out j (by omega), Hb.out.trans ((Hb2.out.trans (Hb4.out.mono Hb2.out.size)).mono Hb.out.size)⟩
          | true =>
            have HS := Lib.hid (show safeB s b d = false from safeT_some (A := AA) (g := k) (by unfold safeT; rw [h2, h3]; simp))
            go_wp2_with fail
            refine (refGhosts_any s b d (AA &&& ~~~(1#64 <<< k)) _).mono ?_
            rintro e w2 ⟨rfl, hb2⟩
            obtain ⟨m0, m1, m2, mz⟩ := keep3' hb2 ⟨g0, g1, g2, gz⟩
            have Hb2 := Lib.hid hb2
            clear hb2
            go_wp2_with (first | (go_at_call 38; refine (refHas_any b k (by omega) _).mono ?_; rintro e w3 ⟨rfl, rfl⟩) | (go_at_call 22; refine (refGhosts_AA s b d _).mono ?_; rintro e w4 ⟨rfl, hb4⟩; have Hb4 := Lib.hid hb4; clear hb4))
            go_ret
            exact ⟨by rw [HS.out]; rfl, Hb1.out.trans ((Hb.out.trans ((Hb2.out.trans (Hb4.out.mono Hb2.out.size)).mono Hb.out.size)).mono Hb1.out.size)⟩
    · have hk' : decide ((k : Int) < 64) = false := by simp; omega
      have HS := Lib.hid (show safeB s b d = true from safeT_all (A := AA) AA_bit (fun g hg => HT.out g (by omega)))
      go_wp2
      go_ret
      exact ⟨by rw [HS.out]; rfl, Hb1.out.trans (Hb.out.mono Hb1.out.size)⟩
end Go.Proofs.Ytpboblanjngeeaa
