/-
  matrix.Safe: it says whether the pattern of three switches occurs nowhere. No condition.
-/
import Derived.Test.YtpboblanjngeeaaSmall
import Derived.Deep.LoopGhost
namespace Go.Proofs.Ytpboblanjngeeaa
open Go.RowKit
attribute [local go_sem] shr_min64 shr_min8 shl_min64 U_shr U_shr' U_shl U_shl' U_shl1 U_and U_or U_andNot U_and1 U_bit U_to8 B8_to64 B8_shr B8_shr' B8_shl B8_shl' B8_shl1 B8_pow U_pow B8_and B8_or B8_andNot B8_and1 B8_bit B8_bit0 Later.cell

/-- The pattern: a switch (f, r), one without its diode (t, r), one (t, e), and (f, e) is not surely closed. -/
def pat (s b d : BitVec 64) (f r t e : Nat) : Bool :=
  !(f == t) && !(r == e) && !tb (s &&& ~~~b) (8 * f + e) && tb (~~~b) (8 * f + r) && tb (~~~b &&& d) (8 * t + r) && tb (~~~b) (8 * t + e)
def patAt (s b d : BitVec 64) (k l : Nat) : Bool := pat s b d (k / 8) (k % 8) (l / 8) (l % 8)
def safeB (s b d : BitVec 64) : Bool := (List.range 64).all fun k => (List.range 64).all fun l => !patAt s b d k l
theorem safeB_false (s b d : BitVec 64) (k l : Nat) (hk : k < 64) (hl : l < 64) (h : patAt s b d k l = true) : safeB s b d = false := by
  refine Bool.eq_false_iff.2 fun hs => ?_
  unfold safeB at hs
  have h1 := List.all_eq_true.1 hs k (List.mem_range.2 hk)
  have h2 := List.all_eq_true.1 h1 l (List.mem_range.2 hl)
  rw [h] at h2
  exact Bool.noConfusion h2
theorem safeB_true (s b d : BitVec 64) (h : ∀ k, k < 64 → ∀ l, l < 64 → patAt s b d k l = false) : safeB s b d = true := by
  unfold safeB
  refine List.all_eq_true.2 fun k hk => List.all_eq_true.2 fun l hl => ?_
  rw [h k (List.mem_range.1 hk) l (List.mem_range.1 hl)]; rfl

theorem U_not (x : BitVec 64) : bits .xor .u64 IntKind.u64.max (U x) = U (~~~x) := by
  have e : IntKind.u64.max = U (BitVec.allOnes 64) := by
    unfold U; rw [BitVec.toNat_allOnes]; rfl
  rw [e]
  unfold U
  rw [u64_xor_nat _ _ (BitVec.isLt _) x.isLt, ← BitVec.toNat_xor, BitVec.allOnes_xor]
attribute [local go_sem] U_not
theorem patAt_at (s b d : BitVec 64) (f r t e : Nat) (hr : r < 8) (he : e < 8) : patAt s b d (8 * f + r) (8 * t + e) = pat s b d f r t e := by
  unfold patAt
  rw [show (8 * f + r) / 8 = f by omega, show (8 * f + r) % 8 = r by omega, show (8 * t + e) / 8 = t by omega, show (8 * t + e) % 8 = e by omega]

set_option maxHeartbeats 6400000 in
theorem safe_any (s b d : BitVec 64) (w : World) :
    Calls Try.prog 28 #[.agg #[.int .u64 (U s), .int .u64 (U b), .int .u64 (U d)]] w fun e w' => e = .returned (.bool (safeB s b d)) ∧ Below w.heap.size w w' := by
  go_enter Try.func28, Try.ntmps28
  go_wp2
  go_quiet (fail)
  go_wp2
  obtain ⟨w0, hw0⟩ : ∃ w0 : World, w0 = (w.alloc (.cells #[.int .u64 (U s), .int .u64 (U b), .int .u64 (U d)] 24)).drewN nq := ⟨_, rfl⟩
  have Hb := Lib.hid (show Below w.heap.size w w0 by rw [hw0]; exact below_drewN ((Below.refl _ _).alloc (Nat.le_refl _) _) _)
  have hf2 : w0.cell? ⟨w.heap.size, 2, none⟩ = some (.int .u64 (U d)) := by rw [hw0]; simp [go_sem]
  rw [← hw0]
  clear hw0
  go_loopg [19] 64 (fun g i wr => ∃ k : Nat, k ≤ 64 ∧ g = 64 - k ∧ i = .int .i64 k ∧ (∀ j, j < k → ∀ l, l < 64 → patAt s b d j l = false) ∧ w0 = wr)
  case atStart => exact ⟨0, by omega, rfl, rfl, fun j hj => absurd hj (by omega), rfl⟩
  case round =>
    obtain ⟨k, hk, hg, rfl, hA, rfl⟩ := hrel
    have HA := Lib.hid hA
    have Hgk := Lib.hid hg
    clear hA hg
    by_cases hk64 : k < 64
    · have hkd : decide ((k : Int) < 64) = true := by simp; omega
      go_wp2
      go_loopg [22] 64 (fun g i wr => ∃ l : Nat, l ≤ 64 ∧ g = 64 - l ∧ i = .int .i64 l ∧ (∀ j, j < l → patAt s b d k j = false) ∧ w0 = wr)
      case atStart => exact ⟨0, by omega, rfl, rfl, fun j hj => absurd hj (by omega), rfl⟩
      case round =>
        obtain ⟨l, hl, hg, rfl, hL, rfl⟩ := hrel
        have HL := Lib.hid hL
        have Hgl := Lib.hid hg
        clear hL hg
        by_cases hl64 : l < 64
        · obtain ⟨f, r, hf, hr, hkf⟩ : ∃ f r, f < 8 ∧ r < 8 ∧ 8 * f + r = k := ⟨k / 8, k % 8, by omega, by omega, by omega⟩
          obtain ⟨t, e, ht, he, hle⟩ : ∃ t e, t < 8 ∧ e < 8 ∧ 8 * t + e = l := ⟨l / 8, l % 8, by omega, by omega, by omega⟩
          have d1 : (k : Int) / 8 = (f : Int) := by omega
          have d2 : (k : Int) % 8 = (r : Int) := by omega
          have d3 : (l : Int) / 8 = (t : Int) := by omega
          have d4 : (l : Int) % 8 = (e : Int) := by omega
          have HPat := Lib.hid (show patAt s b d k l = pat s b d f r t e by rw [← hkf, ← hle]; exact patAt_at s b d f r t e hr he)
          clear hkf hle
          by_cases c1 : f = t
          · have HP := Lib.hid (show patAt s b d k l = false by rw [HPat.out]; unfold pat; simp [c1])
            have b1 : ((f : Int) == (t : Int)) = true := by rw [c1]; simp
            clear c1
            go_wp2_with (go_at_call 35; refine (has_any _ _ _ (by omega) (by omega) _).mono ?_; rintro e w' ⟨rfl, rfl⟩)
            go_roundg (64 - (l + 1))
            case measure => have := Hgl.out; omega
            case rel => exact ⟨l + 1, by omega, rfl, by go_num, fun j hj => by
              by_cases hjl : j = l
              · rw [hjl]; exact HP.out
              · exact HL.out j (by omega), rfl⟩
          have b1 : ((f : Int) == (t : Int)) = false := by rw [beq_eq_false_iff_ne]; omega
          by_cases c2 : r = e
          · have HP := Lib.hid (show patAt s b d k l = false by rw [HPat.out]; unfold pat; simp [c2])
            have b2 : ((r : Int) == (e : Int)) = true := by rw [c2]; simp
            clear c2
            go_wp2_with (go_at_call 35; refine (has_any _ _ _ (by omega) (by omega) _).mono ?_; rintro e w' ⟨rfl, rfl⟩)
            go_roundg (64 - (l + 1))
            case measure => have := Hgl.out; omega
            case rel => exact ⟨l + 1, by omega, rfl, by go_num, fun j hj => by
              by_cases hjl : j = l
              · rw [hjl]; exact HP.out
              · exact HL.out j (by omega), rfl⟩
          have b2 : ((r : Int) == (e : Int)) = false := by rw [beq_eq_false_iff_ne]; omega
          cases c3 : tb (s &&& ~~~b) (8 * f + e) with
          | true =>
            have HP := Lib.hid (show patAt s b d k l = false by rw [HPat.out]; unfold pat; rw [c3]; simp)
            go_wp2_with (go_at_call 35; refine (has_any _ _ _ (by omega) (by omega) _).mono ?_; rintro e w' ⟨rfl, rfl⟩)
            go_roundg (64 - (l + 1))
            case measure => have := Hgl.out; omega
            case rel => exact ⟨l + 1, by omega, rfl, by go_num, fun j hj => by
              by_cases hjl : j = l
              · rw [hjl]; exact HP.out
              · exact HL.out j (by omega), rfl⟩
          | false =>
          cases c4 : tb (~~~b) (8 * f + r) with
          | false =>
            have HP := Lib.hid (show patAt s b d k l = false by rw [HPat.out]; unfold pat; rw [c4]; simp)
            go_wp2_with (go_at_call 35; refine (has_any _ _ _ (by omega) (by omega) _).mono ?_; rintro e w' ⟨rfl, rfl⟩)
            go_roundg (64 - (l + 1))
            case measure => have := Hgl.out; omega
            case rel => exact ⟨l + 1, by omega, rfl, by go_num, fun j hj => by
              by_cases hjl : j = l
              · rw [hjl]; exact HP.out
              · exact HL.out j (by omega), rfl⟩
          | true =>
          cases c5 : tb (~~~b &&& d) (8 * t + r) with
          | false =>
            have HP := Lib.hid (show patAt s b d k l = false by rw [HPat.out]; unfold pat; rw [c5]; simp)
            go_wp2_with (go_at_call 35; refine (has_any _ _ _ (by omega) (by omega) _).mono ?_; rintro e w' ⟨rfl, rfl⟩)
            go_roundg (64 - (l + 1))
            case measure => have := Hgl.out; omega
            case rel => exact ⟨l + 1, by omega, rfl, by go_num, fun j hj => by
              by_cases hjl : j = l
              · rw [hjl]; exact HP.out
              · exact HL.out j (by omega), rfl⟩
          | true =>
          cases c6 : tb (~~~b) (8 * t + e) with
          | false =>
            have HP := Lib.hid (show patAt s b d k l = false by rw [HPat.out]; unfold pat; rw [c6]; simp)
            go_wp2_with (go_at_call 35; refine (has_any _ _ _ (by omega) (by omega) _).mono ?_; rintro e w' ⟨rfl, rfl⟩)
            go_roundg (64 - (l + 1))
            case measure => have := Hgl.out; omega
            case rel => exact ⟨l + 1, by omega, rfl, by go_num, fun j hj => by
              by_cases hjl : j = l
              · rw [hjl]; exact HP.out
              · exact HL.out j (by omega), rfl⟩
          | true =>
            have HP := Lib.hid (safeB_false s b d k l hk64 hl64 (by rw [HPat.out]; unfold pat; rw [c3, c4, c5, c6, beq_eq_false_iff_ne.2 c1, beq_eq_false_iff_ne.2 c2]; rfl))
            go_wp2_with (go_at_call 35; refine (has_any _ _ _ (by omega) (by omega) _).mono ?_; rintro e w' ⟨rfl, rfl⟩)
            go_ret
            rw [HP.out]
            exact ⟨rfl, Hb.out⟩
        · go_wp2
          go_roundg (64 - (k + 1))
          case measure => have := Hgk.out; omega
          case rel => exact ⟨k + 1, by omega, rfl, by go_num, fun j hj l' hl' => by
            by_cases hjk : j = k
            · rw [hjk]; exact HL.out l' (by omega)
            · exact HA.out j (by omega) l' hl', rfl⟩
    · go_wp2
      go_ret
      rw [safeB_true s b d (fun j hj l hl => HA.out j (by omega) l hl)]
      exact ⟨rfl, Hb.out⟩
end Go.Proofs.Ytpboblanjngeeaa
