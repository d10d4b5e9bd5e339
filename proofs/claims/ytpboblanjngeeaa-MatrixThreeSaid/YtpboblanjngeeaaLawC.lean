/-
  The walk of the law MatrixThree: for all arguments it hands back true, and nothing that was there turns.
-/
import Derived.Test.YtpboblanjngeeaaLawA
namespace Go.Proofs.Ytpboblanjngeeaa
open Go.RowKit
attribute [local go_sem] shr_min64 shr_min8 shl_min64 U_shr U_shr' U_shl U_shl' U_shl1 U_and U_or U_andNot U_and1 U_bit U_bit0 U_to8 B8_to64 B8_shr B8_shr' B8_shl B8_shl' B8_shl1 B8_pow U_pow B8_and B8_or B8_andNot B8_and1 B8_bit B8_bit0 Later.cell

/-- What the inner loop of MatrixThree has gathered of the switches below t. -/
def gath (p d : BitVec 64) (s : Nat) : Nat → Bool × Bool × Bool × Nat
  | 0 => (false, false, false, 0)
  | t + 1 =>
    if tb p t = true then ((gath p d s t).1 || t / 8 == s / 8, (gath p d s t).2.1 || t % 8 == s % 8, (gath p d s t).2.2.1 || tb d t, (gath p d s t).2.2.2 + 1)
    else gath p d s t
theorem natbeq (a b : Nat) : ((a : Int) == (b : Int)) = (a == b) := by
  rw [Bool.eq_iff_iff, beq_iff_eq, beq_iff_eq, Int.ofNat_inj]
theorem gath_le (p d : BitVec 64) (s : Nat) : ∀ t, (gath p d s t).2.2.2 ≤ t
  | 0 => Nat.le_refl _
  | t + 1 => by
    have := gath_le p d s t
    unfold gath
    split
    · show _ + 1 ≤ _; omega
    · omega
theorem gath_has (p d : BitVec 64) (s i : Nat) (hi : tb p i = true) : ∀ t, i < t → (i / 8 = s / 8 → (gath p d s t).1 = true) ∧ (i % 8 = s % 8 → (gath p d s t).2.1 = true) ∧ (tb d i = true → (gath p d s t).2.2.1 = true)
  | 0, h => absurd h (by omega)
  | t + 1, h => by
    unfold gath
    by_cases e : i = t
    · subst e
      rw [if_pos hi]
      exact ⟨fun h1 => by rw [h1]; simp, fun h1 => by rw [h1]; simp, fun h1 => by rw [h1]; simp⟩
    · have ih := gath_has p d s i hi t (by omega)
      split
      · exact ⟨fun h1 => by rw [ih.1 h1]; rfl, fun h1 => by rw [ih.2.1 h1]; rfl, fun h1 => by rw [ih.2.2 h1]; rfl⟩
      · exact ih
theorem gath_cnt (p d : BitVec 64) (s i j k : Nat) (hi : tb p i = true) (hj : tb p j = true) (hk : tb p k = true) (h1 : i ≠ j) (h2 : i ≠ k) (h3 : j ≠ k) :
    ∀ t, (if i < t then 1 else 0) + (if j < t then 1 else 0) + (if k < t then 1 else 0) ≤ (gath p d s t).2.2.2
  | 0 => by simp
  | t + 1 => by
    have ih := gath_cnt p d s i j k hi hj hk h1 h2 h3 t
    unfold gath
    by_cases ht : tb p t = true
    · rw [if_pos ht]
      show _ ≤ (gath p d s t).2.2.2 + 1
      by_cases e1 : i < t <;> by_cases e2 : j < t <;> by_cases e3 : k < t <;> by_cases f1 : i < t + 1 <;> by_cases f2 : j < t + 1 <;> by_cases f3 : k < t + 1 <;> simp only [e1, e2, e3, f1, f2, f3, if_true, if_false] at ih ⊢ <;> omega
    · rw [if_neg ht]
      have g1 : i ≠ t := fun e => ht (e ▸ hi)
      have g2 : j ≠ t := fun e => ht (e ▸ hj)
      have g3 : k ≠ t := fun e => ht (e ▸ hk)
      by_cases e1 : i < t <;> by_cases e2 : j < t <;> by_cases e3 : k < t <;> by_cases f1 : i < t + 1 <;> by_cases f2 : j < t + 1 <;> by_cases f3 : k < t + 1 <;> simp only [e1, e2, e3, f1, f2, f3, if_true, if_false] at ih ⊢ <;> omega
theorem gath_three (s b d x : BitVec 64) (n : Nat) (h : tb (ghostB s b d x) n = true) : ∃ m, 3 ≤ m ∧ m ≤ 64 ∧ gath (phys s b x) d n 64 = (true, true, true, m) := by
  obtain ⟨hn, hr, hp⟩ := (ghost_bit s b d x n).1 h
  have hp' : (phys s b x).getLsbD (8 * (n / 8) + n % 8) = false := by rw [show 8 * (n / 8) + n % 8 = n by omega]; exact hp
  obtain ⟨r1, k, r2, g1, g2, g3, g4, g5, g6, o1, o2, o3⟩ := three (phys s b x) d (n / 8) (n % 8) hr hp'
  rw [BitVec.getLsbD_and, Bool.and_eq_true] at o2
  have a1 := (gath_has (phys s b x) d n _ o1 64 (by omega)).1 (by omega)
  have a2 := (gath_has (phys s b x) d n _ o3 64 (by omega)).2.1 (by omega)
  have a3 := (gath_has (phys s b x) d n _ o2.1 64 (by omega)).2.2 o2.2
  have a4 := gath_cnt (phys s b x) d n _ _ _ o1 o2.1 o3 (by omega) (by omega) (by omega) 64
  rw [if_pos (by omega), if_pos (by omega), if_pos (by omega)] at a4
  have a5 := gath_le (phys s b x) d n 64
  generalize gath (phys s b x) d n 64 = G at *
  obtain ⟨G1, G2, G3, m⟩ := G
  simp only at a1 a2 a3 a4 a5
  subst a1 a2 a3
  exact ⟨m, a4, a5, rfl⟩

set_option maxHeartbeats 3200000 in
theorem matrixThree_walk (s b d x : BitVec 64) (w : World) :
    Calls Try.prog 8 #[.agg #[.int .u64 (U s), .int .u64 (U b), .int .u64 (U d)], .int .u64 (U x)] w fun e w' => e = .returned (.bool true) ∧ Below w.heap.size w w' := by
  have H3 := Lib.hid (gath_three s b d x)
  go_enter Try.func8, Try.ntmps8
  go_wp2_with fail
  refine (ghosts_any s b d x _).mono ?_
  rintro e w1 ⟨rfl, hb1⟩
  obtain ⟨k0, k1, k2, k3, kb⟩ := keep3 hb1
  have Hkb := Lib.hid kb
  clear hb1 kb
  go_wp2_with fail
  refine (phys_any s b d x _).mono ?_
  rintro e w2 ⟨rfl, hb2⟩
  have hk2 := keep3' hb2 ⟨k0, k1, k2, k3⟩
  have Hb2 := Lib.hid (Hkb.out.trans (hb2.mono Hkb.out.size))
  clear hb2 k0 k1 k2 k3 Hkb
  obtain ⟨k0, k1, k2, k3⟩ := hk2
  generalize ghostB s b d x = G at *
  generalize phys s b x = p at *
  go_wp2
  go_loopg [7] 64 (fun g i wr => ∃ n : Nat, n ≤ 64 ∧ g = 64 - n ∧ i = .int .i64 n ∧ w2 = wr)
  case atStart => exact ⟨0, by omega, rfl, rfl, rfl⟩
  case round =>
    obtain ⟨n, hn, hg, rfl, rfl⟩ := hrel
    have Hg := Lib.hid hg
    clear hg
    by_cases hn64 : n < 64
    · have hnd : decide ((n : Int) < 64) = true := by simp; omega
      cases hgn : tb G n with
      | false =>
        go_wp2
        go_roundg (64 - (n + 1))
        case measure => have := Hg.out; omega
        case rel => exact ⟨n + 1, by omega, rfl, by go_num, rfl⟩
      | true =>
        obtain ⟨m, hm1, hm2, hm⟩ := H3.out n hgn
        have Hm := Lib.hid hm
        clear hm
        obtain ⟨sc, sr, hsc, hsr, hs⟩ : ∃ f r, f < 8 ∧ r < 8 ∧ 8 * f + r = n := ⟨n / 8, n % 8, by omega, by omega, by omega⟩
        have d1 : (n : Int) / 8 = (sc : Int) := by omega
        have d2 : (n : Int) % 8 = (sr : Int) := by omega
        have Hs := Lib.hid hs
        clear hs
        go_wp2
        go_loopg [8, 9, 10, 11, 12] 64 (fun g c r l q i wr => ∃ (t m : Nat) (C R L : Bool), t ≤ 64 ∧ m ≤ t ∧ g = 64 - t ∧ i = .int .i64 t ∧ c = .bool C ∧ r = .bool R ∧ l = .bool L ∧ q = .int .i64 m ∧ (C, R, L, m) = gath p d n t ∧ w2 = wr)
        case atStart => exact ⟨0, 0, false, false, false, by omega, by omega, rfl, rfl, rfl, rfl, rfl, rfl, rfl, rfl⟩
        case round =>
          obtain ⟨t, q, C, R, L, ht, hq, hg2, rfl, rfl, rfl, rfl, rfl, hG, rfl⟩ := hrel
          have Hg2 := Lib.hid hg2
          have HG := Lib.hid hG
          clear hg2 hG
          by_cases ht64 : t < 64
          · have htd : decide ((t : Int) < 64) = true := by simp; omega
            cases hpt : tb p t with
            | false =>
              have HG' := Lib.hid (show (C, R, L, q) = gath p d n (t + 1) by rw [gath, if_neg (by rw [hpt]; exact Bool.false_ne_true)]; exact HG.out)
              go_wp2
              go_roundg (64 - (t + 1))
              case measure => have := Hg2.out; omega
              case rel => exact ⟨t + 1, q, C, R, L, by omega, by omega, rfl, by go_num, rfl, rfl, rfl, rfl, HG'.out, rfl⟩
            | true =>
              obtain ⟨tc, tr, htc, htr, htt⟩ : ∃ f r, f < 8 ∧ r < 8 ∧ 8 * f + r = t := ⟨t / 8, t % 8, by omega, by omega, by omega⟩
              have e1 : (t : Int) / 8 = (tc : Int) := by omega
              have e2 : (t : Int) % 8 = (tr : Int) := by omega
              have HG' := Lib.hid (show (C || tc == sc, R || tr == sr, L || tb d t, q + 1) = gath p d n (t + 1) by
                have h1 := HG.out
                have hs := Hs.out
                rw [gath, if_pos hpt, ← h1]
                rw [show t / 8 = tc by omega, show n / 8 = sc by omega, show t % 8 = tr by omega, show n % 8 = sr by omega])
              have Htt := Lib.hid htt
              clear htt
              cases C <;> cases R <;> cases L
              all_goals
                go_wp2
                go_roundg (64 - (t + 1))
                case measure => have := Hg2.out; omega
                case rel =>
                  refine ⟨t + 1, q + 1, _, _, _, by omega, by omega, rfl, by go_num, ?_, ?_, ?_, by go_num, HG'.out, rfl⟩
                  all_goals first | rfl | (simp only [Bool.false_or, natbeq]; done) | (simp only [Bool.false_or, natbeq]; rfl)
          · have Ht := Lib.hid (show t = 64 by omega)
            have hfin : (C, R, L, q) = (true, true, true, m) := by rw [HG.out, Ht.out]; exact Hm.out
            simp only [Prod.mk.injEq] at hfin
            obtain ⟨rfl, rfl, rfl, rfl⟩ := hfin
            go_wp2
            go_roundg (64 - (n + 1))
            case measure => have := Hg.out; omega
            case rel => exact ⟨n + 1, by omega, rfl, by go_num, rfl⟩
    · go_wp2_with fail
      refine (sane_any _).mono ?_
      rintro e w3 ⟨rfl, hb3⟩
      have Hb3 := Lib.hid hb3
      clear hb3
      go_wp2
      go_ret
      exact ⟨rfl, Hb2.out.trans (Hb3.out.mono Hb2.out.size)⟩
end Go.Proofs.Ytpboblanjngeeaa
