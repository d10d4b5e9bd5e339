/-
  fuse.Load: what it hands back, for all coils, sets and numbers. No condition.
-/
import Derived.Test.YtfgkljfoalgkaaaFRow
namespace Go.Proofs.Ytfgkljfoalgkaaa
open Go.RowKit
attribute [local go_sem] shr_min32 shl_min32 W_shr W_shr' W_shl W_shl' W_shl1 W_shl1n W_pow W_and W_or W_andNot W_and1 W_bit W_bit0

set_option maxHeartbeats 3200000 in
theorem fload (v : Value) (n : Nat) (C : Nat → Coil) (x : BitVec 32) (q : Int) (w : World) (hv : HoldsC w v n C) :
    Calls Try.prog 51 #[v, .int .u32 (W x), .int .i64 q] w fun e w' => e = .returned (.int .i64 (loadF n C x q)) ∧ Below w.heap.size w w' := by
  obtain ⟨a, cap, rfl, _⟩ := id hv
  have HV := Lib.hid hv
  clear hv
  obtain ⟨E, hEE⟩ : ∃ E, validE n C = E := ⟨_, rfl⟩
  by_cases hE : E = 0
  · subst hE
    have hn32 := (validE_zero hEE).1
    have HG := Lib.hid (validE_zero hEE).2
    have HL := Lib.hid (show loadTo C x q n = loadF n C x q by unfold loadF; rw [if_pos hEE])
    have HEE := Lib.hid hEE
    clear hEE
    go_enter Try.func51, Try.ntmps51
    go_wp2_with fail
    refine (valid_any _ n C _ HV.out).mono ?_
    rintro e w1 ⟨rfl, hb1⟩
    rw [HEE.out]
    have Hb1 := Lib.hid hb1
    clear hb1
    go_wp2
    go_loopg [7, 15] n (fun g s i wr => ∃ k : Nat, k ≤ n ∧ g = n - k ∧ s = .int .i64 (loadTo C x q k) ∧ i = .int .i64 k ∧ Below w.heap.size w wr)
    case atStart => exact ⟨0, by omega, rfl, rfl, rfl, Hb1.out⟩
    case round =>
      obtain ⟨k, hk, hg, rfl, rfl, hb⟩ := hrel
      have Hg := Lib.hid hg
      have Hb := Lib.hid hb
      have hsz := hb.size
      clear hg hb
      by_cases hkn : k < n
      · obtain ⟨g1, o1, rfl, l1, hc⟩ := HV.out.open2 hkn
        obtain ⟨e0, e1, e2, e3, e4, e5⟩ := coil_cells (hc _ Hb.out) hkn
        have b1 : (0 : Int) ≤ (k : Int) := by omega
        have b2 : (k : Int) < (n : Int) := by omega
        have b3 : decide ((k : Int) < (n : Int)) = true := by simp; omega
        have lw1 : g1 < wr.heap.size := by omega
        clear hc
        obtain ⟨L0, L1⟩ := loadTo_le C x q k fun i hi => HG.out i (by omega)
        have hg := (goodB_iff _).1 (HG.out k hkn)
        have c0 : 0 ≤ (C k).cur := hg.2.2.2.2.2.2.2.2.2.2.2.1
        have c1 : (C k).cur ≤ 200 := hg.2.2.2.2.2.2.2.2.2.2.2.2
        have HB2 := Lib.hid ((Hb.out.alloc hsz (.cells #[.int .i64 (C k).pulse, .int .i64 (C k).on, .int .i64 (C k).off, .int .i64 (C k).rest, .int .i64 (C k).fuse, .int .i64 (C k).cur] 25)))
        clear hg
        obtain ⟨L, hL⟩ : ∃ L, loadTo C x q k = L := ⟨_, rfl⟩
        rw [hL] at L0 L1 ⊢
        cases tt : tb x k with
        | true =>
          cases tf : ((C k).fuse == q) with
          | true =>
            have HS := Lib.hid (show L + (C k).cur = loadTo C x q (k + 1) by rw [loadTo, tt, tf, ← hL]; rfl)
            clear hL
            go_wp2
            go_roundg (n - (k + 1))
            case measure => have := Hg.out; omega
            case rel => exact ⟨k + 1, by omega, rfl, by rw [← HS.out], by go_num, HB2.out⟩
          | false =>
            have HS := Lib.hid (show L = loadTo C x q (k + 1) by rw [loadTo]; simp [*])
            clear hL
            go_wp2
            go_roundg (n - (k + 1))
            case measure => have := Hg.out; omega
            case rel => exact ⟨k + 1, by omega, rfl, by rw [← HS.out], by go_num, HB2.out⟩
        | false =>
            have HS := Lib.hid (show L = loadTo C x q (k + 1) by rw [loadTo]; simp [*])
            clear hL
            go_wp2
            go_roundg (n - (k + 1))
            case measure => have := Hg.out; omega
            case rel => exact ⟨k + 1, by omega, rfl, by rw [← HS.out], by go_num, HB2.out⟩
      · have b3 : decide ((k : Int) < (n : Int)) = false := by simp; omega
        have hkn' : k = n := by omega
        have HK := Lib.hid hkn'
        clear hkn'
        go_wp2
        go_ret
        exact ⟨by rw [HK.out, HL.out]; rfl, Hb.out⟩
  · have t1 : (E != 0) = true := by rw [bne_iff_ne]; exact hE
    have HL := Lib.hid (show loadF n C x q = 0 by unfold loadF; rw [if_neg (by rw [hEE]; exact hE)])
    have HEE := Lib.hid hEE
    clear hE hEE
    go_enter Try.func51, Try.ntmps51
    go_wp2_with fail
    refine (valid_any _ n C _ HV.out).mono ?_
    rintro e w1 ⟨rfl, hb1⟩
    rw [HEE.out]
    have Hb1 := Lib.hid hb1
    clear hb1
    go_wp2
    go_ret
    exact ⟨by rw [HL.out]; rfl, Hb1.out⟩
end Go.Proofs.Ytfgkljfoalgkaaa
