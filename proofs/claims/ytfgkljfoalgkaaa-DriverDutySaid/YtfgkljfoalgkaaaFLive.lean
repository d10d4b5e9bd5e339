/-
  fuse.Live: what it hands back, for all coils, sets and states. No condition.
-/
import Derived.Test.YtfgkljfoalgkaaaFRow
namespace Go.Proofs.Ytfgkljfoalgkaaa
open Go.RowKit
attribute [local go_sem] shr_min32 shl_min32 W_shr W_shr' W_shl W_shl' W_shl1 W_shl1n W_pow W_and W_or W_andNot W_and1 W_bit W_bit0

set_option maxHeartbeats 3200000 in
theorem flive (v v2 : Value) (n m : Nat) (C : Nat → Coil) (S : Nat → FS) (x : BitVec 32) (w : World) (hv : HoldsC w v n C) (hv2 : HoldsT w v2 m S) :
    Calls Try.prog 53 #[v, v2, .int .u32 (W x)] w fun e w' => e = .returned (.int .u32 (W (liveF n C m S x))) ∧ Below w.heap.size w w' := by
  obtain ⟨a, cap, rfl, _⟩ := id hv
  obtain ⟨a2, cap2, rfl, _⟩ := id hv2
  have HV := Lib.hid hv
  have HV2 := Lib.hid hv2
  clear hv hv2
  obtain ⟨E, hEE⟩ : ∃ E, validE n C = E := ⟨_, rfl⟩
  by_cases hE : E = 0
  · subst hE
    have hn32 := (validE_zero hEE).1
    have HL := Lib.hid (show liveTo C m S x n = liveF n C m S x by unfold liveF; rw [if_pos hEE])
    have HEE := Lib.hid hEE
    clear hEE
    go_enter Try.func53, Try.ntmps53
    go_wp2_with fail
    refine (valid_any _ n C _ HV.out).mono ?_
    rintro e w1 ⟨rfl, hb1⟩
    rw [HEE.out]
    have Hb1 := Lib.hid hb1
    clear hb1
    go_wp2
    go_loopg [7, 15] n (fun g s i wr => ∃ k : Nat, k ≤ n ∧ g = n - k ∧ s = .int .u32 (W (liveTo C m S x k)) ∧ i = .int .i64 k ∧ Below w.heap.size w wr)
    case atStart => exact ⟨0, by omega, rfl, rfl, rfl, Hb1.out⟩
    case round =>
      obtain ⟨k, hk, hg, rfl, rfl, hb⟩ := hrel
      have Hg := Lib.hid hg
      have Hb := Lib.hid hb
      have hsz := hb.size
      clear hg hb
      by_cases hkn : k < n
      · obtain ⟨g1, o1, rfl, l1, hc⟩ := HV.out.open2 hkn
        obtain ⟨e0, e1, e2, e3, e4, e5⟩ := coil_cells (hc _ Hb.out) hkn
        have b1 : (0 : Int) ≤ (k : Int) := by omega
        have b2 : (k : Int) < (n : Int) := by omega
        have b3 : decide ((k : Int) < (n : Int)) = true := by simp; omega
        have lw1 : g1 < wr.heap.size := by omega
        clear hc
        have HB2 := Lib.hid ((Hb.out.alloc hsz (.cells #[.int .i64 (C k).pulse, .int .i64 (C k).on, .int .i64 (C k).off, .int .i64 (C k).rest, .int .i64 (C k).fuse, .int .i64 (C k).cur] 25)))
        cases t1 : decide ((C k).fuse < 0) with
        | true =>
          have HS := Lib.hid (show liveTo C m S x k ||| (x &&& 1#32 <<< k) = liveTo C m S x (k + 1) by rw [liveTo, if_pos (by unfold liveC; rw [t1]; rfl)])
          go_wp2
          go_roundg (n - (k + 1))
          case measure => have := Hg.out; omega
          case rel => exact ⟨k + 1, by omega, rfl, by rw [← HS.out], by go_num, HB2.out⟩
        | false =>
          cases t2 : decide ((m : Int) ≤ (C k).fuse) with
          | true =>
            have HS := Lib.hid (show liveTo C m S x k ||| (x &&& 1#32 <<< k) = liveTo C m S x (k + 1) by rw [liveTo, if_pos (by unfold liveC; rw [t1, t2]; rfl)])
            go_wp2
            go_roundg (n - (k + 1))
            case measure => have := Hg.out; omega
            case rel => exact ⟨k + 1, by omega, rfl, by rw [← HS.out], by go_num, HB2.out⟩
          | false =>
            have h1 := of_decide_eq_false t1
            have h2 := of_decide_eq_false t2
            obtain ⟨j, hj⟩ : ∃ j : Nat, (C k).fuse = j := ⟨(C k).fuse.toNat, by omega⟩
            have hjm : j < m := by omega
            have HJ := Lib.hid hj
            rw [hj] at e4 t1 t2 HB2
            clear hj h1 h2
            obtain ⟨g2, o2, rfl, l2, hc2⟩ := HV2.out.open2 hjm
            obtain ⟨d0, d1⟩ := fs_cells (hc2 _ Hb.out) hjm
            clear hc2
            have b4 : (0 : Int) ≤ (j : Int) := by omega
            have b5 : (j : Int) < (m : Int) := by omega
            have lw2 : g2 < wr.heap.size := by omega
            have lw3 : g2 ≠ wr.heap.size := by omega
            have HC := Lib.hid (show liveC (C k) m S = !(S j).blown by unfold liveC; rw [HJ.out, t1, t2]; rfl)
            cases t3 : (S j).blown with
            | true =>
              have HS := Lib.hid (show liveTo C m S x k = liveTo C m S x (k + 1) by rw [liveTo, if_neg (by rw [HC.out, t3]; decide)])
              go_wp2
              go_roundg (n - (k + 1))
              case measure => have := Hg.out; omega
              case rel => exact ⟨k + 1, by omega, rfl, by rw [← HS.out], by go_num, HB2.out⟩
            | false =>
              have HS := Lib.hid (show liveTo C m S x k ||| (x &&& 1#32 <<< k) = liveTo C m S x (k + 1) by rw [liveTo, if_pos (by rw [HC.out, t3]; decide)])
              go_wp2
              go_roundg (n - (k + 1))
              case measure => have := Hg.out; omega
              case rel => exact ⟨k + 1, by omega, rfl, by rw [← HS.out], by go_num, HB2.out⟩
      · have b3 : decide ((k : Int) < (n : Int)) = false := by simp; omega
        have hkn' : k = n := by omega
        have HK := Lib.hid hkn'
        clear hkn'
        go_wp2
        go_ret
        exact ⟨by rw [HK.out, HL.out]; rfl, Hb.out⟩
  · have t1 : (E != 0) = true := by rw [bne_iff_ne]; exact hE
    have HL := Lib.hid (show liveF n C m S x = 0#32 by unfold liveF; rw [if_neg (by rw [hEE]; exact hE)])
    have HEE := Lib.hid hEE
    clear hE hEE
    go_enter Try.func53, Try.ntmps53
    go_wp2_with fail
    refine (valid_any _ n C _ HV.out).mono ?_
    rintro e w1 ⟨rfl, hb1⟩
    rw [HEE.out]
    have Hb1 := Lib.hid hb1
    clear hb1
    go_wp2
    go_ret
    exact ⟨by rw [HL.out]; rfl, Hb1.out⟩
end Go.Proofs.Ytfgkljfoalgkaaa
