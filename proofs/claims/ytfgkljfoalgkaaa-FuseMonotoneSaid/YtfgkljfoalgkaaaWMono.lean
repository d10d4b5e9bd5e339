/-
  The walk of the law FuseMonotone: for all arguments it hands back true, and nothing that was there turns.
-/
import Derived.Test.YtfgkljfoalgkaaaFMono
import Derived.Test.YtfgkljfoalgkaaaFGood
import Derived.Test.YtfgkljfoalgkaaaFSane
namespace Go.Proofs.Ytfgkljfoalgkaaa
open Go.RowKit
attribute [local go_sem] shr_min32 shl_min32 W_shr W_shr' W_shl W_shl' W_shl1 W_shl1n W_pow W_and W_or W_andNot W_and1 W_bit W_bit0

set_option maxRecDepth 100000 in
set_option maxHeartbeats 6400000 in
theorem fuseMonotone_walk (v1 v2 v3 : Value) (n c m : Nat) (F : Nat → Fuse) (C : Nat → Coil) (S : Nat → FS) (a b : BitVec 32) (w : World) (h1 : HoldsF w v1 n F) (h2 : HoldsC w v2 c C) (h3 : HoldsT w v3 m S) :
    Calls Try.prog 20 #[panel v1 v2 v3, .int .u32 (W a), .int .u32 (W b)] w fun e w' => e = .returned (.bool true) ∧ Below w.heap.size w w' := by
  have HGood := Lib.hid (fun W0 => good57 v1 v2 v3 n c m F C S W0)
  obtain ⟨a1, k1, rfl, _⟩ := id h1
  obtain ⟨a2, k2, rfl, _⟩ := id h2
  obtain ⟨a3, k3, rfl, _⟩ := id h3
  have H1 := Lib.hid h1
  have H2 := Lib.hid h2
  have H3 := Lib.hid h3
  clear h1 h2 h3
  have hal := (Below.refl w.heap.size w).alloc (Nat.le_refl _) (.cells #[.slice a1 n k1, .slice a2 c k2, .slice a3 m k3] 66)
  go_enter Try.func20, Try.ntmps20
  try simp only [List.append_eq, List.cons_append, List.nil_append]
  go_wp2_with fail
  refine (HGood.out _ (H1.out.below hal (Nat.le_refl _)) (H2.out.below hal (Nat.le_refl _)) (H3.out.below hal (Nat.le_refl _))).mono ?_
  rintro e w1 ⟨g, rfl, hg, hb1⟩
  obtain ⟨y0, y1, y2, hlt, hB1⟩ := keep3 hb1
  have HB1 := Lib.hid hB1
  have HG := Lib.hid hg
  clear hb1 hB1 hg hal HGood
  cases g with
  | false =>
    go_wp2_with fail
    refine (fsane _).mono ?_
    rintro e w2 ⟨rfl, hb2⟩
    have HB := Lib.hid (HB1.out.trans (hb2.mono HB1.out.size))
    clear hb2
    go_wp2
    go_ret
    exact ⟨rfl, HB.out⟩
  | true =>
    obtain ⟨_, hC, hS⟩ := HG.out.1 rfl
    have hmn := hS.2.1
    subst hmn
    have hn8 := (validFE_zero hS.1).1
    have HS := Lib.hid hS
    have HC := Lib.hid hC
    clear hS hC HG
    have q1 : (W (liveF c C m S (a &&& b) &&& ~~~ liveF c C m S b) != 0) = false := by rw [live_diff HC.out]; rfl
    go_wp2_with fail
    refine (ftick_ok _ _ _ m c F C S (a &&& b) _ HS.out HC.out (H1.out.below HB1.out (Nat.le_refl _)) (H2.out.below HB1.out (Nat.le_refl _)) (H3.out.below HB1.out (Nat.le_refl _))).mono ?_
    rintro e w2 ⟨va, rfl, hT, hb2⟩
    obtain ⟨x0, x1, x2, hlt2⟩ := keep3' hb2 ⟨y0, y1, y2, hlt⟩
    have HB2 := Lib.hid (HB1.out.trans (hb2.mono HB1.out.size))
    have HT := Lib.hid hT
    clear hb2 y0 y1 y2 hT
    go_wp2_with fail
    refine (ftick_ok _ _ _ m c F C S b _ HS.out HC.out (H1.out.below HB2.out (Nat.le_refl _)) (H2.out.below HB2.out (Nat.le_refl _)) (H3.out.below HB2.out (Nat.le_refl _))).mono ?_
    rintro e w3 ⟨vb, rfl, hT3, hb3⟩
    obtain ⟨y0, y1, y2, hlt3⟩ := keep3' hb3 ⟨x0, x1, x2, hlt2⟩
    have HB3 := Lib.hid (HB2.out.trans (hb3.mono HB2.out.size))
    have hT2 := HT.out.below hb3 (Nat.le_refl _)
    obtain ⟨aa, ka, rfl, _⟩ := id hT2
    obtain ⟨ab, kb, rfl, _⟩ := id hT3
    have HTA := Lib.hid hT2
    have HTB := Lib.hid hT3
    clear hb3 x0 x1 x2 hT3 hT2 HB2 HB1 HT
    go_wp2
    go_loopg [13] m (fun gg i wr => ∃ k : Nat, k ≤ m ∧ gg = m - k ∧ i = .int .i64 k ∧ Below w3.heap.size w3 wr)
    case atStart => exact ⟨0, by omega, rfl, rfl, Below.refl _ _⟩
    case round =>
      obtain ⟨k, hk, hgg, rfl, hb⟩ := hrel
      have Hg := Lib.hid hgg
      have Hb := Lib.hid hb
      clear hgg hb
      by_cases hkm : k < m
      · obtain ⟨g1, o1, rfl, l1, hc1⟩ := HTA.out.open2 hkm
        obtain ⟨g2, o2, rfl, l2, hc2⟩ := HTB.out.open2 hkm
        obtain ⟨d0, d1⟩ := fs_cells (hc1 _ Hb.out) hkm
        obtain ⟨e0, e1⟩ := fs_cells (hc2 _ Hb.out) hkm
        have b1 : (0 : Int) ≤ (k : Int) := by omega
        have b2 : (k : Int) < (m : Int) := by omega
        have b3 : decide ((k : Int) < (m : Int)) = true := by simp; omega
        clear hc1 hc2
        have hm := tick_mono HC.out m F S a b k
        cases ht : (tickF m F c C S b k).blown with
        | true =>
          rw [ht] at e1
          cases hs : (tickF m F c C S (a &&& b) k).blown with
          | true =>
            rw [hs] at d1
            clear hm ht hs
            go_wp2_with fail
            go_quiet (fail)
            go_wp2
            go_roundg (m - (k + 1))
            case measure => have := Hg.out; omega
            case rel => exact ⟨k + 1, by omega, rfl, by go_num, below_drewN Hb.out _⟩
          | false =>
            rw [hs] at d1
            clear hm ht hs
            go_wp2_with fail
            go_quiet (fail)
            go_wp2
            go_roundg (m - (k + 1))
            case measure => have := Hg.out; omega
            case rel => exact ⟨k + 1, by omega, rfl, by go_num, below_drewN Hb.out _⟩
        | false =>
          rw [ht] at hm e1
          obtain ⟨hs, hle⟩ := hm.resolve_left Bool.false_ne_true
          rw [hs] at d1
          obtain ⟨p, hp⟩ : ∃ p, (tickF m F c C S (a &&& b) k).heat = p := ⟨_, rfl⟩
          obtain ⟨q, hq⟩ : ∃ q, (tickF m F c C S b k).heat = q := ⟨_, rfl⟩
          rw [hp] at d0 hle
          rw [hq] at e0 hle
          have t1 : decide (q < p) = false := by simp; omega
          clear hm ht hs hp hq
          go_wp2_with fail
          go_quiet (fail)
          go_wp2
          go_roundg (m - (k + 1))
          case measure => have := Hg.out; omega
          case rel => exact ⟨k + 1, by omega, rfl, by go_num, below_drewN Hb.out _⟩
      · have b3 : decide ((k : Int) < (m : Int)) = false := by simp; omega
        go_wp2_with fail
        refine (fsane _).mono ?_
        rintro e w4 ⟨rfl, hb4⟩
        have HB := Lib.hid (HB3.out.trans ((Hb.out.trans (hb4.mono Hb.out.size)).mono HB3.out.size))
        clear hb4
        go_wp2
        go_ret
        exact ⟨rfl, HB.out⟩
end Go.Proofs.Ytfgkljfoalgkaaa
