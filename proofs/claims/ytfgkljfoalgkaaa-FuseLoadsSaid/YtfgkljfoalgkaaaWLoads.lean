/-
  The walk of the law FuseLoads: for all arguments it hands back true, and nothing that was there turns.
-/
import Derived.Test.YtfgkljfoalgkaaaFLoadR
import Derived.Test.YtfgkljfoalgkaaaFLiveR
import Derived.Test.YtfgkljfoalgkaaaFSmall
import Derived.Test.YtfgkljfoalgkaaaFSane
namespace Go.Proofs.Ytfgkljfoalgkaaa
open Go.RowKit
attribute [local go_sem] Later.cell

set_option maxRecDepth 100000 in
set_option maxHeartbeats 3200000 in
theorem fuseLoads_walk (v1 v2 v3 : Value) (n c m : Nat) (F : Nat → Fuse) (C : Nat → Coil) (S : Nat → FS) (x : BitVec 32) (kk : Int) (w : World) (h1 : HoldsF w v1 n F) (h2 : HoldsC w v2 c C) (h3 : HoldsT w v3 m S) :
    Calls Try.prog 15 #[panel v1 v2 v3, .int .u32 (W x), .int .i64 kk] w fun e w' => e = .returned (.bool true) ∧ Below w.heap.size w w' := by
  obtain ⟨a1, k1, rfl, _⟩ := h1
  obtain ⟨a2, k2, rfl, _⟩ := id h2
  obtain ⟨a3, k3, rfl, _⟩ := id h3
  have H2 := Lib.hid h2
  have H3 := Lib.hid h3
  clear h2 h3
  go_enter Try.func15, Try.ntmps15
  go_wp2_with fail
  refine (small_any a1 a2 a3 n c m k1 k2 k3 _).mono ?_
  rintro e w1 ⟨rfl, hb1⟩
  obtain ⟨y0, y1, y2, hlt, hB1⟩ := keep3 hb1
  cases hs : smallB n c m with
  | false =>
    have HB1 := Lib.hid hB1
    clear hb1 hB1
    go_wp2_with fail
    refine (fsane _).mono ?_
    rintro e w2 ⟨rfl, hb2⟩
    have HB := Lib.hid (HB1.out.trans (hb2.mono HB1.out.size))
    clear hb2
    go_wp2
    go_ret
    exact ⟨rfl, HB.out⟩
  | true =>
    have HB1 := Lib.hid hB1
    have HK := Lib.hid (And.intro y0 (And.intro y1 (And.intro y2 hlt)))
    clear hb1 hB1 hs y0 y1 y2 hlt
    go_wp2
    go_loopg [7] 10 (fun gg i wr => ∃ q : Int, -1 ≤ q ∧ q ≤ 9 ∧ gg = (9 - q).toNat ∧ i = .int .i64 q ∧ (wr.cell? ⟨w.heap.size, 0, none⟩ = some (.slice a1 n k1) ∧ wr.cell? ⟨w.heap.size, 1, none⟩ = some (.slice a2 c k2) ∧ wr.cell? ⟨w.heap.size, 2, none⟩ = some (.slice a3 m k3) ∧ w.heap.size < wr.heap.size) ∧ Below w.heap.size w wr)
    case atStart => exact ⟨-1, by omega, by omega, by decide, rfl, HK.out, HB1.out⟩
    case round =>
      clear HK HB1
      obtain ⟨q, q0, q1, hgg, rfl, ⟨y0, y1, y2, hlt⟩, hb⟩ := hrel
      have Hg := Lib.hid hgg
      have Hb := Lib.hid hb
      have hC := H2.out.below hb (Nat.le_refl _)
      have hT := H3.out.below hb (Nat.le_refl _)
      clear hgg hb
      by_cases hq : q < 9
      · have b3 : decide (q < 9) = true := by simp; omega
        have HL := Lib.hid (fun z : Later wr => fload _ c C x q z.w (hC.below z.h (Nat.le_refl _)))
        have HL2 := Lib.hid (fun z : Later wr => rfload _ c C x q z.w (hC.below z.h (Nat.le_refl _)))
        have HK := Lib.hid (And.intro y0 (And.intro y1 (And.intro y2 hlt)))
        clear hC hT
        go_wp2_with fail
        refine wp_region_later (by kernel_rfl) (by kernel_rfl) ?_
        repeat (go_big_quiet_step ((first | (go_at_call 51; exact Later.of (HL.out _)) | (go_at_call 52; exact Later.of (HL2.out _)))))
        refine wpQuiet_nil ?_
        rintro _ ⟨z, rfl⟩
        have HK2 := Lib.hid (keep3' z.h HK.out)
        clear y0 y1 y2 HK
        go_wp2
        go_roundg (9 - (q + 1)).toNat
        case measure => have := Hg.out; omega
        case rel => exact ⟨q + 1, by omega, by omega, rfl, by go_num, HK2.out, Hb.out.trans (z.h.mono Hb.out.size)⟩
      · have b3 : decide (q < 9) = false := by simp; omega
        have HL := Lib.hid (fun z : Later wr => fload _ c C x kk z.w (hC.below z.h (Nat.le_refl _)))
        have HL2 := Lib.hid (fun z : Later wr => rfload _ c C x kk z.w (hC.below z.h (Nat.le_refl _)))
        have HV := Lib.hid (fun z : Later wr => flive _ _ c m C S x z.w (hC.below z.h (Nat.le_refl _)) (hT.below z.h (Nat.le_refl _)))
        have HV2 := Lib.hid (fun z : Later wr => rflive _ _ c m C S x z.w (hC.below z.h (Nat.le_refl _)) (hT.below z.h (Nat.le_refl _)))
        clear hC hT
        go_wp2_with fail
        refine wp_region_later (by kernel_rfl) (by kernel_rfl) ?_
        repeat (go_big_quiet_step ((first | (go_at_call 51; exact Later.of (HL.out _)) | (go_at_call 52; exact Later.of (HL2.out _)) | (go_at_call 53; exact Later.of (HV.out _)) | (go_at_call 54; exact Later.of (HV2.out _)) | (go_at_call 43; exact Later.of (fsane _)))))
        refine wpQuiet_nil ?_
        rintro _ ⟨z, rfl⟩
        go_wp2
        go_ret
        exact ⟨rfl, Hb.out.trans (z.h.mono Hb.out.size)⟩
end Go.Proofs.Ytfgkljfoalgkaaa
