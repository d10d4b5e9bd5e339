/-
  The walk of the law FuseStates: for all arguments it hands back true, and nothing that was there turns.
-/
import Derived.Test.YtfgkljfoalgkaaaFState
import Derived.Test.YtfgkljfoalgkaaaFStateR
import Derived.Test.YtfgkljfoalgkaaaFSmall
import Derived.Test.YtfgkljfoalgkaaaFSane
namespace Go.Proofs.Ytfgkljfoalgkaaa
open Go.RowKit
attribute [local go_sem] Later.cell

theorem smallB_le {n c m : Nat} (h : smallB n c m = true) : n ≤ 12 ∧ c ≤ 40 ∧ m ≤ 12 := by
  unfold smallB at h
  simp at h
  omega
set_option maxRecDepth 100000 in
set_option maxHeartbeats 3200000 in
theorem fuseStates_walk (v1 v2 v3 : Value) (n c m : Nat) (F : Nat → Fuse) (C : Nat → Coil) (S : Nat → FS) (w : World) (h1 : HoldsF w v1 n F) (h2 : HoldsC w v2 c C) (h3 : HoldsT w v3 m S) :
    Calls Try.prog 14 #[panel v1 v2 v3] w fun e w' => e = .returned (.bool true) ∧ Below w.heap.size w w' := by
  obtain ⟨a1, k1, rfl, _⟩ := id h1
  obtain ⟨a2, k2, rfl, _⟩ := h2
  obtain ⟨a3, k3, rfl, _⟩ := id h3
  have H1 := Lib.hid h1
  have H3 := Lib.hid h3
  clear h1 h3
  go_enter Try.func14, Try.ntmps14
  go_wp2_with fail
  refine (small_any a1 a2 a3 n c m k1 k2 k3 _).mono ?_
  rintro e w1 ⟨rfl, hb1⟩
  obtain ⟨y0, y1, y2, hlt, hB1⟩ := keep3 hb1
  cases hs : smallB n c m with
  | false =>
    have HB1 := Lib.hid hB1
    clear hb1 hB1
    go_wp2_with fail
    refine (fsane _).mono ?_
    rintro e w2 ⟨rfl, hb2⟩
    have HB := Lib.hid (HB1.out.trans (hb2.mono HB1.out.size))
    clear hb2
    go_wp2
    go_ret
    exact ⟨rfl, HB.out⟩
  | true =>
    have hn := (smallB_le hs).1
    have HB1 := Lib.hid hB1
    clear hb1 hB1 hs
    go_wp2_with fail
    refine (fnew _ n F _ (H1.out.below HB1.out (Nat.le_refl _))).mono ?_
    rintro e w2 ⟨va, rfl, hT, hb2⟩
    obtain ⟨x0, x1, x2, hlt2⟩ := keep3' hb2 ⟨y0, y1, y2, hlt⟩
    have HB2 := Lib.hid (HB1.out.trans (hb2.mono HB1.out.size))
    have HT := Lib.hid hT
    clear hb2 y0 y1 y2 hT
    go_wp2_with fail
    refine (rfnew _ n F _ (H1.out.below HB2.out (Nat.le_refl _))).mono ?_
    rintro e w3 ⟨vb, rfl, hT3, hb3⟩
    obtain ⟨y0, y1, y2, hlt3⟩ := keep3' hb3 ⟨x0, x1, x2, hlt2⟩
    have HB3 := Lib.hid (HB2.out.trans (hb3.mono HB2.out.size))
    have hTa := HT.out.below hb3 (Nat.le_refl _)
    clear hb3 x0 x1 x2
    have HS := Lib.hid (fun z : Later w3 => sameT va vb _ _ _ z.w (by split <;> omega) (hTa.below z.h (Nat.le_refl _)) (hT3.below z.h (Nat.le_refl _)) (fun _ _ => rfl))
    have h13 := H1.out.below HB3.out (Nat.le_refl _)
    have h33 := H3.out.below HB3.out (Nat.le_refl _)
    have HV1 := Lib.hid (fun z : Later w3 => fvalid_any _ n F z.w (h13.below z.h (Nat.le_refl _)))
    have HV2 := Lib.hid (fun z : Later w3 => rfvalid_any _ n F z.w (h13.below z.h (Nat.le_refl _)))
    clear hTa hT3 HT HB2 HB1
    by_cases hS : StateF n F m S
    · have HY := Lib.hid (fun z : Later w3 => fstate_yes hS z.w (h13.below z.h (Nat.le_refl _)) (h33.below z.h (Nat.le_refl _)))
      have HZ := Lib.hid (fun z : Later w3 => rfstate_yes hS z.w (h13.below z.h (Nat.le_refl _)) (h33.below z.h (Nat.le_refl _)))
      clear hS h13 h33
      go_wp2_with fail
      refine wp_region_later (by kernel_rfl) (by kernel_rfl) ?_
      repeat (go_big_quiet_step ((first | (go_at_call 46; exact Later.of (HV1.out _)) | (go_at_call 47; exact Later.of (HV2.out _)) | (go_at_call 48; exact Later.of (HS.out _)) | (go_at_call 49; exact Later.of (HY.out _)) | (go_at_call 50; exact Later.of (HZ.out _)) | (go_at_call 43; exact Later.of (fsane _)))))
      refine wpQuiet_nil ?_
      rintro _ ⟨z, rfl⟩
      go_wp2
      go_ret
      exact ⟨rfl, HB3.out.trans (z.h.mono HB3.out.size)⟩
    · have HY := Lib.hid (fun z : Later w3 => fstate_no hS z.w (h13.below z.h (Nat.le_refl _)) (h33.below z.h (Nat.le_refl _)))
      have HZ := Lib.hid (fun z : Later w3 => rfstate_no hS z.w (h13.below z.h (Nat.le_refl _)) (h33.below z.h (Nat.le_refl _)))
      clear hS h13 h33
      go_wp2_with fail
      refine wp_region_later (by kernel_rfl) (by kernel_rfl) ?_
      repeat (go_big_quiet_step ((first | (go_at_call 46; exact Later.of (HV1.out _)) | (go_at_call 47; exact Later.of (HV2.out _)) | (go_at_call 48; exact Later.of (HS.out _)) | (go_at_call 49; exact Later.of (HY.out _)) | (go_at_call 50; exact Later.of (HZ.out _)) | (go_at_call 43; exact Later.of (fsane _)))))
      refine wpQuiet_nil ?_
      rintro _ ⟨z, rfl⟩
      go_wp2
      go_ret
      exact ⟨rfl, HB3.out.trans (z.h.mono HB3.out.size)⟩
end Go.Proofs.Ytfgkljfoalgkaaa
