/-
  The walk of the law FuseTicks: for all arguments it hands back true, and nothing that was there turns.
-/
import Derived.Test.YtfgkljfoalgkaaaFTickR
import Derived.Test.YtfgkljfoalgkaaaFSmall
import Derived.Test.YtfgkljfoalgkaaaFSane
namespace Go.Proofs.Ytfgkljfoalgkaaa
open Go.RowKit

theorem nilT_same (w : World) : Calls Try.prog 48 #[.slice none 0 0, .slice none 0 0] w fun e w' => e = .returned (.bool true) ∧ Below w.heap.size w w' :=
  sameT _ _ 0 (fun _ => coldFS) (fun _ => coldFS) w (by omega) (Holds.nil _ _ _ _) (Holds.nil _ _ _ _) (fun _ _ => rfl)
set_option maxRecDepth 100000 in
set_option maxHeartbeats 3200000 in
theorem fuseTicks_walk (v1 v2 v3 : Value) (n c m : Nat) (F : Nat → Fuse) (C : Nat → Coil) (S : Nat → FS) (x : BitVec 32) (w : World) (h1 : HoldsF w v1 n F) (h2 : HoldsC w v2 c C) (h3 : HoldsT w v3 m S) :
    Calls Try.prog 17 #[panel v1 v2 v3, .int .u32 (W x)] w fun e w' => e = .returned (.bool true) ∧ Below w.heap.size w w' := by
  obtain ⟨a1, k1, rfl, _⟩ := id h1
  obtain ⟨a2, k2, rfl, _⟩ := id h2
  obtain ⟨a3, k3, rfl, _⟩ := id h3
  have H1 := Lib.hid h1
  have H2 := Lib.hid h2
  have H3 := Lib.hid h3
  clear h1 h2 h3
  go_enter Try.func17, Try.ntmps17
  go_wp2_with fail
  refine (small_any a1 a2 a3 n c m k1 k2 k3 _).mono ?_
  rintro e w1 ⟨rfl, hb1⟩
  obtain ⟨y0, y1, y2, hlt, hB1⟩ := keep3 hb1
  cases hs : smallB n c m with
  | false =>
    have HB1 := Lib.hid hB1
    clear hb1 hB1
    go_wp2_with fail
    refine (fsane _).mono ?_
    rintro e w2 ⟨rfl, hb2⟩
    have HB := Lib.hid (HB1.out.trans (hb2.mono HB1.out.size))
    clear hb2
    go_wp2
    go_ret
    exact ⟨rfl, HB.out⟩
  | true =>
    have HB1 := Lib.hid hB1
    clear hb1 hB1 hs
    by_cases hS : StateF n F m S ∧ validE c C = 0
    · obtain ⟨hS, hE⟩ := hS
      have hmn := hS.2.1
      subst hmn
      have HST := Lib.hid hS
      have HE := Lib.hid hE
      clear hS hE
      go_wp2_with fail
      refine (ftick_ok _ _ _ m c F C S x _ HST.out HE.out (H1.out.below HB1.out (Nat.le_refl _)) (H2.out.below HB1.out (Nat.le_refl _)) (H3.out.below HB1.out (Nat.le_refl _))).mono ?_
      rintro e w2 ⟨va, rfl, hT, hb2⟩
      obtain ⟨x0, x1, x2, hlt2⟩ := keep3' hb2 ⟨y0, y1, y2, hlt⟩
      have HB2 := Lib.hid (HB1.out.trans (hb2.mono HB1.out.size))
      have HT := Lib.hid hT
      clear hb2 y0 y1 y2 hT
      go_wp2_with fail
      refine (rftick_ok _ _ _ m c F C S x _ HST.out HE.out (H1.out.below HB2.out (Nat.le_refl _)) (H2.out.below HB2.out (Nat.le_refl _)) (H3.out.below HB2.out (Nat.le_refl _))).mono ?_
      rintro e w3 ⟨vb, rfl, hT3, hb3⟩
      obtain ⟨y0, y1, y2, hlt3⟩ := keep3' hb3 ⟨x0, x1, x2, hlt2⟩
      have HB3 := Lib.hid (HB2.out.trans (hb3.mono HB2.out.size))
      have HT2 := Lib.hid (HT.out.below hb3 (Nat.le_refl _))
      have HT3 := Lib.hid hT3
      clear hb3 x0 x1 x2 hT3 HB2 HB1 HT
      go_wp2_with fail
      refine (sameT va vb m _ _ w3 (by have := (validFE_zero HST.out.1).1; omega) HT2.out HT3.out (fun _ _ => rfl)).mono ?_
      rintro e w4 ⟨rfl, hb4⟩
      obtain ⟨x0, x1, x2, hlt4⟩ := keep3' hb4 ⟨y0, y1, y2, hlt3⟩
      have HB4 := Lib.hid (HB3.out.trans (hb4.mono HB3.out.size))
      have HT4 := Lib.hid (HT2.out.below hb4 (Nat.le_refl _))
      clear hb4 y0 y1 y2
      go_wp2_with fail
      refine (rfstate_yes (tickF_state x HST.out) w4 (H1.out.below HB4.out (Nat.le_refl _)) HT4.out).mono ?_
      rintro e w5 ⟨rfl, hb5⟩
      have HB5 := Lib.hid (HB4.out.trans (hb5.mono HB4.out.size))
      clear hb5
      go_wp2_with fail
      refine (fsane _).mono ?_
      rintro e w6 ⟨rfl, hb6⟩
      have HB6 := Lib.hid (HB5.out.trans (hb6.mono HB5.out.size))
      clear hb6
      go_wp2
      go_ret
      exact ⟨rfl, HB6.out⟩
    · have HST := Lib.hid hS
      clear hS
      go_wp2_with fail
      refine (ftick_arg _ _ _ n m c F C S x _ HST.out (H1.out.below HB1.out (Nat.le_refl _)) (H2.out.below HB1.out (Nat.le_refl _)) (H3.out.below HB1.out (Nat.le_refl _))).mono ?_
      rintro e w2 ⟨rfl, hb2⟩
      obtain ⟨x0, x1, x2, hlt2⟩ := keep3' hb2 ⟨y0, y1, y2, hlt⟩
      have HB2 := Lib.hid (HB1.out.trans (hb2.mono HB1.out.size))
      clear hb2 y0 y1 y2
      go_wp2_with fail
      refine (rftick_arg _ _ _ n m c F C S x _ HST.out (H1.out.below HB2.out (Nat.le_refl _)) (H2.out.below HB2.out (Nat.le_refl _)) (H3.out.below HB2.out (Nat.le_refl _))).mono ?_
      rintro e w3 ⟨rfl, hb3⟩
      have HB3 := Lib.hid (HB2.out.trans (hb3.mono HB2.out.size))
      clear hb3 x0 x1 x2
      go_wp2_with fail
      refine (nilT_same _).mono ?_
      rintro e w4 ⟨rfl, hb4⟩
      have HB4 := Lib.hid (HB3.out.trans (hb4.mono HB3.out.size))
      clear hb4
      go_wp2_with fail
      refine (fsane _).mono ?_
      rintro e w6 ⟨rfl, hb6⟩
      have HB6 := Lib.hid (HB4.out.trans (hb6.mono HB4.out.size))
      clear hb6
      go_wp2
      go_ret
      exact ⟨rfl, HB6.out⟩
end Go.Proofs.Ytfgkljfoalgkaaa
