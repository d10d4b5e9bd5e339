/-
  The laws' good: whether a panel is short and valid. No condition.
-/
import Derived.Test.YtfgkljfoalgkaaaFSmall
import Derived.Test.YtfgkljfoalgkaaaFStateR
import Derived.Test.YtfgkljfoalgkaaaRValid
namespace Go.Proofs.Ytfgkljfoalgkaaa
open Go.RowKit

def Good (n : Nat) (F : Nat → Fuse) (c : Nat) (C : Nat → Coil) (m : Nat) (S : Nat → FS) : Prop := smallB n c m = true ∧ validE c C = 0 ∧ StateF n F m S
set_option maxRecDepth 100000 in
set_option maxHeartbeats 1600000 in
theorem good57 (v1 v2 v3 : Value) (n c m : Nat) (F : Nat → Fuse) (C : Nat → Coil) (S : Nat → FS) (w : World) (h1 : HoldsF w v1 n F) (h2 : HoldsC w v2 c C) (h3 : HoldsT w v3 m S) :
    Calls Try.prog 57 #[panel v1 v2 v3] w fun e w' => ∃ b : Bool, e = .returned (.bool b) ∧ (b = true ↔ Good n F c C m S) ∧ Below w.heap.size w w' := by
  obtain ⟨a1, k1, rfl, _⟩ := id h1
  obtain ⟨a2, k2, rfl, _⟩ := id h2
  obtain ⟨a3, k3, rfl, _⟩ := id h3
  have H1 := Lib.hid h1
  have H2 := Lib.hid h2
  have H3 := Lib.hid h3
  clear h1 h2 h3
  go_enter Try.func57, Try.ntmps57
  go_wp2_with fail
  refine (small_any a1 a2 a3 n c m k1 k2 k3 _).mono ?_
  rintro e w1 ⟨rfl, hb1⟩
  obtain ⟨y0, y1, y2, hlt, hB1⟩ := keep3 hb1
  have HB1 := Lib.hid hB1
  clear hb1 hB1
  cases hs : smallB n c m with
  | false =>
    have HS := Lib.hid hs
    clear hs
    go_wp2
    go_ret
    exact ⟨false, rfl, ⟨fun h => Bool.noConfusion h, fun h => by rw [h.1] at HS; exact Bool.noConfusion HS.out⟩, HB1.out⟩
  | true =>
    have HS := Lib.hid hs
    clear hs
    obtain ⟨E, hEE⟩ : ∃ E, validE c C = E := ⟨_, rfl⟩
    go_wp2_with fail
    refine (rvalid_any _ c C _ (H2.out.below HB1.out (Nat.le_refl _))).mono ?_
    rintro e w2 ⟨rfl, hb2⟩
    obtain ⟨x0, x1, x2, hlt2⟩ := keep3' hb2 ⟨y0, y1, y2, hlt⟩
    have HB2 := Lib.hid (HB1.out.trans (hb2.mono HB1.out.size))
    rw [hEE]
    have HE := Lib.hid hEE
    clear hb2 y0 y1 y2 hEE
    by_cases hE : E = 0
    · subst hE
      go_wp2_with fail
      refine (rfstate _ _ n m F S _ (H1.out.below HB2.out (Nat.le_refl _)) (H3.out.below HB2.out (Nat.le_refl _))).mono ?_
      rintro e w3 ⟨b, rfl, hb, hb3⟩
      have HB3 := Lib.hid (HB2.out.trans (hb3.mono HB2.out.size))
      have HBB := Lib.hid hb
      clear hb3 hb x0 x1 x2
      go_wp2
      go_ret
      exact ⟨b, rfl, ⟨fun h => ⟨HS.out, HE.out, HBB.out.1 h⟩, fun h => HBB.out.2 h.2.2⟩, HB3.out⟩
    · have t1 : (E == 0) = false := by rw [Bool.eq_false_iff]; intro h; exact hE (eq_of_beq h)
      go_wp2
      go_ret
      exact ⟨false, rfl, ⟨fun h => Bool.noConfusion h, fun h => absurd (HE.out.symm.trans h.2.1) hE⟩, HB2.out⟩
end Go.Proofs.Ytfgkljfoalgkaaa
