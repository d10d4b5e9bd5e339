/-
  The laws' own helpers: 'same' on two equal lists, and the sanity check 'sane'. No condition.
-/
import Derived.Test.YtpboblanjngeeaaPathW
import Derived.Test.YtpboblanjngeeaaSafeW
namespace Go.Proofs.Ytpboblanjngeeaa
open Go.RowKit
attribute [local go_sem] shr_min64 shr_min8 shl_min64 U_shr U_shr' U_shl U_shl' U_shl1 U_and U_or U_andNot U_and1 U_bit U_to8 B8_to64 B8_shr B8_shr' B8_shl B8_shl' B8_shl1 B8_pow U_pow B8_and B8_or B8_andNot B8_and1 B8_bit B8_bit0 Later.cell

/-- The slice value v reads as the list xs. -/
def HoldsI (w : World) (v : Value) (xs : List Nat) : Prop :=
  ∃ a cap, v = .slice a xs.length cap ∧ (xs = [] ∨ ∃ g off, a = some ⟨g, off, none⟩ ∧ g < w.heap.size ∧ ∀ j, j < xs.length → w.cell? ⟨g, off + j, none⟩ = some (iv (xs.getD j 0)))
theorem HoldsI.of_owns {w : World} {base : Nat} {v : Value} {n : Nat} {xs : List Nat} (h : w.ownsRow base 3 1 v n (xs.map iv)) : HoldsI w v xs := by
  have hl := h.1
  simp at hl
  rcases h.2 with ⟨rfl, hn⟩ | ⟨g, cap, cur, rfl, _, hg, _⟩
  · have : xs = [] := List.eq_nil_of_length_eq_zero (by omega)
    subst this
    exact ⟨none, 0, rfl, .inl rfl⟩
  · refine ⟨_, cap, by rw [hl], .inr ⟨g, 0, rfl, (Array.getElem?_eq_some_iff.1 hg).1, fun j hj => ?_⟩⟩
    have hc := h.cells (g := g) rfl j (iv (xs.getD j 0)) (by simp [hj])
    rwa [Addr.add_lit] at hc
theorem HoldsI.nil (w : World) (a : Option Addr) (c : Nat) : HoldsI w (.slice a 0 c) [] := ⟨a, c, rfl, .inl rfl⟩
theorem HoldsI.below {w w' : World} {B : Nat} {v : Value} {xs : List Nat} (h : HoldsI w v xs) (hb : Below B w w') (hB : w.heap.size ≤ B) : HoldsI w' v xs := by
  obtain ⟨a, cap, hv, h⟩ := h
  refine ⟨a, cap, hv, h.imp id fun ⟨g, off, h1, h2, h3⟩ => ⟨g, off, h1, Nat.lt_of_lt_of_le h2 hb.size, fun j hj => ?_⟩⟩
  rw [hb.cell (p := ⟨g, off + j, none⟩) (Nat.lt_of_lt_of_le h2 hB)]
  exact h3 j hj

set_option maxHeartbeats 1600000 in
theorem same_true (v1 v2 : Value) (xs : List Nat) (w : World) (h1 : HoldsI w v1 xs) (h2 : HoldsI w v2 xs) (hl : xs.length ≤ 1000) :
    Calls Try.prog 26 #[v1, v2] w fun e w' => e = .returned (.bool true) ∧ Below w.heap.size w w' := by
  obtain ⟨a1, c1, rfl, k1⟩ := h1
  obtain ⟨a2, c2, rfl, k2⟩ := h2
  have K1 := Lib.hid k1
  have K2 := Lib.hid k2
  clear k1 k2
  generalize hn : xs.length = n at *
  have Hn := Lib.hid hn
  clear hn
  go_enter Try.func26, Try.ntmps26
  go_wp2
  go_loopg [5] n (fun g i wr => ∃ k : Nat, k ≤ n ∧ g = n - k ∧ i = .int .i64 k ∧ ∃ q, wr = w.drewN q)
  case atStart => exact ⟨0, by omega, rfl, rfl, 0, rfl⟩
  case round =>
    obtain ⟨k, hk, hg, rfl, q, rfl⟩ := hrel
    have Hg := Lib.hid hg
    clear hg
    by_cases hkn : k < n
    · obtain ⟨g1, o1, rfl, l1, d1⟩ := K1.out.resolve_left (fun h => by rw [← Hn.out, h] at hkn; exact absurd hkn (by simp))
      obtain ⟨g2, o2, rfl, l2, d2⟩ := K2.out.resolve_left (fun h => by rw [← Hn.out, h] at hkn; exact absurd hkn (by simp))
      have e1 := d1 k hkn
      have e2 := d2 k hkn
      simp only [iv] at e1 e2
      have b1 : (0 : Int) ≤ (k : Int) := by omega
      have b2 : (k : Int) < (n : Int) := by omega
      clear d1 d2
      generalize xs.getD k 0 = x at *
      go_wp2
      go_quiet (fail)
      go_wp2
      go_roundg (n - (k + 1))
      case measure => have := Hg.out; omega
      case rel => exact ⟨k + 1, by omega, rfl, by go_num, _, rfl⟩
    · go_wp2
      go_ret
      exact ⟨rfl, below_drewN (Below.refl _ _) _⟩

theorem dist_sane : Dist (phys 0#64 0#64 769#64) (phys 0#64 0#64 769#64 &&& 256#64) 1 0 1 := (distB_iff _ _ _ _ _).1 (by decide +kernel)
theorem path_sane : pathL (phys 0#64 0#64 769#64) (phys 0#64 0#64 769#64 &&& 256#64) 1 1 0 = [0, 8, 9] := by decide +kernel
theorem holds_lit (w : World) : HoldsI (w.alloc (.cells #[.int .i64 0, .int .i64 8, .int .i64 9] 3)) (.slice (some ⟨w.heap.size, 0, none⟩) 3 3) [0, 8, 9] := by
  refine ⟨_, 3, rfl, .inr ⟨w.heap.size, 0, rfl, by simp, fun j hj => ?_⟩⟩
  replace hj : j < 3 := hj
  rw [cell_of_row _ _ _ _ _ _ (heap_alloc_new w _)]
  match j, hj with
  | 0, _ => rfl | 1, _ => rfl | 2, _ => rfl

set_option maxHeartbeats 1600000 in
theorem sane_any (w : World) : Calls Try.prog 23 #[] w fun e w' => e = .returned (.bool true) ∧ Below w.heap.size w w' := by
  have q1 : (B8 (colB 0#64 0#64 256#64 769#64 0) == 3) = true := by decide +kernel
  have q2 : (U (ghostB 0#64 0#64 256#64 769#64) == 2) = true := by decide +kernel
  have q3 : (U (ghostB 0#64 0#64 0#64 769#64) == 0) = true := by decide +kernel
  have q4 : safeB 0#64 0#64 256#64 = false := by decide +kernel
  have q5 : safeB 0#64 0#64 0#64 = true := by decide +kernel
  have q6 : (lev (phys 0#64 0#64 769#64) (phys 0#64 0#64 769#64 &&& 256#64) 1 7).getLsbD 2 = false := by decide +kernel
  go_enter Try.func23, Try.ntmps23
  go_wp2_with fail
  refine (column_in 0#64 0#64 256#64 769#64 0 (by omega) _).mono ?_
  rintro e w1 ⟨rfl, hb1⟩
  obtain ⟨k0, k1, k2, k3, kb⟩ := keep3 hb1
  have Hkb := Lib.hid kb
  clear hb1 kb
  go_wp2_with fail
  refine (path_in 0#64 0#64 256#64 769#64 0 1 1 (by omega) dist_sane _).mono ?_
  rintro e w2 ⟨v, rfl, ho, hb2⟩
  rw [path_sane] at ho
  have HV := Lib.hid (HoldsI.of_owns ho)
  have hk2 := keep3' hb2 ⟨k0, k1, k2, k3⟩
  have Hb2 := Lib.hid (Hkb.out.trans (hb2.mono Hkb.out.size))
  clear ho hb2 k0 k1 k2 k3 Hkb
  obtain ⟨k0, k1, k2, k3⟩ := hk2
  go_wp2_with fail
  refine (path_far 0#64 0#64 256#64 769#64 2 1 (by omega) (by omega) q6 _).mono ?_
  rintro e w3 ⟨rfl, hb3⟩
  have hk3 := keep3' hb3 ⟨k0, k1, k2, k3⟩
  have HV3 := Lib.hid (HV.out.below hb3 (Nat.le_refl _))
  have Hb3 := Lib.hid (Hb2.out.trans (hb3.mono Hb2.out.size))
  clear hb3 k0 k1 k2 k3 Hb2 HV
  obtain ⟨k0, k1, k2, k3⟩ := hk3
  go_wp2_with fail
  refine (ghosts_any 0#64 0#64 256#64 769#64 _).mono ?_
  rintro e w4 ⟨rfl, hb4⟩
  have hk4 := keep3' hb4 ⟨k0, k1, k2, k3⟩
  have HV4 := Lib.hid (HV3.out.below hb4 (Nat.le_refl _))
  have Hb4 := Lib.hid (Hb3.out.trans (hb4.mono Hb3.out.size))
  clear hb4 k0 k1 k2 k3 Hb3 HV3
  obtain ⟨k0, k1, k2, k3⟩ := hk4
  go_wp2_with fail
  refine (ghosts_any 0#64 0#64 0#64 769#64 _).mono ?_
  rintro e w5 ⟨rfl, hb5⟩
  have hk5 := keep3' hb5 ⟨k0, k1, k2, k3⟩
  have HV5 := Lib.hid (HV4.out.below hb5 (Nat.le_refl _))
  have Hb5 := Lib.hid (Hb4.out.trans (hb5.mono Hb4.out.size))
  clear hb5 k0 k1 k2 k3 Hb4 HV4
  obtain ⟨k0, k1, k2, k3⟩ := hk5
  go_wp2_with fail
  refine (same_true _ _ [0, 8, 9] _ (HV5.out.below (Below.alloc (Below.refl _ _) (Nat.le_refl _) _) (Nat.le_refl _)) (holds_lit w5) (by simp)).mono ?_
  rintro e w6 ⟨rfl, hb6⟩
  have hb6' : Below w5.heap.size w5 w6 := ((Below.refl _ w5).alloc (Nat.le_refl _) _).trans (hb6.mono (by simp))
  have hk6 := keep3' hb6' ⟨k0, k1, k2, k3⟩
  have Hb6 := Lib.hid (Hb5.out.trans (hb6'.mono Hb5.out.size))
  clear hb6 hb6' k0 k1 k2 k3 Hb5 HV5
  obtain ⟨k0, k1, k2, k3⟩ := hk6
  go_wp2_with fail
  refine (safe_any 0#64 0#64 256#64 _).mono ?_
  rintro e w7 ⟨rfl, hb7⟩
  rw [q4]
  have Hb7 := Lib.hid (Hb6.out.trans (hb7.mono Hb6.out.size))
  clear hb7 k0 k1 k2 k3 Hb6
  go_wp2_with fail
  refine (safe_any 0#64 0#64 0#64 _).mono ?_
  rintro e w8 ⟨rfl, hb8⟩
  rw [q5]
  have Hb8 := Lib.hid (Hb7.out.trans (hb8.mono Hb7.out.size))
  clear hb8 Hb7
  go_wp2_with fail
  go_ret
  exact ⟨rfl, Hb8.out⟩
end Go.Proofs.Ytpboblanjngeeaa
