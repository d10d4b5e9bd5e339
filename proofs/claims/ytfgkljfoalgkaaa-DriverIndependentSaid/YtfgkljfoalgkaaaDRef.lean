/-
  The reference of layer 23: one, IsState, New, Same (equal states): what they hand back. For coils that are valid, where said.
-/
import Derived.Test.YtfgkljfoalgkaaaRunC
import Derived.Test.YtfgkljfoalgkaaaRValid
namespace Go.Proofs.Ytfgkljfoalgkaaa
open Go.RowKit
attribute [local go_sem] Later.cell

set_option maxHeartbeats 3200000 in
theorem one_any (p on off r f u q l : Int) (h : Bool) (b1 : 0 ≤ on) (b2 : on ≤ 16) (b3 : 0 ≤ off) (b4 : off ≤ 16) (w : World) :
    Calls Try.prog 67 #[.agg #[.int .i64 p, .int .i64 on, .int .i64 off, .int .i64 r, .int .i64 f, .int .i64 u], .agg #[.int .i64 q, .int .i64 l, .bool h]] w fun e w' =>
    e = .returned (.bool (fitsB ⟨p, on, off, r, f, u⟩ ⟨q, l, h⟩)) ∧ Below w.heap.size w w' := by
  cases p0 : (q == 0) with
  | true =>
    cases a0 : (l == 0) with
    | true =>
      go_enter Try.func67, Try.ntmps67
      go_wp2
      go_ret
      exact ⟨by have h : fitsB ⟨p, on, off, r, f, u⟩ ⟨q, l, h⟩ = (!h) := (by unfold fitsB; rw [p0, a0]; rfl); rw [h]; rfl, ((Below.refl _ _).alloc (Nat.le_refl _) _).alloc (by simp) _⟩
    | false =>
      go_enter Try.func67, Try.ntmps67
      go_wp2
      go_ret
      exact ⟨by have h : fitsB ⟨p, on, off, r, f, u⟩ ⟨q, l, h⟩ = false := (by unfold fitsB; rw [p0, a0]; rfl); rw [h]; rfl, ((Below.refl _ _).alloc (Nat.le_refl _) _).alloc (by simp) _⟩
  | false =>
    cases p1 : (q == 1) with
    | true =>
      cases a1 : decide (1 ≤ l) with
      | true =>
        cases a2 : decide (l ≤ p) with
        | true =>
          cases h with
          | true =>
            cases a4 : decide (0 < on) with
            | true =>
              go_enter Try.func67, Try.ntmps67
              go_wp2
              go_ret
              exact ⟨by have h : fitsB ⟨p, on, off, r, f, u⟩ ⟨q, l, true⟩ = true := (by unfold fitsB; rw [p0, p1, a1, a2, a4]; rfl); rw [h]; rfl, ((Below.refl _ _).alloc (Nat.le_refl _) _).alloc (by simp) _⟩
            | false =>
              go_enter Try.func67, Try.ntmps67
              go_wp2
              go_ret
              exact ⟨by have h : fitsB ⟨p, on, off, r, f, u⟩ ⟨q, l, true⟩ = false := (by unfold fitsB; rw [p0, p1, a1, a2, a4]; rfl); rw [h]; rfl, ((Below.refl _ _).alloc (Nat.le_refl _) _).alloc (by simp) _⟩
          | false =>
            go_enter Try.func67, Try.ntmps67
            go_wp2
            go_ret
            exact ⟨by have h : fitsB ⟨p, on, off, r, f, u⟩ ⟨q, l, false⟩ = true := (by unfold fitsB; rw [p0, p1, a1, a2]; rfl); rw [h]; rfl, ((Below.refl _ _).alloc (Nat.le_refl _) _).alloc (by simp) _⟩
        | false =>
          go_enter Try.func67, Try.ntmps67
          go_wp2
          go_ret
          exact ⟨by have h : fitsB ⟨p, on, off, r, f, u⟩ ⟨q, l, h⟩ = false := (by unfold fitsB; rw [p0, p1, a1, a2]; rfl); rw [h]; rfl, ((Below.refl _ _).alloc (Nat.le_refl _) _).alloc (by simp) _⟩
      | false =>
        go_enter Try.func67, Try.ntmps67
        go_wp2
        go_ret
        exact ⟨by have h : fitsB ⟨p, on, off, r, f, u⟩ ⟨q, l, h⟩ = false := (by unfold fitsB; rw [p0, p1, a1]; rfl); rw [h]; rfl, ((Below.refl _ _).alloc (Nat.le_refl _) _).alloc (by simp) _⟩
    | false =>
      cases p2 : (q == 2) with
      | true =>
        cases h with
        | false =>
          go_enter Try.func67, Try.ntmps67
          go_wp2
          go_ret
          exact ⟨by have h : fitsB ⟨p, on, off, r, f, u⟩ ⟨q, l, false⟩ = false := (by unfold fitsB; rw [p0, p1, p2]; simp); rw [h]; rfl, ((Below.refl _ _).alloc (Nat.le_refl _) _).alloc (by simp) _⟩
        | true =>
          cases a5 : decide (0 < on) with
          | true =>
            cases a6 : decide (0 ≤ l) with
            | true =>
              cases a7 : decide (l < on + off) with
              | true =>
                go_enter Try.func67, Try.ntmps67
                go_wp2
                go_ret
                exact ⟨by have h : fitsB ⟨p, on, off, r, f, u⟩ ⟨q, l, true⟩ = true := (by unfold fitsB; rw [p0, p1, p2, a5, a6, a7]; rfl); rw [h]; rfl, ((Below.refl _ _).alloc (Nat.le_refl _) _).alloc (by simp) _⟩
              | false =>
                go_enter Try.func67, Try.ntmps67
                go_wp2
                go_ret
                exact ⟨by have h : fitsB ⟨p, on, off, r, f, u⟩ ⟨q, l, true⟩ = false := (by unfold fitsB; rw [p0, p1, p2, a5, a6, a7]; rfl); rw [h]; rfl, ((Below.refl _ _).alloc (Nat.le_refl _) _).alloc (by simp) _⟩
            | false =>
              go_enter Try.func67, Try.ntmps67
              go_wp2
              go_ret
              exact ⟨by have h : fitsB ⟨p, on, off, r, f, u⟩ ⟨q, l, true⟩ = false := (by unfold fitsB; rw [p0, p1, p2, a5, a6]; rfl); rw [h]; rfl, ((Below.refl _ _).alloc (Nat.le_refl _) _).alloc (by simp) _⟩
          | false =>
            go_enter Try.func67, Try.ntmps67
            go_wp2
            go_ret
            exact ⟨by have h : fitsB ⟨p, on, off, r, f, u⟩ ⟨q, l, true⟩ = false := (by unfold fitsB; rw [p0, p1, p2, a5]; rfl); rw [h]; rfl, ((Below.refl _ _).alloc (Nat.le_refl _) _).alloc (by simp) _⟩
      | false =>
        cases p3 : (q == 3) with
        | true =>
          cases a9 : decide (1 ≤ l) with
          | true =>
            cases b1 : decide (l ≤ r) with
            | true =>
              go_enter Try.func67, Try.ntmps67
              go_wp2
              go_ret
              exact ⟨by have h : fitsB ⟨p, on, off, r, f, u⟩ ⟨q, l, h⟩ = (!h) := (by unfold fitsB; rw [p0, p1, p2, p3, a9, b1]; rfl); rw [h]; rfl, ((Below.refl _ _).alloc (Nat.le_refl _) _).alloc (by simp) _⟩
            | false =>
              go_enter Try.func67, Try.ntmps67
              go_wp2
              go_ret
              exact ⟨by have h : fitsB ⟨p, on, off, r, f, u⟩ ⟨q, l, h⟩ = false := (by unfold fitsB; rw [p0, p1, p2, p3, a9, b1]; rfl); rw [h]; rfl, ((Below.refl _ _).alloc (Nat.le_refl _) _).alloc (by simp) _⟩
          | false =>
            go_enter Try.func67, Try.ntmps67
            go_wp2
            go_ret
            exact ⟨by have h : fitsB ⟨p, on, off, r, f, u⟩ ⟨q, l, h⟩ = false := (by unfold fitsB; rw [p0, p1, p2, p3, a9]; rfl); rw [h]; rfl, ((Below.refl _ _).alloc (Nat.le_refl _) _).alloc (by simp) _⟩
        | false =>
          go_enter Try.func67, Try.ntmps67
          go_wp2
          go_ret
          exact ⟨by have h : fitsB ⟨p, on, off, r, f, u⟩ ⟨q, l, h⟩ = false := (by unfold fitsB; rw [p0, p1, p2, p3]; rfl); rw [h]; rfl, ((Below.refl _ _).alloc (Nat.le_refl _) _).alloc (by simp) _⟩
theorem one_c (c : Coil) (d : Drive) (hc : goodB c = true) (w : World) :
    Calls Try.prog 67 #[.agg #[.int .i64 c.pulse, .int .i64 c.on, .int .i64 c.off, .int .i64 c.rest, .int .i64 c.fuse, .int .i64 c.cur], .agg #[.int .i64 d.phase, .int .i64 d.left, .bool d.held]] w fun e w' =>
    e = .returned (.bool (fitsB c d)) ∧ Below w.heap.size w w' := by
  have h := (goodB_iff c).1 hc
  exact one_any c.pulse c.on c.off c.rest c.fuse c.cur d.phase d.left d.held (by omega) (by omega) (by omega) (by omega) w
theorem one_v {c : Coil} {d : Drive} {v : Bool} (hv : fitsB c d = v) (hc : goodB c = true) (w : World) :
    Calls Try.prog 67 #[.agg #[.int .i64 c.pulse, .int .i64 c.on, .int .i64 c.off, .int .i64 c.rest, .int .i64 c.fuse, .int .i64 c.cur], .agg #[.int .i64 d.phase, .int .i64 d.left, .bool d.held]] w fun e w' =>
    e = .returned (.bool v) ∧ Below w.heap.size w w' := by rw [← hv]; exact one_c c d hc w
set_option maxHeartbeats 1600000 in
theorem ristate (v1 v2 : Value) (n m : Nat) (C : Nat → Coil) (D : Nat → Drive) (w : World) (h1 : HoldsC w v1 n C) (h2 : HoldsD w v2 m D) :
    Calls Try.prog 32 #[v1, v2] w fun e w' => ∃ b : Bool, e = .returned (.bool b) ∧ (b = true ↔ StateP n C m D) ∧ Below w.heap.size w w' := by
  obtain ⟨a1, cap1, rfl, _⟩ := id h1
  obtain ⟨a2, cap2, rfl, _⟩ := id h2
  have H1 := Lib.hid h1
  have H2 := Lib.hid h2
  clear h1 h2
  by_cases hE : validE n C = 0
  · have HE := Lib.hid hE
    have HG := Lib.hid (validE_zero hE)
    clear hE
    go_enter Try.func32, Try.ntmps32
    go_wp2_with fail
    refine (rvalid_any _ n C _ H1.out).mono ?_
    rintro e w1 ⟨rfl, hb1⟩
    rw [HE.out]
    have Hb1 := Lib.hid hb1
    clear hb1
    by_cases hmn : m = n
    · subst hmn
      have hm32 := HG.out.1
      go_wp2
      go_loopg [5] m (fun g i wr => ∃ k : Nat, k ≤ m ∧ g = m - k ∧ i = .int .i64 k ∧ (∀ j, j < k → fitsB (C j) (D j) = true) ∧ Below w.heap.size w wr)
      case atStart => exact ⟨0, by omega, rfl, rfl, fun j hj => absurd hj (by omega), Hb1.out⟩
      case round =>
        obtain ⟨k, hk, hg, rfl, hF, hb⟩ := hrel
        have Hg := Lib.hid hg
        have HF := Lib.hid hF
        have Hb := Lib.hid hb
        have hsz := hb.size
        clear hg hF hb
        by_cases hkm : k < m
        · obtain ⟨g1, o1, rfl, l1, hc1⟩ := H1.out.open2 hkm
          obtain ⟨g2, o2, rfl, l2, hc2⟩ := H2.out.open2 hkm
          obtain ⟨e0, e1, e2, e3, e4, e5⟩ := coil_cells (hc1 _ Hb.out) hkm
          obtain ⟨d0, d1, d2⟩ := drive_cells (hc2 _ Hb.out) hkm
          have hgood := HG.out.2 k hkm
          have b1 : (0 : Int) ≤ (k : Int) := by omega
          have b2 : (k : Int) < (m : Int) := by omega
          have b3 : decide ((k : Int) < (m : Int)) = true := by simp; omega
          have lw1 : g1 < wr.heap.size := by omega
          have lw2 : g2 < wr.heap.size := by omega
          clear hc1 hc2
          cases hf : fitsB (C k) (D k) with
          | true =>
            have Hf := Lib.hid hf
            have HC := Lib.hid (one_v hf hgood)
            clear hf hgood
            go_wp2_with fail
            refine wp_region_later (by kernel_rfl) (by kernel_rfl) ?_
            repeat (go_big_quiet_step ((go_at_call 67; exact Later.of (HC.out _))))
            refine wpQuiet_nil ?_
            rintro _ ⟨z, rfl⟩
            go_wp2
            go_roundg (m - (k + 1))
            case measure => have := Hg.out; omega
            case rel => exact ⟨k + 1, by omega, rfl, by go_num, fun j hj => by
              by_cases e : j = k
              · rw [e]; exact Hf.out
              · exact HF.out j (by omega), Hb.out.trans (z.h.mono Hb.out.size)⟩
          | false =>
            have Hf := Lib.hid hf
            have HC := Lib.hid (one_v hf hgood)
            clear hf hgood
            go_wp2_with fail
            refine wp_region_later (by kernel_rfl) (by kernel_rfl) ?_
            repeat (go_big_quiet_step ((go_at_call 67; exact Later.of (HC.out _))))
            refine wpQuiet_nil ?_
            rintro _ ⟨z, rfl⟩
            go_wp2
            go_ret
            exact ⟨false, rfl, ⟨fun h => Bool.noConfusion h, fun h => by have := h.2.2 k hkm; rw [Hf.out] at this; exact Bool.noConfusion this⟩, Hb.out.trans (z.h.mono Hb.out.size)⟩
        · have b3 : decide ((k : Int) < (m : Int)) = false := by simp; omega
          go_wp2
          go_ret
          exact ⟨true, rfl, ⟨fun _ => ⟨HE.out, rfl, fun i hi => HF.out i (by omega)⟩, fun _ => rfl⟩, Hb.out⟩
    · have t1 : ((n : Int) != (m : Int)) = true := by rw [bne_iff_ne]; omega
      go_wp2
      go_ret
      exact ⟨false, rfl, ⟨fun h => Bool.noConfusion h, fun h => absurd h.2.1 hmn⟩, Hb1.out⟩
  · obtain ⟨E, hEE⟩ : ∃ E, validE n C = E := ⟨_, rfl⟩
    have HE := Lib.hid hE
    have t1 : (E != 0) = true := by rw [bne_iff_ne, ← hEE]; exact hE
    have HEE := Lib.hid hEE
    clear hE hEE
    go_enter Try.func32, Try.ntmps32
    go_wp2_with fail
    refine (rvalid_any _ n C _ H1.out).mono ?_
    rintro e w1 ⟨rfl, hb1⟩
    rw [HEE.out]
    have Hb1 := Lib.hid hb1
    clear hb1
    go_wp2
    go_ret
    exact ⟨false, rfl, ⟨fun h => Bool.noConfusion h, fun h => absurd h.1 HE.out⟩, Hb1.out⟩
theorem ristate_yes {v1 v2 : Value} {n m : Nat} {C : Nat → Coil} {D : Nat → Drive} (hS : StateP n C m D) (w : World) (h1 : HoldsC w v1 n C) (h2 : HoldsD w v2 m D) :
    Calls Try.prog 32 #[v1, v2] w fun e w' => e = .returned (.bool true) ∧ Below w.heap.size w w' :=
  (ristate v1 v2 n m C D w h1 h2).mono fun _ _ ⟨b, he, hb, hw⟩ => ⟨by rw [he, hb.2 hS], hw⟩
theorem ristate_no {v1 v2 : Value} {n m : Nat} {C : Nat → Coil} {D : Nat → Drive} (hS : ¬ StateP n C m D) (w : World) (h1 : HoldsC w v1 n C) (h2 : HoldsD w v2 m D) :
    Calls Try.prog 32 #[v1, v2] w fun e w' => e = .returned (.bool false) ∧ Below w.heap.size w w' :=
  (ristate v1 v2 n m C D w h1 h2).mono fun _ _ ⟨b, he, hb, hw⟩ => ⟨by
    cases b with
    | false => exact he
    | true => exact absurd (hb.1 rfl) hS, hw⟩
set_option maxRecDepth 100000 in
set_option maxHeartbeats 800000 in
theorem rdnew (v : Value) (n : Nat) (C : Nat → Coil) (w : World) (hv : HoldsC w v n C) :
    Calls Try.prog 27 #[v] w fun e w' => ∃ v', e = .returned (.tuple #[v', .int .i64 (validE n C)]) ∧ HoldsD w' v' (if validE n C = 0 then n else 0) (fun _ => idle) ∧ Below w.heap.size w w' := by
  obtain ⟨a, cap, rfl, _⟩ := id hv
  have HV := Lib.hid hv
  clear hv
  obtain ⟨E, hEE⟩ : ∃ E, validE n C = E := ⟨_, rfl⟩
  rw [hEE]
  by_cases hE : E = 0
  · subst hE
    have hn32 := (validE_zero hEE).1
    have HEE := Lib.hid hEE
    clear hEE
    obtain ⟨i0, hi, hz0, hz1, hz2⟩ := info_parts Try.info34
    go_enter Try.func27, Try.ntmps27
    go_wp2_with fail
    refine (rvalid_any _ n C _ HV.out).mono ?_
    rintro e w1 ⟨rfl, hb1⟩
    rw [HEE.out]
    have Hb1 := Lib.hid hb1
    have hsz := hb1.size
    clear hb1
    go_wp2_with (refine wpList_make_rows _ rfl _ _ 27 rfl 34 i0 _ 3 Try.underlying27 hi hz0 hz1 .i64 .i64 n rfl rfl (by rw [hz2]; omega) (by omega) ?_)
    have HR := Lib.hid (made_row w1 n)
    have HB := Lib.hid (show Below w.heap.size w (w1.alloc (.cells (madeCells #[.int .i64 0, .int .i64 0, .bool false] (n * 3)) 34)) from Hb1.out.alloc hsz _)
    generalize w1.alloc (.cells (madeCells #[.int .i64 0, .int .i64 0, .bool false] (n * 3)) 34) = w2 at *
    go_wp2
    go_ret2
    exact ⟨_, rfl, rowD.holds HR.out, HB.out⟩
  · have t1 : (E != 0) = true := by rw [bne_iff_ne]; exact hE
    have HEE := Lib.hid hEE
    rw [if_neg hE]
    clear hE hEE
    go_enter Try.func27, Try.ntmps27
    go_wp2_with fail
    refine (rvalid_any _ n C _ HV.out).mono ?_
    rintro e w1 ⟨rfl, hb1⟩
    rw [HEE.out]
    have Hb1 := Lib.hid hb1
    clear hb1
    go_wp2
    go_ret2
    exact ⟨_, rfl, Holds.nil _ _ _ _, Hb1.out⟩
set_option maxHeartbeats 1600000 in
theorem sameD (v1 v2 : Value) (n : Nat) (S S' : Nat → Drive) (w : World) (hn : n ≤ 100000) (h1 : HoldsD w v1 n S) (h2 : HoldsD w v2 n S') (he : ∀ i, i < n → S i = S' i) :
    Calls Try.prog 30 #[v1, v2] w fun e w' => e = .returned (.bool true) ∧ Below w.heap.size w w' := by
  have h2 := h2.congr fun i hi => (he i hi).symm
  obtain ⟨a1, cap1, rfl, _⟩ := id h1
  obtain ⟨a2, cap2, rfl, _⟩ := id h2
  have H1 := Lib.hid h1
  have H2 := Lib.hid h2
  clear h1 h2 he
  go_enter Try.func30, Try.ntmps30
  go_wp2
  go_loopg [5] n (fun g i wr => ∃ k : Nat, k ≤ n ∧ g = n - k ∧ i = .int .i64 k ∧ Below w.heap.size w wr)
  case atStart => exact ⟨0, by omega, rfl, rfl, Below.refl _ _⟩
  case round =>
    obtain ⟨k, hk, hg, rfl, hb⟩ := hrel
    have Hg := Lib.hid hg
    have Hb := Lib.hid hb
    have hsz := hb.size
    clear hg hb
    by_cases hkn : k < n
    · obtain ⟨g1, o1, rfl, l1, hc1⟩ := H1.out.open2 hkn
      obtain ⟨g2, o2, rfl, l2, hc2⟩ := H2.out.open2 hkn
      obtain ⟨d0, d1, d2⟩ := drive_cells (hc1 _ Hb.out) hkn
      obtain ⟨e0, e1, e2⟩ := drive_cells (hc2 _ Hb.out) hkn
      have b1 : (0 : Int) ≤ (k : Int) := by omega
      have b2 : (k : Int) < (n : Int) := by omega
      have b3 : decide ((k : Int) < (n : Int)) = true := by simp; omega
      clear hc1 hc2
      go_wp2_with fail
      go_quiet (fail)
      go_wp2
      go_roundg (n - (k + 1))
      case measure => have := Hg.out; omega
      case rel => exact ⟨k + 1, by omega, rfl, by go_num, below_drewN Hb.out _⟩
    · have b3 : decide ((k : Int) < (n : Int)) = false := by simp; omega
      go_wp2
      go_ret
      exact ⟨rfl, Hb.out⟩
end Go.Proofs.Ytfgkljfoalgkaaa
