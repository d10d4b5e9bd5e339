/-
  slices.ContainsFunc over lists of orders: whether one is too long; Apply as one contract; New; SameSets. For every list, unless said.
-/
import Derived.Test.YtfgkljfoalgkaaaRData
namespace Go.Proofs.Ytfgkljfoalgkaaa
open Go.RowKit

theorem long61 (a : Option Addr) (n cap : Nat) (w : World) : Calls Try.prog 61 #[.slice a n cap] w fun e w' => e = .returned (.bool (decide (4096 < (n : Int)))) ∧ Below w.heap.size w w' := by
  go_enter Try.func61, Try.ntmps61
  go_wp2
  go_ret
  exact ⟨rfl, Below.refl _ _⟩
set_option maxHeartbeats 1600000 in
theorem indexL (v : Value) (nt : Nat) (L : Nat → OL) (w : World) (hn : nt ≤ 100000) (hv : HoldsL w v nt L) :
    Calls Try.prog 73 #[v, .func (.func 61) #[] #[]] w fun e w' => ∃ k : Int, e = .returned (.int .i64 k) ∧ ((k = -1 ∧ ∀ i, i < nt → (L i).n ≤ 4096) ∨ (0 ≤ k ∧ ∃ i, i < nt ∧ 4096 < (L i).n)) ∧ Below w.heap.size w w' := by
  obtain ⟨a, cap, rfl, _⟩ := id hv.1
  have HV := Lib.hid hv.1
  clear hv
  go_enter Try.func73, Try.ntmps73
  go_wp2
  go_loopg [8] nt (fun g i wr => ∃ k : Nat, k ≤ nt ∧ g = nt - k ∧ i = .int .i64 k ∧ (∀ j, j < k → (L j).n ≤ 4096) ∧ Below w.heap.size w wr)
  case atStart => exact ⟨0, by omega, rfl, rfl, fun j hj => absurd hj (by omega), Below.refl _ _⟩
  case round =>
    obtain ⟨k, hk, hg, rfl, hG, hb⟩ := hrel
    have Hg := Lib.hid hg
    have HG := Lib.hid hG
    have Hb := Lib.hid hb
    clear hg hG hb
    by_cases hkn : k < nt
    · obtain ⟨g1, o1, rfl, l1, hc⟩ := HV.out.open2 hkn
      have e0 := list_cell (hc _ Hb.out) hkn
      have b1 : (0 : Int) ≤ (k : Int) := by omega
      have b2 : (k : Int) < (nt : Int) := by omega
      have b3 : decide ((k : Int) < (nt : Int)) = true := by simp; omega
      clear hc
      by_cases hl : 4096 < (L k).n
      · have t1 : decide (4096 < ((L k).n : Int)) = true := by simp; omega
        have HL := Lib.hid hl
        clear hl
        go_wp2_with fail
        refine (long61 _ _ _ _).mono ?_
        rintro e w2 ⟨rfl, hb2⟩
        rw [t1]
        have Hb2 := Lib.hid hb2
        clear hb2
        go_wp2
        go_ret
        exact ⟨k, rfl, .inr ⟨by omega, k, hkn, HL.out⟩, Hb.out.trans (Hb2.out.mono Hb.out.size)⟩
      · have t1 : decide (4096 < ((L k).n : Int)) = false := by simp; omega
        have HL := Lib.hid hl
        clear hl
        go_wp2_with fail
        refine (long61 _ _ _ _).mono ?_
        rintro e w2 ⟨rfl, hb2⟩
        rw [t1]
        have Hb2 := Lib.hid hb2
        clear hb2
        go_wp2
        go_roundg (nt - (k + 1))
        case measure => have := Hg.out; omega
        case rel => exact ⟨k + 1, by omega, rfl, by go_num, fun j hj => by
          by_cases e : j = k
          · rw [e]; have := HL.out; omega
          · exact HG.out j (by omega), Hb.out.trans (Hb2.out.mono Hb.out.size)⟩
    · have b3 : decide ((k : Int) < (nt : Int)) = false := by simp; omega
      go_wp2
      go_ret
      exact ⟨-1, rfl, .inl ⟨rfl, fun j hj => HG.out j (by omega)⟩, Hb.out⟩
set_option maxHeartbeats 800000 in
theorem containsL (v : Value) (nt : Nat) (L : Nat → OL) (w : World) (hn : nt ≤ 100000) (hv : HoldsL w v nt L) :
    Calls Try.prog 60 #[v, .func (.func 61) #[] #[]] w fun e w' => ∃ b : Bool, e = .returned (.bool b) ∧ (b = false ↔ ∀ i, i < nt → (L i).n ≤ 4096) ∧ Below w.heap.size w w' := by
  obtain ⟨a, cap, rfl, _⟩ := id hv.1
  have HV := Lib.hid hv
  clear hv
  go_enter Try.func60, Try.ntmps60
  go_wp2_with fail
  refine (indexL _ nt L _ hn HV.out).mono ?_
  rintro e w1 ⟨k, rfl, hk, hb1⟩
  have Hk := Lib.hid hk
  have Hb1 := Lib.hid hb1
  clear hk hb1
  go_wp2
  go_ret
  refine ⟨_, rfl, ?_, Hb1.out⟩
  rcases Hk.out with ⟨rfl, h⟩ | ⟨h0, i, hi, h⟩
  · exact ⟨fun _ => h, fun _ => rfl⟩
  · refine ⟨fun hd => ?_, fun hd => ?_⟩
    · rw [decide_eq_true h0] at hd; exact Bool.noConfusion hd
    · have := hd i hi; omega
set_option maxRecDepth 100000 in
set_option maxHeartbeats 800000 in
theorem dnew (v : Value) (n : Nat) (C : Nat → Coil) (w : World) (hv : HoldsC w v n C) :
    Calls Try.prog 26 #[v] w fun e w' => ∃ v', e = .returned (.tuple #[v', .int .i64 (validE n C)]) ∧ HoldsD w' v' (if validE n C = 0 then n else 0) (fun _ => idle) ∧ Below w.heap.size w w' := by
  obtain ⟨a, cap, rfl, _⟩ := id hv
  have HV := Lib.hid hv
  clear hv
  obtain ⟨E, hEE⟩ : ∃ E, validE n C = E := ⟨_, rfl⟩
  rw [hEE]
  by_cases hE : E = 0
  · subst hE
    have hn32 := (validE_zero hEE).1
    have HEE := Lib.hid hEE
    clear hEE
    obtain ⟨i0, hi, hz0, hz1, hz2⟩ := info_parts Try.info34
    go_enter Try.func26, Try.ntmps26
    go_wp2_with fail
    refine (valid_any _ n C _ HV.out).mono ?_
    rintro e w1 ⟨rfl, hb1⟩
    rw [HEE.out]
    have Hb1 := Lib.hid hb1
    have hsz := hb1.size
    clear hb1
    go_wp2_with (refine wpList_make_rows _ rfl _ _ 27 rfl 34 i0 _ 3 Try.underlying27 hi hz0 hz1 .i64 .i64 n rfl rfl (by rw [hz2]; omega) (by omega) ?_)
    have HR := Lib.hid (made_row w1 n)
    have HB := Lib.hid (show Below w.heap.size w (w1.alloc (.cells (madeCells #[.int .i64 0, .int .i64 0, .bool false] (n * 3)) 34)) from Hb1.out.alloc hsz _)
    generalize w1.alloc (.cells (madeCells #[.int .i64 0, .int .i64 0, .bool false] (n * 3)) 34) = w2 at *
    go_wp2
    go_ret2
    exact ⟨_, rfl, rowD.holds HR.out, HB.out⟩
  · have t1 : (E != 0) = true := by rw [bne_iff_ne]; exact hE
    have HEE := Lib.hid hEE
    rw [if_neg hE]
    clear hE hEE
    go_enter Try.func26, Try.ntmps26
    go_wp2_with fail
    refine (valid_any _ n C _ HV.out).mono ?_
    rintro e w1 ⟨rfl, hb1⟩
    rw [HEE.out]
    have Hb1 := Lib.hid hb1
    clear hb1
    go_wp2
    go_ret2
    exact ⟨_, rfl, Holds.nil _ _ _ _, Hb1.out⟩
set_option maxHeartbeats 1600000 in
theorem sameW (v1 v2 : Value) (n : Nat) (S S' : Nat → BitVec 32) (w : World) (hn : n ≤ 100000) (h1 : HoldsW w v1 n S) (h2 : HoldsW w v2 n S') (he : ∀ i, i < n → S i = S' i) :
    Calls Try.prog 39 #[v1, v2] w fun e w' => e = .returned (.bool true) ∧ Below w.heap.size w w' := by
  have h2 := h2.congr fun i hi => (he i hi).symm
  obtain ⟨a1, cap1, rfl, _⟩ := id h1
  obtain ⟨a2, cap2, rfl, _⟩ := id h2
  have H1 := Lib.hid h1
  have H2 := Lib.hid h2
  clear h1 h2 he
  go_enter Try.func39, Try.ntmps39
  go_wp2
  go_loopg [5] n (fun g i wr => ∃ k : Nat, k ≤ n ∧ g = n - k ∧ i = .int .i64 k ∧ Below w.heap.size w wr)
  case atStart => exact ⟨0, by omega, rfl, rfl, Below.refl _ _⟩
  case round =>
    obtain ⟨k, hk, hg, rfl, hb⟩ := hrel
    have Hg := Lib.hid hg
    have Hb := Lib.hid hb
    clear hg hb
    by_cases hkn : k < n
    · obtain ⟨g1, o1, rfl, l1, hc1⟩ := H1.out.open2 hkn
      obtain ⟨g2, o2, rfl, l2, hc2⟩ := H2.out.open2 hkn
      have d0 := hc1 _ Hb.out k hkn 0 _ rfl
      have e0 := hc2 _ Hb.out k hkn 0 _ rfl
      rw [Nat.mul_one, Nat.add_zero] at d0 e0
      have b1 : (0 : Int) ≤ (k : Int) := by omega
      have b2 : (k : Int) < (n : Int) := by omega
      have b3 : decide ((k : Int) < (n : Int)) = true := by simp; omega
      clear hc1 hc2
      go_wp2_with fail
      go_quiet (fail)
      go_wp2
      go_roundg (n - (k + 1))
      case measure => have := Hg.out; omega
      case rel => exact ⟨k + 1, by omega, rfl, by go_num, below_drewN Hb.out _⟩
    · have b3 : decide ((k : Int) < (n : Int)) = false := by simp; omega
      go_wp2
      go_ret
      exact ⟨rfl, Hb.out⟩
end Go.Proofs.Ytfgkljfoalgkaaa
