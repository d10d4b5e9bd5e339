/-
  The walk of the law DriverRuns: for all arguments it hands back true, and nothing that was there turns.
-/
import Derived.Test.YtfgkljfoalgkaaaRRun
import Derived.Test.YtfgkljfoalgkaaaDSane2
import Derived.Test.YtfgkljfoalgkaaaBegun
namespace Go.Proofs.Ytfgkljfoalgkaaa
open Go.RowKit

theorem keepB {w w1 : World} {a b : Value} {g : Nat} (hb : Below w.heap.size w w1) (h : w.cell? ⟨g, 0, none⟩ = some a ∧ w.cell? ⟨g, 1, none⟩ = some b ∧ g < w.heap.size) :
    w1.cell? ⟨g, 0, none⟩ = some a ∧ w1.cell? ⟨g, 1, none⟩ = some b ∧ g < w1.heap.size := by
  obtain ⟨h0, h1, h3⟩ := h
  exact ⟨by rw [hb.cell (p := ⟨g, 0, none⟩) h3]; exact h0, by rw [hb.cell (p := ⟨g, 1, none⟩) h3]; exact h1, Nat.lt_of_lt_of_le h3 hb.size⟩
/-- What a run of the program and one of the reference say of the same drives, as one contract. -/
def RunSays (f : FuncId) (n m nt : Nat) (C : Nat → Coil) (D : Nat → Drive) (L : Nat → OL) (E : Int) (mm nn : Nat) : Prop :=
  ∀ (v1 v2 v3 : Value) (w : World), HoldsC w v1 n C → HoldsD w v2 m D → HoldsL w v3 nt L →
    Calls Try.prog f #[v1, v2, v3] w fun e w' => ∃ v' vs, e = .returned (.tuple #[v', vs, .int .i64 E]) ∧ HoldsD w' v' mm (run n C D L nt) ∧ HoldsW w' vs nn (setAt n C D L) ∧ Below w.heap.size w w'
theorem run_pair (n m nt : Nat) (C : Nat → Coil) (D : Nat → Drive) (L : Nat → OL) (hnt : nt ≤ 4096) (hln : ∀ i, i < nt → (L i).n ≤ 4096) :
    ∃ (E : Int) (mm nn : Nat), mm ≤ 100000 ∧ nn ≤ 100000 ∧ RunSays 24 n m nt C D L E mm nn ∧ RunSays 38 n m nt C D L E mm nn := by
  by_cases hS : StateP n C m D
  · have h1 := (validE_zero hS.1).1
    have h2 := hS.2.1
    exact ⟨0, m, nt, by omega, by omega, fun v1 v2 v3 w h1 h2 h3 => run_ok tickC v1 v2 v3 n m nt C D L w hS h1 h2 h3 hnt hln, fun v1 v2 v3 w h1 h2 h3 => rrun_ok v1 v2 v3 n m nt C D L w hS h1 h2 h3 hnt hln⟩
  · refine ⟨1, 0, 0, by omega, by omega, fun v1 v2 v3 w h1 h2 h3 => ?_, fun v1 v2 v3 w h1 h2 h3 => ?_⟩
    · exact (run_arg v1 v2 v3 n m C D w hS h1 h2).mono fun e w' ⟨he, hb⟩ => ⟨_, _, he, Holds.nil _ _ _ _, Holds.nil _ _ _ _, hb⟩
    · exact (rrun_arg v1 v2 v3 n m C D w hS h1 h2).mono fun e w' ⟨he, hb⟩ => ⟨_, _, he, Holds.nil _ _ _ _, Holds.nil _ _ _ _, hb⟩
set_option maxRecDepth 100000 in
set_option maxHeartbeats 6400000 in
theorem driverRuns_walk (a1 : Option Addr) (n k1 : Nat) (a2 : Option Addr) (nt k2 : Nat) (C : Nat → Coil) (L : Nat → OL) (vs : Value) (m : Nat) (D : Nat → Drive) (w : World)
    (h1 : HoldsC w (.slice a1 n k1) n C) (h2 : HoldsL w (.slice a2 nt k2) nt L) (_ : n ≤ k1) (hnk : nt ≤ k2) (hk2 : k2 ≤ 9223372036854775807) (h3 : HoldsD w vs m D) :
    Calls Try.prog 7 #[.agg #[.slice a1 n k1, .slice a2 nt k2], vs] w fun e w' => e = .returned (.bool true) ∧ Below w.heap.size w w' := by
  obtain ⟨a3, k3, rfl, _⟩ := id h3
  have hal := (Below.refl w.heap.size w).alloc (Nat.le_refl _) (.cells #[.slice a1 n k1, .slice a2 nt k2] 50)
  have hls : w.heap.size < (w.alloc (.cells #[.slice a1 n k1, .slice a2 nt k2] 50)).heap.size := by simp
  have HAL := Lib.hid hal
  have H1 := Lib.hid (h1.below hal (Nat.le_refl _))
  have H2 := Lib.hid (h2.below hal (Nat.le_refl _))
  have H3 := Lib.hid (h3.below hal (Nat.le_refl _))
  have HNT := Lib.hid (show nt ≤ 9223372036854775807 by omega)
  clear h1 h2 h3 hal hnk hk2
  by_cases hn : 40 < n
  · have t1 : decide (40 < (n : Int)) = true := by simp; omega
    go_enter Try.func7, Try.ntmps7
    try simp only [List.append_eq, List.cons_append, List.nil_append]
    go_wp2_with fail
    refine (dsane _).mono ?_
    rintro e w9 ⟨rfl, hb9⟩
    have HB9 := Lib.hid hb9
    clear hb9
    go_wp2
    go_ret
    exact ⟨rfl, HAL.out.trans (HB9.out.mono (Nat.le_of_lt hls))⟩
  have t1 : decide (40 < (n : Int)) = false := by simp; omega
  by_cases hm : 40 < m
  · have t2 : decide (40 < (m : Int)) = true := by simp; omega
    go_enter Try.func7, Try.ntmps7
    try simp only [List.append_eq, List.cons_append, List.nil_append]
    go_wp2_with fail
    refine (dsane _).mono ?_
    rintro e w9 ⟨rfl, hb9⟩
    have HB9 := Lib.hid hb9
    clear hb9
    go_wp2
    go_ret
    exact ⟨rfl, HAL.out.trans (HB9.out.mono (Nat.le_of_lt hls))⟩
  have t2 : decide (40 < (m : Int)) = false := by simp; omega
  go_enter Try.func7, Try.ntmps7
  try simp only [List.append_eq, List.cons_append, List.nil_append]
  go_wp2_with fail
  refine (few_any _ nt L _ HNT.out H2.out).mono ?_
  rintro e w1 ⟨b, rfl, hf, hb1⟩
  obtain ⟨y0, y1, hlt, hBB⟩ := keep2 hb1
  have HB1 := Lib.hid hb1
  have HF := Lib.hid hf
  clear hb1 hf
  cases b with
  | false =>
    go_wp2_with fail
    refine (dsane _).mono ?_
    rintro e w9 ⟨rfl, hb9⟩
    have HB9 := Lib.hid (hBB.trans (hb9.mono hBB.size))
    clear hb9
    go_wp2
    go_ret
    exact ⟨rfl, HB9.out⟩
  | true =>
    clear hBB
    obtain ⟨hnt, hln⟩ := HF.out rfl
    obtain ⟨E1, m1, n1, hm1, hn1, hr1, hr1'⟩ := run_pair n m nt C D L (by omega) (fun i hi => by have := hln i hi; omega)
    have HP1 := Lib.hid hr1
    have HP2 := Lib.hid hr1'
    obtain ⟨E0, hE0⟩ : ∃ E, validE n C = E := ⟨_, rfl⟩
    obtain ⟨mi, hmi⟩ : ∃ mi, (if validE n C = 0 then n else 0) = mi := ⟨_, rfl⟩
    have HE0 := Lib.hid hE0
    have HMI := Lib.hid hmi
    obtain ⟨E2, m2, n2, hm2, hn2, hr2, hr2'⟩ := run_pair n mi nt C (fun _ => idle) L (by omega) (fun i hi => by have := hln i hi; omega)
    have HP3 := Lib.hid hr2
    have HP4 := Lib.hid hr2'
    clear hr1 hr1' hr2 hr2' hE0 hmi HF hnt hln HNT
    have HC1 := Lib.hid (H1.out.below HB1.out (Nat.le_refl _))
    have HL1 := Lib.hid (H2.out.below HB1.out (Nat.le_refl _))
    have HD1 := Lib.hid (H3.out.below HB1.out (Nat.le_refl _))
    have HBW := Lib.hid (HAL.out.trans (HB1.out.mono (Nat.le_of_lt hls)))
    clear H1 H2 H3 HB1 HAL hls
    go_wp2_with fail
    refine (HP1.out _ _ _ _ HC1.out HD1.out HL1.out).mono ?_
    rintro e w2 ⟨va, vb, rfl, hA, hB, hb2⟩
    obtain ⟨y0', y1', hlt'⟩ := keepB hb2 ⟨y0, y1, hlt⟩
    have HB2 := Lib.hid hb2
    have HA := Lib.hid hA
    have HBB := Lib.hid hB
    clear hb2 hA hB y0 y1 hlt HP1
    go_wp2_with fail
    refine (HP2.out _ _ _ _ (HC1.out.below HB2.out (Nat.le_refl _)) (HD1.out.below HB2.out (Nat.le_refl _)) (HL1.out.below HB2.out (Nat.le_refl _))).mono ?_
    rintro e w3 ⟨vc, vd, rfl, hA, hB, hb3⟩
    obtain ⟨y0, y1, hlt⟩ := keepB hb3 ⟨y0', y1', hlt'⟩
    have HB3 := Lib.hid (HB2.out.trans (hb3.mono HB2.out.size))
    have HA0 := Lib.hid (HA.out.below hb3 (Nat.le_refl _))
    have HBB0 := Lib.hid (HBB.out.below hb3 (Nat.le_refl _))
    have HA' := Lib.hid hA
    have HBB' := Lib.hid hB
    clear hb3 hA hB HA HBB HB2 y0' y1' hlt' HP2
    go_wp2_with fail
    refine (rdnew _ n C _ (HC1.out.below HB3.out (Nat.le_refl _))).mono ?_
    rintro e w4 ⟨vi, rfl, hI, hb4⟩
    rw [HE0.out]
    rw [HMI.out] at hI
    obtain ⟨y0', y1', hlt'⟩ := keepB hb4 ⟨y0, y1, hlt⟩
    have HB4 := Lib.hid (HB3.out.trans (hb4.mono HB3.out.size))
    have HA1 := Lib.hid (HA0.out.below hb4 (Nat.le_refl _))
    have HBB1 := Lib.hid (HBB0.out.below hb4 (Nat.le_refl _))
    have HA'1 := Lib.hid (HA'.out.below hb4 (Nat.le_refl _))
    have HBB'1 := Lib.hid (HBB'.out.below hb4 (Nat.le_refl _))
    have HI := Lib.hid hI
    clear hb4 hI HA0 HBB0 HA' HBB' HB3 y0 y1 hlt
    go_wp2_with fail
    refine (HP3.out _ _ _ _ (HC1.out.below HB4.out (Nat.le_refl _)) HI.out (HL1.out.below HB4.out (Nat.le_refl _))).mono ?_
    rintro e w5 ⟨ve, vf, rfl, hA, hB, hb5⟩
    obtain ⟨y0, y1, hlt⟩ := keepB hb5 ⟨y0', y1', hlt'⟩
    have HB5 := Lib.hid (HB4.out.trans (hb5.mono HB4.out.size))
    have HA2 := Lib.hid (HA1.out.below hb5 (Nat.le_refl _))
    have HBB2 := Lib.hid (HBB1.out.below hb5 (Nat.le_refl _))
    have HA'2 := Lib.hid (HA'1.out.below hb5 (Nat.le_refl _))
    have HBB'2 := Lib.hid (HBB'1.out.below hb5 (Nat.le_refl _))
    have HI2 := Lib.hid (HI.out.below hb5 (Nat.le_refl _))
    have HX := Lib.hid hA
    have HY := Lib.hid hB
    clear hb5 hA hB HA1 HBB1 HA'1 HBB'1 HB4 y0' y1' hlt' HI HP3
    go_wp2_with fail
    refine (HP4.out _ _ _ _ (HC1.out.below HB5.out (Nat.le_refl _)) HI2.out (HL1.out.below HB5.out (Nat.le_refl _))).mono ?_
    rintro e w6 ⟨vg, vh, rfl, hA, hB, hb6⟩
    have HB6 := Lib.hid (HB5.out.trans (hb6.mono HB5.out.size))
    have HA3 := Lib.hid (HA2.out.below hb6 (Nat.le_refl _))
    have HBB3 := Lib.hid (HBB2.out.below hb6 (Nat.le_refl _))
    have HA'3 := Lib.hid (HA'2.out.below hb6 (Nat.le_refl _))
    have HBB'3 := Lib.hid (HBB'2.out.below hb6 (Nat.le_refl _))
    have HX3 := Lib.hid (HX.out.below hb6 (Nat.le_refl _))
    have HY3 := Lib.hid (HY.out.below hb6 (Nat.le_refl _))
    have HX'3 := Lib.hid hA
    have HY'3 := Lib.hid hB
    clear hb6 hA hB HA2 HBB2 HA'2 HBB'2 HB5 HI2 HX HY HP4 y0 y1 hlt HC1 HL1 HD1
    go_wp2_with fail
    refine (sameD va vc m1 _ _ _ hm1 HA3.out HA'3.out (fun _ _ => rfl)).mono ?_
    rintro e w7 ⟨rfl, hb7⟩
    have HB7 := Lib.hid hb7
    clear hb7 HA3 HA'3
    go_wp2_with fail
    refine (sameW vb vd n1 _ _ _ hn1 (HBB3.out.below HB7.out (Nat.le_refl _)) (HBB'3.out.below HB7.out (Nat.le_refl _)) (fun _ _ => rfl)).mono ?_
    rintro e w8 ⟨rfl, hb8⟩
    have HB8 := Lib.hid (HB7.out.trans (hb8.mono HB7.out.size))
    clear hb8 HB7 HBB3 HBB'3
    go_wp2_with fail
    refine (sameD ve vg m2 _ _ _ hm2 (HX3.out.below HB8.out (Nat.le_refl _)) (HX'3.out.below HB8.out (Nat.le_refl _)) (fun _ _ => rfl)).mono ?_
    rintro e w9 ⟨rfl, hb9⟩
    have HB9 := Lib.hid (HB8.out.trans (hb9.mono HB8.out.size))
    clear hb9 HB8 HX3 HX'3
    go_wp2_with fail
    refine (sameW vf vh n2 _ _ _ hn2 (HY3.out.below HB9.out (Nat.le_refl _)) (HY'3.out.below HB9.out (Nat.le_refl _)) (fun _ _ => rfl)).mono ?_
    rintro e w10 ⟨rfl, hb10⟩
    have HB10 := Lib.hid (HB9.out.trans (hb10.mono HB9.out.size))
    clear hb10 HB9 HY3 HY'3
    go_wp2_with fail
    refine (dsane _).mono ?_
    rintro e w11 ⟨rfl, hb11⟩
    have hbz := HB6.out.trans ((HB10.out.trans (hb11.mono HB10.out.size)).mono HB6.out.size)
    have HZ := Lib.hid (HBW.out.trans (hbz.mono HBW.out.size))
    clear hb11 hbz
    go_wp2
    go_ret
    exact ⟨rfl, HZ.out⟩
end Go.Proofs.Ytfgkljfoalgkaaa
