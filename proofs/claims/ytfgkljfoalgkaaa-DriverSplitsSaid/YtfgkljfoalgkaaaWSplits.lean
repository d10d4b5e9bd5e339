/-
  The walk of the law DriverSplits: for all arguments it hands back true, and nothing that was there turns.
-/
import Derived.Test.YtfgkljfoalgkaaaWRuns
import Derived.Deep.RegionHeld3
import Derived.Test.YtfgkljfoalgkaaaApp
namespace Go.Proofs.Ytfgkljfoalgkaaa
open Go.RowKit Go.Deep

/-- A run in two pieces. -/
theorem run_split (n : Nat) (C : Nat → Coil) (D : Nat → Drive) (L : Nat → OL) (k : Nat) : ∀ j, run n C D L (k + j) = run n C (run n C D L k) (fun i => L (k + i)) j
  | 0 => rfl
  | j + 1 => by
    show nextAll C (orders n C (run n C D L (k + j)) (L (k + j)).os (L (k + j)).n) = nextAll C (orders n C (run n C (run n C D L k) (fun i => L (k + i)) j) (L (k + j)).os (L (k + j)).n)
    rw [run_split n C D L k j]
theorem setAt_split (n : Nat) (C : Nat → Coil) (D : Nat → Drive) (L : Nat → OL) (k j : Nat) : setAt n C D L (k + j) = setAt n C (run n C D L k) (fun i => L (k + i)) j := by
  unfold setAt
  rw [run_split n C D L k j]
theorem HoldsL.take {w : World} {a : Option Addr} {n c k c' : Nat} {L : Nat → OL} (h : HoldsL w (.slice a n c) n L) (hk : k ≤ n) : HoldsL w (.slice a k c') k L := by
  obtain ⟨⟨a', cap, hv, ho⟩, h2⟩ := h
  injection hv with e1 e2 e3
  subst e1 e3
  refine ⟨⟨_, _, rfl, ?_⟩, fun j hj => h2 j (by omega)⟩
  rcases ho with h0 | ⟨g, off, e, hl, hc⟩
  · exact .inl (by omega)
  · exact .inr ⟨g, off, e, hl, fun j hj => hc j (by omega)⟩
theorem HoldsL.drop {w : World} {a : Option Addr} {n c k c' : Nat} {L : Nat → OL} (h : HoldsL w (.slice a n c) n L) (hk : k ≤ n) (hc : n ≤ c) :
    HoldsL w (.slice (if c = k then a else a.map (·.add k)) (n - k) c') (n - k) (fun j => L (k + j)) := by
  obtain ⟨⟨a', cap, hv, ho⟩, h2⟩ := h
  injection hv with e1 e2 e3
  subst e1 e3
  refine ⟨⟨_, _, rfl, ?_⟩, fun j hj => h2 (k + j) (by omega)⟩
  by_cases e0 : n - k = 0
  · exact .inl e0
  rcases ho with h0 | ⟨g, off, e, hl, hc'⟩
  · exact .inl (by omega)
  · refine .inr ⟨g, off + k, ?_, hl, fun j hj q u hu => ?_⟩
    · rw [if_neg (by omega), e, Option.map_some, Go.WideShapes.add_plain]
    · have := hc' (k + j) (by omega) q u hu
      rwa [show off + (k + j) * 1 + q = off + k + j * 1 + q by omega] at this
set_option maxRecDepth 100000 in
set_option maxHeartbeats 6400000 in
theorem driverSplits_walk (a1 : Option Addr) (n k1 : Nat) (a2 : Option Addr) (nt k2 : Nat) (C : Nat → Coil) (L : Nat → OL) (x : Int) (w : World)
    (h1 : HoldsC w (.slice a1 n k1) n C) (h2 : HoldsL w (.slice a2 nt k2) nt L) (_ : n ≤ k1) (hnk : nt ≤ k2) (hk2 : k2 ≤ 9223372036854775807) (x0 : 0 ≤ x) (x1 : x ≤ 255) :
    Calls Try.prog 8 #[.agg #[.slice a1 n k1, .slice a2 nt k2], .int .u8 x] w fun e w' => e = .returned (.bool true) ∧ Below w.heap.size w w' := by
  have hal := (Below.refl w.heap.size w).alloc (Nat.le_refl _) (.cells #[.slice a1 n k1, .slice a2 nt k2] 50)
  have hls : w.heap.size < (w.alloc (.cells #[.slice a1 n k1, .slice a2 nt k2] 50)).heap.size := by simp
  have HAL := Lib.hid hal
  have H1 := Lib.hid (h1.below hal (Nat.le_refl _))
  have H2 := Lib.hid (h2.below hal (Nat.le_refl _))
  clear h1 h2 hal
  obtain ⟨i0, hi, hz0, hz1, hz2⟩ := info_parts Try.info46
  go_enter Try.func8, Try.ntmps8
  try simp only [List.append_eq, List.cons_append, List.nil_append]
  go_wp2_with fail
  refine (begun_any _ _ n nt C L _ (by omega) H1.out H2.out).mono ?_
  rintro e w1 ⟨vs, b, rfl, hf, hb1⟩
  obtain ⟨y0, y1, hlt, hBB⟩ := keep2 hb1
  have HB1 := Lib.hid hb1
  have HF := Lib.hid hf
  clear hb1 hf
  cases b with
  | false =>
    go_wp2_with fail
    refine (dsane _).mono ?_
    rintro e w9 ⟨rfl, hb9⟩
    have HB9 := Lib.hid (hBB.trans (hb9.mono hBB.size))
    clear hb9
    go_wp2
    go_ret
    exact ⟨rfl, HB9.out⟩
  | true =>
    clear hBB
    obtain ⟨hE, hD, hnt, hln⟩ := HF.out rfl
    have hS := idle_state hE
    have hSk := run_state L hS
    by_cases hx : (nt : Int) < x
    · have hkn : nt ≤ nt := Nat.le_refl _
      have b1 : (0 : Int) ≤ (nt : Int) := by omega
      have b2 : (nt : Int) ≤ (k2 : Int) := by omega
      have HR0 := Lib.hid (fun v1 v2 v3 W => run_ok tickC v1 v2 v3 n n nt C (fun _ => idle) L W hS)
      have HR1 := Lib.hid (fun v1 v2 v3 W => run_ok tickC v1 v2 v3 n n nt C (fun _ => idle) L W hS)
      have HC1 := Lib.hid (H1.out.below HB1.out (Nat.le_refl _))
      have HL1 := Lib.hid (H2.out.below HB1.out (Nat.le_refl _))
      have HD1 := Lib.hid hD
      have HLN := Lib.hid (show ∀ i, i < nt → (L i).n ≤ 4096 from fun i hi => by have := hln i hi; omega)
      have HSS := Lib.hid hS
      have HR2 := Lib.hid (fun v1 v2 v3 W => run_ok tickC v1 v2 v3 n n 0 C (run n C (fun _ => idle) L nt) (fun i => L (nt + i)) W (hSk nt))
      have HN32 := Lib.hid (show n ≤ 100000 by have := (validE_zero hE).1; omega)
      have HSP := Lib.hid (show run n C (fun _ => idle) L nt = run n C (run n C (fun _ => idle) L nt) (fun i => L (nt + i)) 0 by rw [← run_split]; exact congrArg _ (by omega))
      have HSK := Lib.hid (hSk nt)
      have HBW := Lib.hid (HAL.out.trans (HB1.out.mono (Nat.le_of_lt hls)))
      clear H1 H2 HB1 HAL hls HF hD hE hln hS hSk
      go_wp2_with fail
      refine (HR0.out _ _ _ _ HC1.out HD1.out HL1.out (by omega) HLN.out).mono ?_
      rintro e w2 ⟨va, vb, rfl, hA, hB, hb2⟩
      obtain ⟨y0', y1', hlt'⟩ := keepB hb2 ⟨y0, y1, hlt⟩
      have HB2 := Lib.hid hb2
      have HA := Lib.hid hA
      have HBB := Lib.hid hB
      clear hb2 hA hB y0 y1 hlt HR0
      go_wp2_with fail
      have HCC2 := Lib.hid (HC1.out.below HB2.out (Nat.le_refl _))
      have HDD2 := Lib.hid (HD1.out.below HB2.out (Nat.le_refl _))
      have HLL2 := Lib.hid (HL1.out.below HB2.out (Nat.le_refl _))
      clear HD1
      have HDW := Lib.hid ((Below.refl w2.heap.size w2).drew)
      go_region_held3 (fun w' => w'.cell? ⟨w.heap.size, 0, none⟩ = some (.slice a1 n k1) ∧ w'.cell? ⟨w.heap.size, 1, none⟩ = some (.slice a2 nt k2)) (go_keep)
        (first
          | (go_at_call 24; refine (HR1.out _ _ _ _ (HCC2.out.below HDW.out (Nat.le_refl _)) (HDD2.out.below HDW.out (Nat.le_refl _)) ((HLL2.out.below HDW.out (Nat.le_refl _)).take hkn) (by omega) (fun i hi => HLN.out i (by omega))).mono ?_
             rintro e w3 ⟨vc, vd, rfl, hA3, hB3, hb3⟩
             have hb3' := HDW.out.trans hb3
             obtain ⟨y0, y1, hlt⟩ := keepB hb3' ⟨y0', y1', hlt'⟩))
      have HA3 := Lib.hid hA3
      have HB3 := Lib.hid hB3
      have HBV3 := Lib.hid (HB2.out.trans (hb3'.mono HB2.out.size))
      have HAA3 := Lib.hid (HA.out.below hb3' (Nat.le_refl _))
      have HBB3 := Lib.hid (HBB.out.below hb3' (Nat.le_refl _))
      have HCC3 := Lib.hid (HCC2.out.below hb3' (Nat.le_refl _))
      have HLL3 := Lib.hid (HLL2.out.below hb3' (Nat.le_refl _))
      clear hA3 hB3 hb3 hb3' y0' y1' hlt' HA HBB HCC2 HDD2 HLL2 HDW HR1 HB2
      have HDW := Lib.hid ((Below.refl w3.heap.size w3).drew)
      obtain ⟨a4, ha4⟩ : ∃ a4, (if k2 = nt then a2 else Option.map (fun x => x.add nt) a2) = a4 := ⟨_, rfl⟩
      have HLD := Lib.hid (show HoldsL w3.drew (.slice a4 0 (k2 - nt)) 0 (fun j => L (nt + j)) from by
        rw [← ha4]
        have h := (HLL3.out.below HDW.out (Nat.le_refl _)).drop (c' := k2 - nt) hkn hnk
        first | (rw [Nat.sub_self] at h; exact h) | exact h)
      go_wp2_with fail
      go_region_held3 (fun w' => w'.cell? ⟨w.heap.size, 0, none⟩ = some (.slice a1 n k1) ∧ w'.cell? ⟨w.heap.size, 1, none⟩ = some (.slice a2 nt k2)) (go_keep)
        (first
          | (go_at_call 24; refine (HR2.out _ _ _ _ (HCC3.out.below HDW.out (Nat.le_refl _)) (HA3.out.below HDW.out (Nat.le_refl _)) HLD.out (by omega) (fun i hi => HLN.out (nt + i) (by omega))).mono ?_
             rintro e w4 ⟨ve, vf, rfl, hA4, hB4, hb4⟩
             have hb4' := HDW.out.trans hb4
             obtain ⟨y0', y1', hlt'⟩ := keepB hb4' ⟨y0, y1, hlt⟩))
      have HBV4 := Lib.hid (HBV3.out.trans (hb4'.mono HBV3.out.size))
      have HAA4 := Lib.hid (HAA3.out.below hb4' (Nat.le_refl _))
      have HBB4 := Lib.hid (HBB3.out.below hb4' (Nat.le_refl _))
      have HQ4 := Lib.hid (HB3.out.below hb4' (Nat.le_refl _))
      have HA4 := Lib.hid hA4
      have HR4 := Lib.hid (hB4.congr (f' := fun j => setAt n C (fun _ => idle) L (nt + j)) fun j _ => (setAt_split n C (fun _ => idle) L nt j).symm)
      clear hA4 hB4 hb4 hb4' y0 y1 hlt HAA3 HBB3 HCC3 HLL3 HDW HR2 HBV3 HLD HA3 HB3 HC1 HL1
      go_wp2_with fail
      refine (sameD va ve n _ _ _ HN32.out HAA4.out HA4.out (fun i _ => congrFun HSP.out i)).mono ?_
      rintro e w5 ⟨rfl, hb5⟩
      have HB5 := Lib.hid hb5
      have HQ5 := Lib.hid (HQ4.out.below hb5 (Nat.le_refl _))
      have HR5 := Lib.hid (HR4.out.below hb5 (Nat.le_refl _))
      have HBB5 := Lib.hid (HBB4.out.below hb5 (Nat.le_refl _))
      clear hb5 HAA4 HA4 HQ4 HR4 HBB4
      go_wp2_with (at_builtin; refine wpList_unguard (by rfl) ?_; refine wpList_append_holds wc_len (by rfl) _ _ 28 rfl w5.heap.size 46 i0 _ 4 Try.underlying28 hi hz0 hz1 hz2 rfl (by decide) (.slice none 0 0) 0 [] rfl (World.ownsRow_nil _ _ _ _) vd nt _ rfl HQ5.out wc_one ?A3 ?A4 ?A5 ?A6)
      case A3 => unfold maxLen; omega
      case A4 => omega
      case A5 => first | omega | (simp; omega) | simp
      intro v6 w6 hown6 hgr6
      have h6' : Below w5.heap.size w5 w6 := (Below.refl w5.heap.size w5).grown hgr6 (Nat.le_refl _) (fun q hq => by simp [Value.ownBlock] at hq)
      have HO6 := Lib.hid (show w6.ownsRow w5.heap.size 46 1 v6 nt (flat wcells (setAt n C (fun _ => idle) L) nt) by first | exact hown6 | (have h := hown6; rw [Nat.zero_add, List.nil_append] at h; exact h))
      have HB6 := Lib.hid h6'
      have hs6 := h6'.size
      have HR6 := Lib.hid (HR5.out.below h6' (Nat.le_refl _))
      clear hown6 hgr6 h6'
      go_wp2_with (at_builtin; refine wpList_unguard (by rfl) ?_; refine wpList_append_holds wc_len (by rfl) _ _ 28 rfl w5.heap.size 46 i0 _ 4 Try.underlying28 hi hz0 hz1 hz2 rfl (by decide) v6 nt (flat wcells (setAt n C (fun _ => idle) L) nt) rfl HO6.out vf 0 _ rfl HR6.out wc_one ?B3 ?B4 ?B5 ?B6)
      case B3 => unfold maxLen; omega
      case B4 => omega
      case B5 => first | omega | (simp; omega) | simp
      intro v7 w7 hown7 hgr7
      have h7' : Below w5.heap.size w5 w7 := HB6.out.grown hgr7 HB6.out.size (fun q hq => (HO6.out.lt q hq).1)
      have HF7 := Lib.hid (show HoldsW w7 v7 nt (setAt n C (fun _ => idle) L) from by
        have h : w7.ownsRow w5.heap.size 46 1 v7 (nt + 0) (flat wcells (setAt n C (fun _ => idle) L) (nt + 0)) := by
          rw [flat_add]
          first | exact hown7 | (rw [show nt + 0 = nt by omega]; exact hown7)
        rw [show nt + 0 = nt by omega] at h
        exact Holds.of_owns wc_len h)
      have HB7 := Lib.hid h7'
      clear hown7 hgr7 h7' HO6 HR6 HB6 hs6
      go_wp2_with fail
      refine (sameW vb _ nt (setAt n C (fun _ => idle) L) (setAt n C (fun _ => idle) L) _ (by omega) (HBB5.out.below HB7.out (Nat.le_refl _)) HF7.out (fun _ _ => rfl)).mono ?_
      rintro e w8 ⟨rfl, hb8⟩
      have HB8 := Lib.hid (HB7.out.trans (hb8.mono HB7.out.size))
      clear hb8 HF7
      go_wp2_with fail
      refine (dsane _).mono ?_
      rintro e w9 ⟨rfl, hb9⟩
      have hz9 := HB5.out.trans ((HB8.out.trans (hb9.mono HB8.out.size)).mono HB5.out.size)
      have HZ9 := Lib.hid (HBW.out.trans ((HBV4.out.trans (hz9.mono HBV4.out.size)).mono HBW.out.size))
      clear hb9 hz9
      go_wp2
      go_ret
      exact ⟨rfl, HZ9.out⟩
    · obtain ⟨q, rfl⟩ : ∃ q : Nat, x = q := ⟨x.toNat, by omega⟩
      have hkn : q ≤ nt := by omega
      have b1 : (0 : Int) ≤ (q : Int) := by omega
      have b2 : (q : Int) ≤ (k2 : Int) := by omega
      have HR0 := Lib.hid (fun v1 v2 v3 W => run_ok tickC v1 v2 v3 n n nt C (fun _ => idle) L W hS)
      have HR1 := Lib.hid (fun v1 v2 v3 W => run_ok tickC v1 v2 v3 n n q C (fun _ => idle) L W hS)
      have HC1 := Lib.hid (H1.out.below HB1.out (Nat.le_refl _))
      have HL1 := Lib.hid (H2.out.below HB1.out (Nat.le_refl _))
      have HD1 := Lib.hid hD
      have HLN := Lib.hid (show ∀ i, i < nt → (L i).n ≤ 4096 from fun i hi => by have := hln i hi; omega)
      have HSS := Lib.hid hS
      have HR2 := Lib.hid (fun v1 v2 v3 W => run_ok tickC v1 v2 v3 n n (nt - q) C (run n C (fun _ => idle) L q) (fun i => L (q + i)) W (hSk q))
      have HN32 := Lib.hid (show n ≤ 100000 by have := (validE_zero hE).1; omega)
      have HSP := Lib.hid (show run n C (fun _ => idle) L nt = run n C (run n C (fun _ => idle) L q) (fun i => L (q + i)) (nt - q) by rw [← run_split]; exact congrArg _ (by omega))
      have HSK := Lib.hid (hSk q)
      have HBW := Lib.hid (HAL.out.trans (HB1.out.mono (Nat.le_of_lt hls)))
      clear H1 H2 HB1 HAL hls HF hD hE hln hS hSk
      go_wp2_with fail
      refine (HR0.out _ _ _ _ HC1.out HD1.out HL1.out (by omega) HLN.out).mono ?_
      rintro e w2 ⟨va, vb, rfl, hA, hB, hb2⟩
      obtain ⟨y0', y1', hlt'⟩ := keepB hb2 ⟨y0, y1, hlt⟩
      have HB2 := Lib.hid hb2
      have HA := Lib.hid hA
      have HBB := Lib.hid hB
      clear hb2 hA hB y0 y1 hlt HR0
      go_wp2_with fail
      have HCC2 := Lib.hid (HC1.out.below HB2.out (Nat.le_refl _))
      have HDD2 := Lib.hid (HD1.out.below HB2.out (Nat.le_refl _))
      have HLL2 := Lib.hid (HL1.out.below HB2.out (Nat.le_refl _))
      clear HD1
      have HDW := Lib.hid ((Below.refl w2.heap.size w2).drew)
      go_region_held3 (fun w' => w'.cell? ⟨w.heap.size, 0, none⟩ = some (.slice a1 n k1) ∧ w'.cell? ⟨w.heap.size, 1, none⟩ = some (.slice a2 nt k2)) (go_keep)
        (first
          | (go_at_call 24; refine (HR1.out _ _ _ _ (HCC2.out.below HDW.out (Nat.le_refl _)) (HDD2.out.below HDW.out (Nat.le_refl _)) ((HLL2.out.below HDW.out (Nat.le_refl _)).take hkn) (by omega) (fun i hi => HLN.out i (by omega))).mono ?_
             rintro e w3 ⟨vc, vd, rfl, hA3, hB3, hb3⟩
             have hb3' := HDW.out.trans hb3
             obtain ⟨y0, y1, hlt⟩ := keepB hb3' ⟨y0', y1', hlt'⟩))
      have HA3 := Lib.hid hA3
      have HB3 := Lib.hid hB3
      have HBV3 := Lib.hid (HB2.out.trans (hb3'.mono HB2.out.size))
      have HAA3 := Lib.hid (HA.out.below hb3' (Nat.le_refl _))
      have HBB3 := Lib.hid (HBB.out.below hb3' (Nat.le_refl _))
      have HCC3 := Lib.hid (HCC2.out.below hb3' (Nat.le_refl _))
      have HLL3 := Lib.hid (HLL2.out.below hb3' (Nat.le_refl _))
      clear hA3 hB3 hb3 hb3' y0' y1' hlt' HA HBB HCC2 HDD2 HLL2 HDW HR1 HB2
      have HDW := Lib.hid ((Below.refl w3.heap.size w3).drew)
      obtain ⟨a4, ha4⟩ : ∃ a4, (if k2 = q then a2 else Option.map (fun x => x.add q) a2) = a4 := ⟨_, rfl⟩
      have HLD := Lib.hid (show HoldsL w3.drew (.slice a4 (nt - q) (k2 - q)) (nt - q) (fun j => L (q + j)) from by
        rw [← ha4]
        have h := (HLL3.out.below HDW.out (Nat.le_refl _)).drop (c' := k2 - q) hkn hnk
        first | (rw [Nat.sub_self] at h; exact h) | exact h)
      go_wp2_with fail
      go_region_held3 (fun w' => w'.cell? ⟨w.heap.size, 0, none⟩ = some (.slice a1 n k1) ∧ w'.cell? ⟨w.heap.size, 1, none⟩ = some (.slice a2 nt k2)) (go_keep)
        (first
          | (go_at_call 24; refine (HR2.out _ _ _ _ (HCC3.out.below HDW.out (Nat.le_refl _)) (HA3.out.below HDW.out (Nat.le_refl _)) HLD.out (by omega) (fun i hi => HLN.out (q + i) (by omega))).mono ?_
             rintro e w4 ⟨ve, vf, rfl, hA4, hB4, hb4⟩
             have hb4' := HDW.out.trans hb4
             obtain ⟨y0', y1', hlt'⟩ := keepB hb4' ⟨y0, y1, hlt⟩))
      have HBV4 := Lib.hid (HBV3.out.trans (hb4'.mono HBV3.out.size))
      have HAA4 := Lib.hid (HAA3.out.below hb4' (Nat.le_refl _))
      have HBB4 := Lib.hid (HBB3.out.below hb4' (Nat.le_refl _))
      have HQ4 := Lib.hid (HB3.out.below hb4' (Nat.le_refl _))
      have HA4 := Lib.hid hA4
      have HR4 := Lib.hid (hB4.congr (f' := fun j => setAt n C (fun _ => idle) L (q + j)) fun j _ => (setAt_split n C (fun _ => idle) L q j).symm)
      clear hA4 hB4 hb4 hb4' y0 y1 hlt HAA3 HBB3 HCC3 HLL3 HDW HR2 HBV3 HLD HA3 HB3 HC1 HL1
      go_wp2_with fail
      refine (sameD va ve n _ _ _ HN32.out HAA4.out HA4.out (fun i _ => congrFun HSP.out i)).mono ?_
      rintro e w5 ⟨rfl, hb5⟩
      have HB5 := Lib.hid hb5
      have HQ5 := Lib.hid (HQ4.out.below hb5 (Nat.le_refl _))
      have HR5 := Lib.hid (HR4.out.below hb5 (Nat.le_refl _))
      have HBB5 := Lib.hid (HBB4.out.below hb5 (Nat.le_refl _))
      clear hb5 HAA4 HA4 HQ4 HR4 HBB4
      go_wp2_with (at_builtin; refine wpList_unguard (by rfl) ?_; refine wpList_append_holds wc_len (by rfl) _ _ 28 rfl w5.heap.size 46 i0 _ 4 Try.underlying28 hi hz0 hz1 hz2 rfl (by decide) (.slice none 0 0) 0 [] rfl (World.ownsRow_nil _ _ _ _) vd q _ rfl HQ5.out wc_one ?qA3 ?qA4 ?qA5 ?qA6)
      case qA3 => unfold maxLen; omega
      case qA4 => omega
      case qA5 => first | omega | (simp; omega) | simp
      intro v6 w6 hown6 hgr6
      have h6' : Below w5.heap.size w5 w6 := (Below.refl w5.heap.size w5).grown hgr6 (Nat.le_refl _) (fun q hq => by simp [Value.ownBlock] at hq)
      have HO6 := Lib.hid (show w6.ownsRow w5.heap.size 46 1 v6 q (flat wcells (setAt n C (fun _ => idle) L) q) by first | exact hown6 | (have h := hown6; rw [Nat.zero_add, List.nil_append] at h; exact h))
      have HB6 := Lib.hid h6'
      have hs6 := h6'.size
      have HR6 := Lib.hid (HR5.out.below h6' (Nat.le_refl _))
      clear hown6 hgr6 h6'
      go_wp2_with (at_builtin; refine wpList_unguard (by rfl) ?_; refine wpList_append_holds wc_len (by rfl) _ _ 28 rfl w5.heap.size 46 i0 _ 4 Try.underlying28 hi hz0 hz1 hz2 rfl (by decide) v6 q (flat wcells (setAt n C (fun _ => idle) L) q) rfl HO6.out vf (nt - q) _ rfl HR6.out wc_one ?qB3 ?qB4 ?qB5 ?qB6)
      case qB3 => unfold maxLen; omega
      case qB4 => omega
      case qB5 => first | omega | (simp; omega) | simp
      intro v7 w7 hown7 hgr7
      have h7' : Below w5.heap.size w5 w7 := HB6.out.grown hgr7 HB6.out.size (fun q hq => (HO6.out.lt q hq).1)
      have HF7 := Lib.hid (show HoldsW w7 v7 nt (setAt n C (fun _ => idle) L) from by
        have h : w7.ownsRow w5.heap.size 46 1 v7 (q + (nt - q)) (flat wcells (setAt n C (fun _ => idle) L) (q + (nt - q))) := by
          rw [flat_add]
          first | exact hown7 | (rw [show q + (nt - q) = nt by omega]; exact hown7)
        rw [show q + (nt - q) = nt by omega] at h
        exact Holds.of_owns wc_len h)
      have HB7 := Lib.hid h7'
      clear hown7 hgr7 h7' HO6 HR6 HB6 hs6
      go_wp2_with fail
      refine (sameW vb _ nt (setAt n C (fun _ => idle) L) (setAt n C (fun _ => idle) L) _ (by omega) (HBB5.out.below HB7.out (Nat.le_refl _)) HF7.out (fun _ _ => rfl)).mono ?_
      rintro e w8 ⟨rfl, hb8⟩
      have HB8 := Lib.hid (HB7.out.trans (hb8.mono HB7.out.size))
      clear hb8 HF7
      go_wp2_with fail
      refine (dsane _).mono ?_
      rintro e w9 ⟨rfl, hb9⟩
      have hz9 := HB5.out.trans ((HB8.out.trans (hb9.mono HB8.out.size)).mono HB5.out.size)
      have HZ9 := Lib.hid (HBW.out.trans ((HBV4.out.trans (hz9.mono HBV4.out.size)).mono HBW.out.size))
      clear hb9 hz9
      go_wp2
      go_ret
      exact ⟨rfl, HZ9.out⟩
end Go.Proofs.Ytfgkljfoalgkaaa
