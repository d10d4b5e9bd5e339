/-
  The walk of the law DriverCuts: for all arguments it hands back true, and nothing that was there turns.
-/
import Derived.Test.YtfgkljfoalgkaaaCutP
import Derived.Test.YtfgkljfoalgkaaaWRuns
import Derived.Test.YtfgkljfoalgkaaaRow3
namespace Go.Proofs.Ytfgkljfoalgkaaa
open Go.RowKit Go.Deep
attribute [local go_sem] shr_min32 shl_min32 W_shr W_shr' W_shl W_shl' W_shl1 W_shl1n W_pow W_and W_or W_andNot W_and1 W_bit W_bit0

theorem w_cellC {w : World} {g off n : Nat} {E : Nat → BitVec 32} (h : ∀ j, j < n → ∀ k u, (wcells (E j))[k]? = some u → w.cell? ⟨g, off + j * 1 + k, none⟩ = some u) {j : Nat} (hj : j < n) : w.cell? ⟨g, off + j, none⟩ = some (.int .u32 (W (E j))) := by
  have := h j hj 0 _ rfl
  rwa [Nat.mul_one, Nat.add_zero] at this
theorem order_oneC (x : Order) (u : Value) (h : u ∈ Order.cells x) : u.oneCell' = true := by
  simp [Order.cells] at h
  rcases h with rfl | rfl <;> rfl
theorem HoldsO.two (x y : Order) (f : Nat → Order) (h0 : f 0 = x) (h1 : f 1 = y) (w : World) : HoldsO (w.alloc (.cells #[.int .i64 x.kind, .int .i64 x.coil, .int .i64 y.kind, .int .i64 y.coil] 43)) (.slice (some ⟨w.heap.size, 0, none⟩) 2 2) 2 f := by
  refine ⟨_, _, rfl, .inr ⟨w.heap.size, 0, rfl, by simp, fun j hj k u hu => ?_⟩⟩
  have hb := blk_alloc_new w (.cells #[.int .i64 x.kind, .int .i64 x.coil, .int .i64 y.kind, .int .i64 y.coil] 43)
  have hk : k < 2 := (List.getElem?_eq_some_iff.1 hu).1
  unfold World.cell?
  simp only [hb]
  rw [← hu]
  have hj' : j = 0 ∨ j = 1 := by omega
  have hk' : k = 0 ∨ k = 1 := by omega
  rcases hj' with rfl | rfl <;> rcases hk' with rfl | rfl <;> simp [Order.cells, h0, h1]
set_option maxRecDepth 100000 in
set_option maxHeartbeats 12800000 in
theorem driverCuts_walk (a1 : Option Addr) (n k1 : Nat) (a2 : Option Addr) (nt k2 : Nat) (C : Nat → Coil) (L : Nat → OL) (x : Int) (w : World)
    (h1 : HoldsC w (.slice a1 n k1) n C) (h2 : HoldsL w (.slice a2 nt k2) nt L) (_ : n ≤ k1) (hnk : nt ≤ k2) (hk2 : k2 ≤ 9223372036854775807) (x0 : 0 ≤ x) (x1 : x ≤ 255) :
    Calls Try.prog 13 #[.agg #[.slice a1 n k1, .slice a2 nt k2], .int .u8 x] w fun e w' => e = .returned (.bool true) ∧ Below w.heap.size w w' := by
  have hal := (Below.refl w.heap.size w).alloc (Nat.le_refl _) (.cells #[.slice a1 n k1, .slice a2 nt k2] 50)
  have hls : w.heap.size < (w.alloc (.cells #[.slice a1 n k1, .slice a2 nt k2] 50)).heap.size := by simp
  have HAL := Lib.hid hal
  have H1 := Lib.hid (h1.below hal (Nat.le_refl _))
  have H2 := Lib.hid (h2.below hal (Nat.le_refl _))
  clear h1 h2 hal
  obtain ⟨i0, hi, hz0, hz1, hz2⟩ := info_parts Try.info43
  obtain ⟨i3, hi3, hy0, hy1, hy2⟩ := info_parts Try.info23
  go_enter Try.func13, Try.ntmps13
  try simp only [List.append_eq, List.cons_append, List.nil_append]
  go_wp2_with fail
  refine (begun_any _ _ n nt C L _ (by omega) H1.out H2.out).mono ?_
  rintro e w1 ⟨vs, b, rfl, hf, hb1⟩
  obtain ⟨y0, y1, hlt, hBB⟩ := keep2 hb1
  have HB1 := Lib.hid hb1
  have HF := Lib.hid hf
  clear hb1 hf hnk hk2
  cases b with
  | false =>
    go_wp2_with fail
    refine (dsane _).mono ?_
    rintro e w9 ⟨rfl, hb9⟩
    have HB9 := Lib.hid (hBB.trans (hb9.mono hBB.size))
    clear hb9
    go_wp2
    go_ret
    exact ⟨rfl, HB9.out⟩
  | true =>
    clear hBB
    obtain ⟨hE, hD, hnt, hln⟩ := HF.out rfl
    have HC1 := Lib.hid (H1.out.below HB1.out (Nat.le_refl _))
    have HL1 := Lib.hid (H2.out.below HB1.out (Nat.le_refl _))
    have HD1 := Lib.hid hD
    have HLN := Lib.hid hln
    have HEE := Lib.hid hE
    have HBW := Lib.hid (HAL.out.trans (HB1.out.mono (Nat.le_of_lt hls)))
    have hn32 := (validE_zero hE).1
    clear H1 H2 HB1 HAL hls HF hD hE hln
    go_wp2_with fail
    refine (run_ok tickC _ _ _ n n nt C (fun _ => idle) L _ (idle_state HEE.out) HC1.out HD1.out HL1.out (by omega) (fun i hi => by have := HLN.out i hi; omega)).mono ?_
    rintro e w2 ⟨va, vb, rfl, hA, _, hb2⟩
    obtain ⟨y0', y1', hlt'⟩ := keepB hb2 ⟨y0, y1, hlt⟩
    obtain ⟨aA, kA, rfl, _⟩ := id hA
    have HSA := Lib.hid (run_state L (idle_state HEE.out) nt)
    obtain ⟨D, hDD⟩ : ∃ D, run n C (fun _ => idle) L nt = D := ⟨_, rfl⟩
    rw [hDD] at hA HSA
    have HA := Lib.hid hA
    have HB2 := Lib.hid (HBW.out.trans (hb2.mono HBW.out.size))
    have HC2 := Lib.hid (HC1.out.below hb2 (Nat.le_refl _))
    have HY2 := Lib.hid (show w2.cell? ⟨w.heap.size, 0, none⟩ = some (.slice a1 n k1) ∧ w2.cell? ⟨w.heap.size, 1, none⟩ = some (.slice a2 nt k2) ∧ w.heap.size < w2.heap.size from ⟨y0', y1', hlt'⟩)
    obtain ⟨rr, hrr⟩ : ∃ rr : Nat, (0 < n → x % (n : Int) = rr) := ⟨(x % (n : Int)).toNat, fun h => by
      have := Int.emod_nonneg x (show (n : Int) ≠ 0 by omega)
      omega⟩
    have HRR := Lib.hid hrr
    clear hb2 hA y0 y1 hlt hDD HC1 HL1 HD1 HBW hrr
    go_wp2
    clear y0' y1' hlt'
    go_loopg [10, 11, 12] n (fun gg q1 q2 i wr => ∃ (c M : Nat), c ≤ n ∧ gg = n - c ∧ i = .int .i64 c ∧ q2 = .int .i64 M ∧ M ≤ 1000 ∧ (∀ j, j < c → (C j).rest ≤ M) ∧ wr.ownsRow w2.heap.size 43 2 q1 (2 * c) (flat Order.cells (cutO rr) (2 * c)) ∧ Below w2.heap.size w2 wr)
    case atStart => exact ⟨0, 0, by omega, rfl, rfl, rfl, by omega, fun j hj => absurd hj (by omega), World.ownsRow_nil _ _ _ _, Below.refl _ _⟩
    case round =>
      obtain ⟨c, M, hcn, hgc, rfl, rfl, hM, hMM, hR, hbc⟩ := hrel
      have Hgc := Lib.hid hgc
      have HMM := Lib.hid hMM
      have HR := Lib.hid hR
      have Hbc := Lib.hid hbc
      have hsc := hbc.size
      clear hgc hMM hR hbc
      obtain ⟨y0, y1, hlt⟩ := keepB Hbc.out HY2.out
      by_cases hc : c < n
      · obtain ⟨g1, o1, rfl, l1, hc1⟩ := HC2.out.open2 hc
        have HCC := Lib.hid (fun w' (hb : Below w2.heap.size w2 w') => coil_cells (hc1 w' hb) hc)
        have hg := (goodB_iff _).1 ((validE_zero HEE.out).2 c hc)
        have hr0 := hg.2.2.2.2.2.2.2.1
        have hr1 := hg.2.2.2.2.2.2.2.2.1
        obtain ⟨R, hR0⟩ : ∃ R : Nat, (C c).rest = R := ⟨(C c).rest.toNat, by omega⟩
        have hq := HRR.out (by omega)
        have n0 : (n : Int) ≠ 0 := by omega
        have n1 : (0 : Int) < (n : Int) := by omega
        have b4 : (0 : Int) ≤ (c : Int) := by omega
        have b5 : (c : Int) < (n : Int) := by omega
        have b6 : decide ((c : Int) < (n : Int)) = true := by simp; omega
        clear hg hc1
        go_wp2_with (at_builtin; refine wpList_append_holds order_len (by rfl) _ _ 23 rfl w2.heap.size 43 i0 _ 16 Try.underlying23 hi hz0 hz1 hz2 rfl (by decide) _ (2 * c) (flat Order.cells (cutO rr) (2 * c)) rfl (HR.out.alloc _) (.slice (some ⟨wr.heap.size, 0, none⟩) 2 2) 2 (fun q => cutO rr (2 * c + q)) rfl (HoldsO.two ⟨4, c⟩ ⟨3, rr⟩ _ (cutO_even rr c) (cutO_odd rr c) wr) order_oneC (by unfold maxLen; omega) (by omega) (by first | omega | (simp; omega) | simp) ?_)
        intro v6 w6 hown6 hgr6
        have h6 : Below w2.heap.size w2 w6 := (Hbc.out.alloc hsc _).grown hgr6 (by simp; omega) (fun q hq => (HR.out.lt q hq).1)
        have HO6 := Lib.hid (show w6.ownsRow w2.heap.size 43 2 v6 (2 * (c + 1)) (flat Order.cells (cutO rr) (2 * (c + 1))) from by
          rw [show 2 * (c + 1) = 2 * c + 2 by omega, flat_add]; exact hown6)
        have HB6 := Lib.hid h6
        obtain ⟨e0, e1, e2, e3, e4, e5⟩ := HCC.out _ h6
        obtain ⟨z0, z1, zl⟩ := keepB h6 HY2.out
        rw [hR0] at e3
        clear hown6 hgr6 h6 y0 y1 hlt e0 e1 e2 e4 e5
        by_cases hMR : M < R
        · have t3 : decide ((M : Int) < (R : Int)) = true := by simp; omega
          have t4 : ((M : Int) < (R : Int)) := by omega
          go_wp2
          go_roundg (n - (c + 1))
          case measure => have := Hgc.out; omega
          case rel => exact ⟨c + 1, R, by omega, rfl, by go_num, by go_num, by omega, fun j hj => by
            by_cases e : j = c
            · rw [e, hR0]; omega
            · have := HMM.out j (by omega); omega, HO6.out, HB6.out⟩
        · have t4 : ¬ ((M : Int) < (R : Int)) := by omega
          go_wp2
          go_roundg (n - (c + 1))
          case measure => have := Hgc.out; omega
          case rel => exact ⟨c + 1, M, by omega, rfl, by go_num, by go_num, by omega, fun j hj => by
            by_cases e : j = c
            · rw [e, hR0]; omega
            · exact HMM.out j (by omega), HO6.out, HB6.out⟩
      · have b6 : decide ((c : Int) < (n : Int)) = false := by simp; omega
        rcases id HR.out.2 with ⟨rfl, h0⟩ | ⟨g, cc, cu, rfl, _, _, hnc, _⟩
        · have HOC := Lib.hid (show HoldsO wr (OL.v ⟨none, 0, 0, cutO rr⟩) 0 (cutO rr) from Holds.nil _ _ _ _)
          have HREST := Lib.hid (show ∀ i, i < n → Rested (orders n C D (cutO rr) 0 i) from fun i hi => absurd hi (by omega))
          clear h0 HR
          have HOWN := Lib.hid (show (wr.alloc (.cells #[(.slice none 0 0)] 23)).ownsRow wr.heap.size 23 1 (.slice (some ⟨wr.heap.size, 0, none⟩) 1 1) 1 [(.slice none 0 0)] from by
            have h := World.ownsRow_lit (base := wr.heap.size) (e := 23) (size := 1) wr #[(.slice none 0 0)] 1 (Nat.le_refl _) (by decide) rfl
            simpa using h)
          go_wp2_with (at_builtin; refine wpList_append_zeros (by rfl) _ _ 22 3 rfl wr.heap.size 23 i3 _ 24 .i64 .i64 Try.underlying22 Try.underlying3 hi3 hy0 hy1 hy2 rfl wr.heap.size 1 _ rfl HOWN.out M rfl (by unfold maxLen; omega) (by omega) (by simp) ?_)
          intro v7 w7 hown7 hgr7
          have h7 : Below wr.heap.size wr w7 := ((Below.refl _ wr).alloc (Nat.le_refl _) _).grown hgr7 (by simp) (fun q hq => by simp at hq)
          obtain ⟨N, hN⟩ : ∃ N, 1 + M = N := ⟨_, rfl⟩
          have hrow : w7.ownsRow wr.heap.size 23 1 v7 N (flat lcells (headL ⟨none, 0, 0, cutO rr⟩) N) := by rw [← hN, flat_headL]; exact hown7
          have hHL := headL_holds hrow (HOC.out.below h7 (Nat.le_refl _))
          obtain ⟨a7, c7, rfl, _⟩ := id hHL.1
          have HL7 := Lib.hid hHL
          have HB7 := Lib.hid (Hbc.out.trans (h7.mono hsc))
          obtain ⟨z0, z1, zl⟩ := keepB HB7.out HY2.out
          have hMR : ∀ j, j < n → (C j).rest ≤ (M : Int) := fun j hj => HMM.out j (by omega)
          have HSET := Lib.hid (fun t => cut_set (l := ⟨none, 0, 0, cutO rr⟩) HSA.out HREST.out t)
          have HEND := Lib.hid (show ∀ j, j < n → run n C D (headL ⟨none, 0, 0, cutO rr⟩) N j = idle from by rw [← hN]; exact fun j hj => cut_end (l := ⟨none, 0, 0, cutO rr⟩) HSA.out HREST.out hMR M (Int.le_refl _) j hj)
          have hN2 : N ≤ 1001 := by omega
          clear hown7 hgr7 h7 hrow hHL HOWN hMR y0 y1 hlt hN
          go_wp2_with fail
          refine (run_ok tickC _ _ _ n n N C D (headL ⟨none, 0, 0, cutO rr⟩) _ HSA.out (HC2.out.below HB7.out (Nat.le_refl _)) (HA.out.below HB7.out (Nat.le_refl _)) HL7.out (by omega) (fun j _ => by
            unfold headL
            by_cases e : j = 0
            · rw [if_pos e]; show 0 ≤ 4096; omega
            · rw [if_neg e]; exact Nat.zero_le _)).mono ?_
          rintro e w8 ⟨vd, vw, rfl, hD, hW, hb8⟩
          obtain ⟨aD, kD, rfl, _⟩ := id hD
          obtain ⟨aW, kW, rfl, _⟩ := id hW
          obtain ⟨y0, y1, hlt⟩ := keepB hb8 ⟨z0, z1, zl⟩
          have HB8 := Lib.hid (HB7.out.trans (hb8.mono HB7.out.size))
          have HD8 := Lib.hid hD
          have HW8 := Lib.hid hW
          clear hb8 hD hW z0 z1 zl HL7 HB7
          go_wp2
          go_loopg [17] N (fun gg i wx => ∃ t : Nat, t ≤ N ∧ gg = N - t ∧ i = .int .i64 t ∧ Below w8.heap.size w8 wx)
          case atStart => exact ⟨0, by omega, rfl, rfl, Below.refl _ _⟩
          case round =>
            obtain ⟨t, ht, hgt, rfl, hbt⟩ := hrel
            have Hgt := Lib.hid hgt
            have Hbt := Lib.hid hbt
            clear hgt hbt
            by_cases htN : t < N
            · obtain ⟨gw, ow, rfl, lw, hcw⟩ := HW8.out.open2 htN
              have d0 := w_cellC (hcw _ Hbt.out) htN
              rw [HSET.out t, show W 0#32 = 0 from rfl] at d0
              have b7 : (0 : Int) ≤ (t : Int) := by omega
              have b8 : (t : Int) < (N : Int) := by omega
              have b9 : decide ((t : Int) < (N : Int)) = true := by simp; omega
              clear hcw
              go_wp2
              go_roundg (N - (t + 1))
              case measure => have := Hgt.out; omega
              case rel => exact ⟨t + 1, by omega, rfl, by go_num, Hbt.out⟩
            · have b9 : decide ((t : Int) < (N : Int)) = false := by simp; omega
              have HBT := Lib.hid Hbt.out
              clear Hbt
              go_wp2
              go_loopg [18] n (fun gg i wx => ∃ j : Nat, j ≤ n ∧ gg = n - j ∧ i = .int .i64 j ∧ Below w8.heap.size w8 wx)
              case atStart => exact ⟨0, by omega, rfl, rfl, HBT.out⟩
              case round =>
                clear HBT
                obtain ⟨j, hj, hgj, rfl, hbj⟩ := hrel
                have Hgj := Lib.hid hgj
                have Hbj := Lib.hid hbj
                clear hgj hbj
                by_cases hjn : j < n
                · obtain ⟨gd, od, rfl, ld, hcd⟩ := HD8.out.open2 hjn
                  obtain ⟨d0, d1, d2⟩ := drive_cells (hcd _ Hbj.out) hjn
                  rw [HEND.out j hjn] at d0 d1 d2
                  simp only [idle] at d0 d1 d2
                  have b7 : (0 : Int) ≤ (j : Int) := by omega
                  have b8 : (j : Int) < (n : Int) := by omega
                  have b10 : decide ((j : Int) < (n : Int)) = true := by simp; omega
                  clear hcd
                  go_wp2
                  go_roundg (n - (j + 1))
                  case measure => have := Hgj.out; omega
                  case rel => exact ⟨j + 1, by omega, rfl, by go_num, Hbj.out⟩
                · have b10 : decide ((j : Int) < (n : Int)) = false := by simp; omega
                  have HBZ := Lib.hid (HB2.out.trans ((HB8.out.trans (Hbj.out.mono HB8.out.size)).mono HB2.out.size))
                  go_wp2_with fail
                  refine (dsane _).mono ?_
                  rintro e w9 ⟨rfl, hb9⟩
                  have HB9 := Lib.hid (HBZ.out.trans (hb9.mono HBZ.out.size))
                  clear hb9
                  go_wp2
                  go_ret
                  exact ⟨rfl, HB9.out⟩
        · have hOC := Holds.of_owns order_len HR.out
          obtain ⟨K, hK⟩ : ∃ K, 2 * c = K := ⟨_, rfl⟩
          rw [hK] at hOC hnc ⊢
          have HOC := Lib.hid (show HoldsO wr (OL.v ⟨some ⟨g, 0, none⟩, K, cc, cutO rr⟩) K (cutO rr) from hOC)
          have hK64 : K ≤ 64 := by omega
          have HREST := Lib.hid (show ∀ i, i < n → Rested (orders n C D (cutO rr) K i) from fun i hi => by
            rw [← hK, show c = n by omega]
            exact cut_orders rr HSA.out n (Nat.le_refl _) i hi)
          have b4 : (0 : Int) ≤ (K : Int) := by omega
          have b5 : (K : Int) ≤ (cc : Int) := by omega
          have t6 : ¬ ((64 : Int) < (K : Int)) := by omega
          clear hOC hK
          have HOWN := Lib.hid (show (wr.alloc (.cells #[(.slice (some ⟨g, 0, none⟩) K cc)] 23)).ownsRow wr.heap.size 23 1 (.slice (some ⟨wr.heap.size, 0, none⟩) 1 1) 1 [(.slice (some ⟨g, 0, none⟩) K cc)] from by
            have h := World.ownsRow_lit (base := wr.heap.size) (e := 23) (size := 1) wr #[(.slice (some ⟨g, 0, none⟩) K cc)] 1 (Nat.le_refl _) (by decide) rfl
            simpa using h)
          go_wp2_with (at_builtin; refine wpList_append_zeros (by rfl) _ _ 22 3 rfl wr.heap.size 23 i3 _ 24 .i64 .i64 Try.underlying22 Try.underlying3 hi3 hy0 hy1 hy2 rfl wr.heap.size 1 _ rfl HOWN.out M rfl (by unfold maxLen; omega) (by omega) (by simp) ?_)
          intro v7 w7 hown7 hgr7
          have h7 : Below wr.heap.size wr w7 := ((Below.refl _ wr).alloc (Nat.le_refl _) _).grown hgr7 (by simp) (fun q hq => by simp at hq)
          obtain ⟨N, hN⟩ : ∃ N, 1 + M = N := ⟨_, rfl⟩
          have hrow : w7.ownsRow wr.heap.size 23 1 v7 N (flat lcells (headL ⟨some ⟨g, 0, none⟩, K, cc, cutO rr⟩) N) := by rw [← hN, flat_headL]; exact hown7
          have hHL := headL_holds hrow (HOC.out.below h7 (Nat.le_refl _))
          obtain ⟨a7, c7, rfl, _⟩ := id hHL.1
          have HL7 := Lib.hid hHL
          have HB7 := Lib.hid (Hbc.out.trans (h7.mono hsc))
          obtain ⟨z0, z1, zl⟩ := keepB HB7.out HY2.out
          have hMR : ∀ j, j < n → (C j).rest ≤ (M : Int) := fun j hj => HMM.out j (by omega)
          have HSET := Lib.hid (fun t => cut_set (l := ⟨some ⟨g, 0, none⟩, K, cc, cutO rr⟩) HSA.out HREST.out t)
          have HEND := Lib.hid (show ∀ j, j < n → run n C D (headL ⟨some ⟨g, 0, none⟩, K, cc, cutO rr⟩) N j = idle from by rw [← hN]; exact fun j hj => cut_end (l := ⟨some ⟨g, 0, none⟩, K, cc, cutO rr⟩) HSA.out HREST.out hMR M (Int.le_refl _) j hj)
          have hN2 : N ≤ 1001 := by omega
          clear hown7 hgr7 h7 hrow hHL HOWN hMR y0 y1 hlt hN
          go_wp2_with fail
          refine (run_ok tickC _ _ _ n n N C D (headL ⟨some ⟨g, 0, none⟩, K, cc, cutO rr⟩) _ HSA.out (HC2.out.below HB7.out (Nat.le_refl _)) (HA.out.below HB7.out (Nat.le_refl _)) HL7.out (by omega) (fun j _ => by
            unfold headL
            by_cases e : j = 0
            · rw [if_pos e]; show K ≤ 4096; omega
            · rw [if_neg e]; exact Nat.zero_le _)).mono ?_
          rintro e w8 ⟨vd, vw, rfl, hD, hW, hb8⟩
          obtain ⟨aD, kD, rfl, _⟩ := id hD
          obtain ⟨aW, kW, rfl, _⟩ := id hW
          obtain ⟨y0, y1, hlt⟩ := keepB hb8 ⟨z0, z1, zl⟩
          have HB8 := Lib.hid (HB7.out.trans (hb8.mono HB7.out.size))
          have HD8 := Lib.hid hD
          have HW8 := Lib.hid hW
          clear hb8 hD hW z0 z1 zl HL7 HB7
          go_wp2
          go_loopg [17] N (fun gg i wx => ∃ t : Nat, t ≤ N ∧ gg = N - t ∧ i = .int .i64 t ∧ Below w8.heap.size w8 wx)
          case atStart => exact ⟨0, by omega, rfl, rfl, Below.refl _ _⟩
          case round =>
            obtain ⟨t, ht, hgt, rfl, hbt⟩ := hrel
            have Hgt := Lib.hid hgt
            have Hbt := Lib.hid hbt
            clear hgt hbt
            by_cases htN : t < N
            · obtain ⟨gw, ow, rfl, lw, hcw⟩ := HW8.out.open2 htN
              have d0 := w_cellC (hcw _ Hbt.out) htN
              rw [HSET.out t, show W 0#32 = 0 from rfl] at d0
              have b7 : (0 : Int) ≤ (t : Int) := by omega
              have b8 : (t : Int) < (N : Int) := by omega
              have b9 : decide ((t : Int) < (N : Int)) = true := by simp; omega
              clear hcw
              go_wp2
              go_roundg (N - (t + 1))
              case measure => have := Hgt.out; omega
              case rel => exact ⟨t + 1, by omega, rfl, by go_num, Hbt.out⟩
            · have b9 : decide ((t : Int) < (N : Int)) = false := by simp; omega
              have HBT := Lib.hid Hbt.out
              clear Hbt
              go_wp2
              go_loopg [18] n (fun gg i wx => ∃ j : Nat, j ≤ n ∧ gg = n - j ∧ i = .int .i64 j ∧ Below w8.heap.size w8 wx)
              case atStart => exact ⟨0, by omega, rfl, rfl, HBT.out⟩
              case round =>
                clear HBT
                obtain ⟨j, hj, hgj, rfl, hbj⟩ := hrel
                have Hgj := Lib.hid hgj
                have Hbj := Lib.hid hbj
                clear hgj hbj
                by_cases hjn : j < n
                · obtain ⟨gd, od, rfl, ld, hcd⟩ := HD8.out.open2 hjn
                  obtain ⟨d0, d1, d2⟩ := drive_cells (hcd _ Hbj.out) hjn
                  rw [HEND.out j hjn] at d0 d1 d2
                  simp only [idle] at d0 d1 d2
                  have b7 : (0 : Int) ≤ (j : Int) := by omega
                  have b8 : (j : Int) < (n : Int) := by omega
                  have b10 : decide ((j : Int) < (n : Int)) = true := by simp; omega
                  clear hcd
                  go_wp2
                  go_roundg (n - (j + 1))
                  case measure => have := Hgj.out; omega
                  case rel => exact ⟨j + 1, by omega, rfl, by go_num, Hbj.out⟩
                · have b10 : decide ((j : Int) < (n : Int)) = false := by simp; omega
                  have HBZ := Lib.hid (HB2.out.trans ((HB8.out.trans (Hbj.out.mono HB8.out.size)).mono HB2.out.size))
                  go_wp2_with fail
                  refine (dsane _).mono ?_
                  rintro e w9 ⟨rfl, hb9⟩
                  have HB9 := Lib.hid (HBZ.out.trans (hb9.mono HBZ.out.size))
                  clear hb9
                  go_wp2
                  go_ret
                  exact ⟨rfl, HB9.out⟩
end Go.Proofs.Ytfgkljfoalgkaaa
