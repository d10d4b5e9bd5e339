/-
  The walk of the law DriverLimits: for all arguments it hands back true, and nothing that was there turns.
-/
import Derived.Test.YtfgkljfoalgkaaaDCoil
import Derived.Test.YtfgkljfoalgkaaaDSane2
import Derived.Deep.DeepCutAuto
namespace Go.Proofs.Ytfgkljfoalgkaaa
open Go.RowKit Go.Deep

theorem Try.info23 : (Try.prog.info? 23).map (fun i => (i.zero, i.size, i.bytes)) = some (some (.slice none 0 0), 1, 24) := by kernel_rfl
theorem Try.info43 : (Try.prog.info? 43).map (fun i => (i.zero, i.size, i.bytes)) = some (some (.agg #[.int .i64 0, .int .i64 0]), 2, 16) := by kernel_rfl
def nilL : Nat → OL := fun _ => ⟨none, 0, 0, fun _ => ⟨0, 0⟩⟩
theorem made_lists (w : World) (n cap : Nat) : HoldsL (w.alloc (.cells (madeCells #[.slice none 0 0] (n * 1)) 23)) (.slice (some ⟨w.heap.size, 0, none⟩) n cap) n nilL := by
  have hb := blk_alloc_new w (.cells (madeCells #[.slice none 0 0] (n * 1)) 23)
  refine ⟨⟨_, _, rfl, .inr ⟨_, _, rfl, by simp, fun j hj k u hu => ?_⟩⟩, fun j _ => Holds.nil _ _ _ _⟩
  have hk : k = 0 := by
    have := (List.getElem?_eq_some_iff.1 hu).1
    simp at this
    exact this
  subst hk
  simp [OL.v, nilL] at hu
  rw [← hu, show 0 + j * 1 + 0 = j by omega]
  unfold World.cell?
  simp only [hb]
  simp [madeCells, hj, Nat.mod_one]
theorem made_orders (w : World) (n cap : Nat) : HoldsO (w.alloc (.cells (madeCells #[.int .i64 0, .int .i64 0] (n * 2)) 43)) (.slice (some ⟨w.heap.size, 0, none⟩) n cap) n (fun _ => ⟨0, 0⟩) := by
  have hb := blk_alloc_new w (.cells (madeCells #[.int .i64 0, .int .i64 0] (n * 2)) 43)
  refine ⟨_, _, rfl, .inr ⟨_, _, rfl, by simp, fun j hj k u hu => ?_⟩⟩
  have hk : k < 2 := (List.getElem?_eq_some_iff.1 hu).1
  unfold World.cell?
  simp only [hb]
  match k, hk, hu with
  | 0, _, hu =>
    have h1 : 0 + j * 2 + 0 < n * 2 := by omega
    have h2 : (0 + j * 2 + 0) % 2 = 0 := by omega
    generalize 0 + j * 2 + 0 = i at *
    simp [Order.cells] at hu
    simp [madeCells, h1, h2, hu]
  | 1, _, hu =>
    have h1 : 0 + j * 2 + 1 < n * 2 := by omega
    have h2 : (0 + j * 2 + 1) % 2 = 1 := by omega
    generalize 0 + j * 2 + 1 = i at *
    simp [Order.cells] at hu
    simp [madeCells, h1, h2, hu]
theorem oneL (w : World) (l : OL) (h : HoldsO w l.v l.n l.os) : HoldsL (w.alloc (.cells #[.slice l.a l.n l.cap] 23)) (.slice (some ⟨w.heap.size, 0, none⟩) 1 1) 1 (fun _ => l) := by
  have hb := blk_alloc_new w (.cells #[.slice l.a l.n l.cap] 23)
  refine ⟨⟨_, _, rfl, .inr ⟨_, _, rfl, by simp, fun j hj k u hu => ?_⟩⟩, fun j _ => h.below ((Below.refl _ _).alloc (Nat.le_refl _) _) (Nat.le_refl _)⟩
  have hk : k = 0 := by
    have := (List.getElem?_eq_some_iff.1 hu).1
    simp at this
    exact this
  have hj : j = 0 := by omega
  subst hk hj
  simp [OL.v] at hu
  rw [← hu]
  unfold World.cell?
  simp only [hb]
  rfl
theorem HoldsD.one (x : Drive) (w : World) : HoldsD (w.alloc (.cells #[.int .i64 x.phase, .int .i64 x.left, .bool x.held] 34)) (.slice (some ⟨w.heap.size, 0, none⟩) 1 1) 1 (fun _ => x) := by
  refine ⟨_, _, rfl, .inr ⟨w.heap.size, 0, rfl, by simp, fun j hj k u hu => ?_⟩⟩
  have : j = 0 := by omega
  subst this
  have hb := blk_alloc_new w (.cells #[.int .i64 x.phase, .int .i64 x.left, .bool x.held] 34)
  rw [show 0 + 0 * 3 + k = k by omega]
  unfold World.cell?
  simp only [hb]
  rw [← hu]
  simp [Drive.cells]
theorem coil1_valid (c : Coil) (h : goodB c = true) : validE 1 (fun _ => c) = 0 := by
  unfold validE
  rw [if_neg (by decide), if_pos (fun _ _ => h)]
set_option maxRecDepth 100000 in
set_option maxHeartbeats 6400000 in
theorem driverLimits_walk (p : Int) (b : Bool) (w : World) (p0 : 0 ≤ p) (p1 : p ≤ 255) :
    Calls Try.prog 3 #[.int .u8 p, .bool b] w fun e w' => e = .returned (.bool true) ∧ Below w.heap.size w w' := by
  obtain ⟨K, hK⟩ : ∃ K : Nat, 4096 + p % 3 - 1 = K := ⟨(4096 + p % 3 - 1).toNat, by omega⟩
  have hK1 : K ≤ 4097 := by omega
  have hK0 : 4095 ≤ K := by omega
  have HK := Lib.hid hK
  clear hK
  obtain ⟨i0, hi, hz0, hz1, hz2⟩ := info_parts Try.info23
  obtain ⟨i1, hi1, hy0, hy1, hy2⟩ := info_parts Try.info43
  cases b with
  | false =>
    go_enter Try.func3, Try.ntmps3
    go_upto_region 2 with fail
    rw [HK.out]
    go_wp2_with (refine wpList_make_rows _ rfl _ _ 22 rfl 23 i0 _ 1 Try.underlying22 hi hz0 hz1 .i64 .i64 K rfl rfl (by rw [hz2]; omega) (by omega) ?_)
    have hL := made_lists w K K
    rw [Nat.mul_one] at hL
    have HL := Lib.hid hL
    have HB := Lib.hid (show Below w.heap.size w (w.alloc (.cells (madeCells #[.slice none 0 0] K) 23)) from (Below.refl _ _).alloc (Nat.le_refl _) _)
    clear hL
    generalize w.alloc (.cells (madeCells #[.slice none 0 0] K) 23) = w2 at *
    refine (coil_any p 1 1 1 _ p0 p1 (by decide) (by decide) (by decide) (by decide) (by decide) (by decide)).mono ?_
    rintro e w3 ⟨rfl, hb3⟩
    have hgood : goodB (coilF p 1 1 1) = true := coilF_good _ _ _ _
    obtain ⟨c, hc⟩ : ∃ c, coilF p 1 1 1 = c := ⟨_, rfl⟩
    rw [hc] at hgood ⊢
    have HG := Lib.hid (coil1_valid c hgood)
    have HL3 := Lib.hid (HL.out.below hb3 (Nat.le_refl _))
    have HB3 := Lib.hid (HB.out.trans (hb3.mono HB.out.size))
    have hs3 := HB3.out.size
    clear hb3 hc hgood HL HB
    by_cases hk : 4096 < K
    · have t1 : decide (4096 < (K : Int)) = true := by simp; omega
      go_wp2_with fail
      have hb1 : Below w3.heap.size w3 (w3.alloc (.cells #[.int .i64 c.pulse, .int .i64 c.on, .int .i64 c.off, .int .i64 c.rest, .int .i64 c.fuse, .int .i64 c.cur] 25)) := (Below.refl _ _).alloc (Nat.le_refl _) _
      have hC := HoldsC.one c (w3.alloc (.cells #[.int .i64 c.pulse, .int .i64 c.on, .int .i64 c.off, .int .i64 c.rest, .int .i64 c.fuse, .int .i64 c.cur] 25))
      have hD := HoldsD.one idle ((w3.alloc (.cells #[.int .i64 c.pulse, .int .i64 c.on, .int .i64 c.off, .int .i64 c.rest, .int .i64 c.fuse, .int .i64 c.cur] 25)).alloc (.cells #[.int .i64 c.pulse, .int .i64 c.on, .int .i64 c.off, .int .i64 c.rest, .int .i64 c.fuse, .int .i64 c.cur] 25))
      have hbx : Below w3.heap.size w3 (((w3.alloc (.cells #[.int .i64 c.pulse, .int .i64 c.on, .int .i64 c.off, .int .i64 c.rest, .int .i64 c.fuse, .int .i64 c.cur] 25)).alloc (.cells #[.int .i64 c.pulse, .int .i64 c.on, .int .i64 c.off, .int .i64 c.rest, .int .i64 c.fuse, .int .i64 c.cur] 25)).alloc (.cells #[.int .i64 0, .int .i64 0, .bool false] 34)) := (hb1.alloc (by simp) _).alloc (by simp; omega) _
      have hC2 := hC.below ((Below.refl _ ((w3.alloc (.cells #[.int .i64 c.pulse, .int .i64 c.on, .int .i64 c.off, .int .i64 c.rest, .int .i64 c.fuse, .int .i64 c.cur] 25)).alloc (.cells #[.int .i64 c.pulse, .int .i64 c.on, .int .i64 c.off, .int .i64 c.rest, .int .i64 c.fuse, .int .i64 c.cur] 25))).alloc (Nat.le_refl _) (.cells #[.int .i64 0, .int .i64 0, .bool false] 34)) (Nat.le_refl _)
      rw [nblk_alloc] at hC2
      rw [nblk_alloc, nblk_alloc] at hD
      refine (run_limit _ _ _ 1 1 K (fun _ => c) (fun _ => idle) nilL _ (idle_state HG.out) hC2 hD (HL3.out.below hbx (Nat.le_refl _)) (.inl hk)).mono ?_
      rintro e w4 ⟨rfl, hb4⟩
      have HB4 := Lib.hid (HB3.out.trans ((hbx.trans (hb4.mono hbx.size)).mono HB3.out.size))
      clear hb1 hC hD hbx hC2 hb4
      go_wp2_with fail
      refine (dsane _).mono ?_
      rintro e w5 ⟨rfl, hb5⟩
      have HB5 := Lib.hid (HB4.out.trans (hb5.mono HB4.out.size))
      clear hb5
      go_wp2
      go_ret
      exact ⟨rfl, HB5.out⟩
    · have t1 : decide (4096 < (K : Int)) = false := by simp; omega
      go_wp2_with fail
      have hb1 : Below w3.heap.size w3 (w3.alloc (.cells #[.int .i64 c.pulse, .int .i64 c.on, .int .i64 c.off, .int .i64 c.rest, .int .i64 c.fuse, .int .i64 c.cur] 25)) := (Below.refl _ _).alloc (Nat.le_refl _) _
      have hC := HoldsC.one c (w3.alloc (.cells #[.int .i64 c.pulse, .int .i64 c.on, .int .i64 c.off, .int .i64 c.rest, .int .i64 c.fuse, .int .i64 c.cur] 25))
      have hD := HoldsD.one idle ((w3.alloc (.cells #[.int .i64 c.pulse, .int .i64 c.on, .int .i64 c.off, .int .i64 c.rest, .int .i64 c.fuse, .int .i64 c.cur] 25)).alloc (.cells #[.int .i64 c.pulse, .int .i64 c.on, .int .i64 c.off, .int .i64 c.rest, .int .i64 c.fuse, .int .i64 c.cur] 25))
      have hbx : Below w3.heap.size w3 (((w3.alloc (.cells #[.int .i64 c.pulse, .int .i64 c.on, .int .i64 c.off, .int .i64 c.rest, .int .i64 c.fuse, .int .i64 c.cur] 25)).alloc (.cells #[.int .i64 c.pulse, .int .i64 c.on, .int .i64 c.off, .int .i64 c.rest, .int .i64 c.fuse, .int .i64 c.cur] 25)).alloc (.cells #[.int .i64 0, .int .i64 0, .bool false] 34)) := (hb1.alloc (by simp) _).alloc (by simp; omega) _
      have hC2 := hC.below ((Below.refl _ ((w3.alloc (.cells #[.int .i64 c.pulse, .int .i64 c.on, .int .i64 c.off, .int .i64 c.rest, .int .i64 c.fuse, .int .i64 c.cur] 25)).alloc (.cells #[.int .i64 c.pulse, .int .i64 c.on, .int .i64 c.off, .int .i64 c.rest, .int .i64 c.fuse, .int .i64 c.cur] 25))).alloc (Nat.le_refl _) (.cells #[.int .i64 0, .int .i64 0, .bool false] 34)) (Nat.le_refl _)
      rw [nblk_alloc] at hC2
      rw [nblk_alloc, nblk_alloc] at hD
      refine (run_ok tickC _ _ _ 1 1 K (fun _ => c) (fun _ => idle) nilL _ (idle_state HG.out) hC2 hD (HL3.out.below hbx (Nat.le_refl _)) (by omega) (fun i _ => Nat.zero_le _)).mono ?_
      rintro e w4 ⟨vd, vs, rfl, _, hW, hb4⟩
      obtain ⟨aw, kw, rfl, _⟩ := hW
      have HB4 := Lib.hid (HB3.out.trans ((hbx.trans (hb4.mono hbx.size)).mono HB3.out.size))
      clear hb1 hC hD hbx hC2 hb4
      go_wp2_with fail
      refine (dsane _).mono ?_
      rintro e w5 ⟨rfl, hb5⟩
      have HB5 := Lib.hid (HB4.out.trans (hb5.mono HB4.out.size))
      clear hb5
      go_wp2
      go_ret
      exact ⟨rfl, HB5.out⟩
  | true =>
    go_enter Try.func3, Try.ntmps3
    go_upto_region 2 with fail
    rw [HK.out]
    go_upto_region 4 with (refine wpList_make_rows _ rfl _ _ 22 rfl 23 i0 _ 1 Try.underlying22 hi hz0 hz1 .i64 .i64 K rfl rfl (by rw [hz2]; omega) (by omega) ?_)
    go_wp2_with (refine wpList_make_rows _ rfl _ _ 23 rfl 43 i1 _ 2 Try.underlying23 hi1 hy0 hy1 .i64 .i64 K rfl rfl (by rw [hy2]; omega) (by omega) ?_)
    have hO := made_orders (w.alloc (.cells (madeCells #[.slice none 0 0] K) 23)) K K
    rw [nblk_alloc] at hO
    have hL := oneL ((w.alloc (.cells (madeCells #[.slice none 0 0] K) 23)).alloc (.cells (madeCells #[.int .i64 0, .int .i64 0] (K * 2)) 43)) ⟨some ⟨w.heap.size + 1, 0, none⟩, K, K, fun _ => ⟨0, 0⟩⟩ hO
    rw [nblk_alloc, nblk_alloc] at hL
    have hb1 : Below w.heap.size w (w.alloc (.cells (madeCells #[.slice none 0 0] K) 23)) := (Below.refl _ _).alloc (Nat.le_refl _) _
    have hb2 : Below w.heap.size w ((w.alloc (.cells (madeCells #[.slice none 0 0] K) 23)).alloc (.cells (madeCells #[.int .i64 0, .int .i64 0] (K * 2)) 43)) := hb1.alloc (by simp) _
    have HB := Lib.hid (show Below w.heap.size w (((w.alloc (.cells (madeCells #[.slice none 0 0] K) 23)).alloc (.cells (madeCells #[.int .i64 0, .int .i64 0] (K * 2)) 43)).alloc (.cells #[.slice (some ⟨w.heap.size + 1, 0, none⟩) K K] 23)) from hb2.alloc (by simp; omega) _)
    have HL := Lib.hid hL
    clear hL hO hb1 hb2
    generalize (((w.alloc (.cells (madeCells #[.slice none 0 0] K) 23)).alloc (.cells (madeCells #[.int .i64 0, .int .i64 0] (K * 2)) 43)).alloc (.cells #[.slice (some ⟨w.heap.size + 1, 0, none⟩) K K] 23)) = w2 at *
    refine (coil_any p 1 1 1 _ p0 p1 (by decide) (by decide) (by decide) (by decide) (by decide) (by decide)).mono ?_
    rintro e w3 ⟨rfl, hb3⟩
    have hgood : goodB (coilF p 1 1 1) = true := coilF_good _ _ _ _
    obtain ⟨c, hc⟩ : ∃ c, coilF p 1 1 1 = c := ⟨_, rfl⟩
    rw [hc] at hgood ⊢
    have HG := Lib.hid (coil1_valid c hgood)
    have HL3 := Lib.hid (HL.out.below hb3 (Nat.le_refl _))
    have HB3 := Lib.hid (HB.out.trans (hb3.mono HB.out.size))
    have hs3 := HB3.out.size
    clear hb3 hc hgood HL HB
    by_cases hk : 4096 < K
    · have t1 : decide (4096 < (K : Int)) = true := by simp; omega
      go_wp2_with fail
      have hb1 : Below w3.heap.size w3 (w3.alloc (.cells #[.int .i64 c.pulse, .int .i64 c.on, .int .i64 c.off, .int .i64 c.rest, .int .i64 c.fuse, .int .i64 c.cur] 25)) := (Below.refl _ _).alloc (Nat.le_refl _) _
      have hC := HoldsC.one c (w3.alloc (.cells #[.int .i64 c.pulse, .int .i64 c.on, .int .i64 c.off, .int .i64 c.rest, .int .i64 c.fuse, .int .i64 c.cur] 25))
      have hD := HoldsD.one idle ((w3.alloc (.cells #[.int .i64 c.pulse, .int .i64 c.on, .int .i64 c.off, .int .i64 c.rest, .int .i64 c.fuse, .int .i64 c.cur] 25)).alloc (.cells #[.int .i64 c.pulse, .int .i64 c.on, .int .i64 c.off, .int .i64 c.rest, .int .i64 c.fuse, .int .i64 c.cur] 25))
      have hbx : Below w3.heap.size w3 (((w3.alloc (.cells #[.int .i64 c.pulse, .int .i64 c.on, .int .i64 c.off, .int .i64 c.rest, .int .i64 c.fuse, .int .i64 c.cur] 25)).alloc (.cells #[.int .i64 c.pulse, .int .i64 c.on, .int .i64 c.off, .int .i64 c.rest, .int .i64 c.fuse, .int .i64 c.cur] 25)).alloc (.cells #[.int .i64 0, .int .i64 0, .bool false] 34)) := (hb1.alloc (by simp) _).alloc (by simp; omega) _
      have hC2 := hC.below ((Below.refl _ ((w3.alloc (.cells #[.int .i64 c.pulse, .int .i64 c.on, .int .i64 c.off, .int .i64 c.rest, .int .i64 c.fuse, .int .i64 c.cur] 25)).alloc (.cells #[.int .i64 c.pulse, .int .i64 c.on, .int .i64 c.off, .int .i64 c.rest, .int .i64 c.fuse, .int .i64 c.cur] 25))).alloc (Nat.le_refl _) (.cells #[.int .i64 0, .int .i64 0, .bool false] 34)) (Nat.le_refl _)
      rw [nblk_alloc] at hC2
      rw [nblk_alloc, nblk_alloc] at hD
      refine (run_limit _ _ _ 1 1 1 (fun _ => c) (fun _ => idle) (fun _ => (⟨some ⟨w.heap.size + 1, 0, none⟩, K, K, fun _ => ⟨0, 0⟩⟩ : OL)) _ (idle_state HG.out) hC2 hD (HL3.out.below hbx (Nat.le_refl _)) (.inr ⟨0, by decide, hk⟩)).mono ?_
      rintro e w4 ⟨rfl, hb4⟩
      have HB4 := Lib.hid (HB3.out.trans ((hbx.trans (hb4.mono hbx.size)).mono HB3.out.size))
      clear hb1 hC hD hbx hC2 hb4
      go_wp2_with fail
      refine (dsane _).mono ?_
      rintro e w5 ⟨rfl, hb5⟩
      have HB5 := Lib.hid (HB4.out.trans (hb5.mono HB4.out.size))
      clear hb5
      go_wp2
      go_ret
      exact ⟨rfl, HB5.out⟩
    · have t1 : decide (4096 < (K : Int)) = false := by simp; omega
      go_wp2_with fail
      have hb1 : Below w3.heap.size w3 (w3.alloc (.cells #[.int .i64 c.pulse, .int .i64 c.on, .int .i64 c.off, .int .i64 c.rest, .int .i64 c.fuse, .int .i64 c.cur] 25)) := (Below.refl _ _).alloc (Nat.le_refl _) _
      have hC := HoldsC.one c (w3.alloc (.cells #[.int .i64 c.pulse, .int .i64 c.on, .int .i64 c.off, .int .i64 c.rest, .int .i64 c.fuse, .int .i64 c.cur] 25))
      have hD := HoldsD.one idle ((w3.alloc (.cells #[.int .i64 c.pulse, .int .i64 c.on, .int .i64 c.off, .int .i64 c.rest, .int .i64 c.fuse, .int .i64 c.cur] 25)).alloc (.cells #[.int .i64 c.pulse, .int .i64 c.on, .int .i64 c.off, .int .i64 c.rest, .int .i64 c.fuse, .int .i64 c.cur] 25))
      have hbx : Below w3.heap.size w3 (((w3.alloc (.cells #[.int .i64 c.pulse, .int .i64 c.on, .int .i64 c.off, .int .i64 c.rest, .int .i64 c.fuse, .int .i64 c.cur] 25)).alloc (.cells #[.int .i64 c.pulse, .int .i64 c.on, .int .i64 c.off, .int .i64 c.rest, .int .i64 c.fuse, .int .i64 c.cur] 25)).alloc (.cells #[.int .i64 0, .int .i64 0, .bool false] 34)) := (hb1.alloc (by simp) _).alloc (by simp; omega) _
      have hC2 := hC.below ((Below.refl _ ((w3.alloc (.cells #[.int .i64 c.pulse, .int .i64 c.on, .int .i64 c.off, .int .i64 c.rest, .int .i64 c.fuse, .int .i64 c.cur] 25)).alloc (.cells #[.int .i64 c.pulse, .int .i64 c.on, .int .i64 c.off, .int .i64 c.rest, .int .i64 c.fuse, .int .i64 c.cur] 25))).alloc (Nat.le_refl _) (.cells #[.int .i64 0, .int .i64 0, .bool false] 34)) (Nat.le_refl _)
      rw [nblk_alloc] at hC2
      rw [nblk_alloc, nblk_alloc] at hD
      refine (run_ok tickC _ _ _ 1 1 1 (fun _ => c) (fun _ => idle) (fun _ => (⟨some ⟨w.heap.size + 1, 0, none⟩, K, K, fun _ => ⟨0, 0⟩⟩ : OL)) _ (idle_state HG.out) hC2 hD (HL3.out.below hbx (Nat.le_refl _)) (by omega) (fun i _ => (show K ≤ 4096 by omega))).mono ?_
      rintro e w4 ⟨vd, vs, rfl, _, hW, hb4⟩
      obtain ⟨aw, kw, rfl, _⟩ := hW
      have HB4 := Lib.hid (HB3.out.trans ((hbx.trans (hb4.mono hbx.size)).mono HB3.out.size))
      clear hb1 hC hD hbx hC2 hb4
      go_wp2_with fail
      refine (dsane _).mono ?_
      rintro e w5 ⟨rfl, hb5⟩
      have HB5 := Lib.hid (HB4.out.trans (hb5.mono HB4.out.size))
      clear hb5
      go_wp2
      go_ret
      exact ⟨rfl, HB5.out⟩
end Go.Proofs.Ytfgkljfoalgkaaa
