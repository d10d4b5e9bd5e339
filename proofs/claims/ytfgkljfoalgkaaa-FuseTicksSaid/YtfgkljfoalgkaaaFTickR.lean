/-
  pinballref24.Tick: the states behind a tick and the live coils, for states of valid fuses and valid coils; the error else.
-/
import Derived.Test.YtfgkljfoalgkaaaFTick
import Derived.Test.YtfgkljfoalgkaaaFStateR
import Derived.Test.YtfgkljfoalgkaaaFLoadR
import Derived.Test.YtfgkljfoalgkaaaFLiveR
import Derived.Deep.AppendLies
import Derived.BigRegion
import Derived.StillTailTactics
namespace Go.Proofs.Ytfgkljfoalgkaaa
open Go.RowKit Go.Deep

theorem ownsRow_of_block {w w' : World} {base : Nat} {e : TypeId} {size : Nat} {v : Value} {n : Nat} {xs : List Value} (h : w.ownsRow base e size v n xs) (hb : ∀ g, v.ownBlock = some g → w'.heap[g]? = w.heap[g]?) : w'.ownsRow base e size v n xs := by
  refine ⟨h.1, h.2.imp id ?_⟩
  rintro ⟨g, cap, cur, hv, hg, hc, hr⟩
  exact ⟨g, cap, cur, hv, hg, (hb g (by rw [hv]; rfl)).trans hc, hr⟩
theorem ownsRow_below {w w' : World} {base B : Nat} {e : TypeId} {size : Nat} {v : Value} {n : Nat} {xs : List Value} (h : w.ownsRow base e size v n xs) (hb : Below B w w') (hB : w.heap.size ≤ B) : w'.ownsRow base e size v n xs :=
  ownsRow_of_block h fun g hg => hb.block g (Nat.lt_of_lt_of_le (h.lt g hg).2 hB)
theorem box_at (X : World) (x : FS) : ∀ j u, (FS.cells x)[j]? = some u → (X.alloc (.cells #[.int .i64 x.heat, .bool x.blown] 83)).cell? ((⟨X.heap.size, 0, none⟩ : Addr).add j) = some u := by
  intro j u hu
  rw [Go.WideShapes.add_plain, Nat.zero_add]
  have hb := blk_alloc_new X (.cells #[.int .i64 x.heat, .bool x.blown] 83)
  unfold World.cell?
  simp only [hb]
  rw [← hu]
  simp [FS.cells]
set_option maxRecDepth 100000 in
set_option maxHeartbeats 12800000 in
theorem rftick_ok (v1 v2 v3 : Value) (n c : Nat) (F : Nat → Fuse) (C : Nat → Coil) (S : Nat → FS) (x : BitVec 32) (w : World) (hS : StateF n F n S) (hC : validE c C = 0)
    (h1 : HoldsF w v1 n F) (h2 : HoldsC w v2 c C) (h3 : HoldsT w v3 n S) :
    Calls Try.prog 56 #[v1, v2, v3, .int .u32 (W x)] w fun e w' => ∃ v', e = .returned (.tuple #[v', .int .u32 (W (liveF c C n S x)), .int .i64 0]) ∧ HoldsT w' v' n (tickF n F c C S x) ∧ Below w.heap.size w w' := by
  obtain ⟨a1, cap1, rfl, _⟩ := id h1
  obtain ⟨a2, cap2, rfl, _⟩ := id h2
  obtain ⟨a3, cap3, rfl, _⟩ := id h3
  have hn8 := (validFE_zero hS.1).1
  have HG := Lib.hid (validFE_zero hS.1).2
  have HF := Lib.hid hS.2.2
  have HC := Lib.hid hC
  have H1 := Lib.hid h1
  have H2 := Lib.hid h2
  have H3 := Lib.hid h3
  have HS := Lib.hid (rfstate_yes hS _ h1 h3)
  clear h1 h2 h3 hS hC
  obtain ⟨i0, hi, hz0, hz1, hz2⟩ := info_parts Try.info83
  go_enter Try.func56, Try.ntmps56
  go_wp2_with fail
  refine HS.out.mono ?_
  rintro e w1 ⟨rfl, hb1⟩
  have Hb1 := Lib.hid hb1
  clear hb1 HS
  go_wp2_with fail
  refine (rvalid_any _ c C _ (H2.out.below Hb1.out (Nat.le_refl _))).mono ?_
  rintro e w2 ⟨rfl, hb2⟩
  rw [HC.out]
  have Hb2 := Lib.hid (Hb1.out.trans (hb2.mono Hb1.out.size))
  clear hb2 Hb1
  go_wp2_with fail
  refine (rflive _ _ c n C S x _ (H2.out.below Hb2.out (Nat.le_refl _)) (H3.out.below Hb2.out (Nat.le_refl _))).mono ?_
  rintro e w3 ⟨rfl, hb3⟩
  have Hb3 := Lib.hid (Hb2.out.trans (hb3.mono Hb2.out.size))
  clear hb3 Hb2
  obtain ⟨lv, hlv⟩ : ∃ lv, liveF c C n S x = lv := ⟨_, rfl⟩
  rw [hlv]
  go_wp2
  go_loopg [12, 13] n (fun gg s i wr => ∃ k : Nat, k ≤ n ∧ gg = n - k ∧ i = .int .i64 k ∧ wr.ownsRow w.heap.size 83 2 s k (flat FS.cells (tickF n F c C S x) k) ∧ Below w.heap.size w wr)
  case atStart => exact ⟨0, by omega, rfl, rfl, World.ownsRow_nil _ _ _ _, Hb3.out⟩
  case round =>
    clear Hb3
    obtain ⟨k, hk, hgg, rfl, hR, hb⟩ := hrel
    have Hg := Lib.hid hgg
    have HR := Lib.hid hR
    have Hb := Lib.hid hb
    have hsz := hb.size
    clear hgg hR hb
    by_cases hkn : k < n
    · obtain ⟨g1, o1, rfl, l1, hc1⟩ := H1.out.open2 hkn
      obtain ⟨g3, o3, rfl, l3, hc3⟩ := H3.out.open2 hkn
      obtain ⟨d0, d1⟩ := fs_cells (hc3 _ Hb.out) hkn
      have b1 : (0 : Int) ≤ (k : Int) := by omega
      have b2 : (k : Int) < (n : Int) := by omega
      have b3 : decide ((k : Int) < (n : Int)) = true := by simp; omega
      have lw1 : g1 < wr.heap.size := by omega
      have lw3 : g3 < wr.heap.size := by omega
      have HC1 := Lib.hid hc1
      clear hc1 hc3
      cases hbl : (S k).blown with
      | true =>
        have hT : tickF n F c C S x k = S k := by unfold tickF stepF; rw [if_pos hbl]
        rw [hbl] at d1
        have HN := Lib.hid (box_at (wr.alloc (.cells #[.int .i64 (S k).heat, .bool true] 83)) (S k))
        rw [hbl] at HN
        have hbs : Below w.heap.size w ((wr.alloc (.cells #[.int .i64 (S k).heat, .bool true] 83)).alloc (.cells #[.int .i64 (S k).heat, .bool true] 83)) := (Hb.out.alloc hsz _).alloc (by simp; omega) _
        have HB2 := Lib.hid hbs
        have HT := Lib.hid hT
        clear hT hbs
        go_wp2_with (at_builtin; refine wpList_append_own _ rfl _ _ 64 rfl w.heap.size 83 i0 _ 2 16 Try.underlying64 hi hz0 hz1 hz2 rfl (by decide) _ k (flat FS.cells (tickF n F c C S x) k) rfl ((HR.out.alloc _).alloc _) ⟨wr.heap.size + 1, 0, none⟩ 1 1 (FS.cells (S k)) rfl rfl ?c0 ?c2 ?c3 ?c4 ?c5 ?c6)
        case c0 => have := HN.out; rw [nblk_alloc] at this; exact this
        case c2 => exact fs_one (S k)
        case c3 => unfold maxLen; omega
        case c4 => omega
        case c5 => simp; omega
        intro v' w4 hown4 hgr4 _
        have HO4 := Lib.hid hown4
        have HG4 := Lib.hid hgr4
        clear hown4 hgr4
        go_wp2
        go_roundg (n - (k + 1))
        case measure => have := Hg.out; omega
        case rel => exact ⟨k + 1, by omega, rfl, by go_num, by rw [flat, HT.out]; exact HO4.out, HB2.out.grown HG4.out (by simp; omega) (fun q hq => (HR.out.lt q hq).1)⟩
      | false =>
        have hx : tickF n F c C S x k = if (F k).limit < heatF (F k) (S k) (loadF c C lv k) then ⟨0, true⟩ else ⟨heatF (F k) (S k) (loadF c C lv k), false⟩ := by
          unfold tickF stepF
          rw [hbl, if_neg Bool.false_ne_true, hlv]
        have HHS := Lib.hid (HF.out k hkn)
        have hgf := HG.out k hkn
        rw [hbl] at d1
        go_wp2_with fail
        refine (rfload _ c C lv k _ ?hold).mono ?_
        case hold => exact H2.out.below (Hb.out.alloc hsz _) (Nat.le_refl _)
        rintro e w5 ⟨rfl, hb5⟩
        obtain ⟨k0, k1, k2, hb5'⟩ := keep2 hb5
        have HR5 := Lib.hid (ownsRow_below HR.out hb5' (Nat.le_refl _))
        have HRL := Lib.hid (fun g hg => (HR.out.lt g hg).2)
        have HB5 := Lib.hid (Hb.out.trans (hb5'.mono hsz))
        obtain ⟨e0, e1⟩ := fuse_cells (HC1.out _ HB5.out) hkn
        obtain ⟨L0, L1⟩ := loadF_le c C lv k
        obtain ⟨L, hL⟩ : ∃ L, loadF c C lv k = L := ⟨_, rfl⟩
        rw [hL] at L0 L1 ⊢
        have HX := hx
        rw [hL] at HX
        clear hx
        obtain ⟨R0, R1, M0, M1⟩ := (goodF_iff _).1 hgf
        obtain ⟨T0, T1, _⟩ := (okFS_iff _ _).1 HHS.out
        have LL := sq_le L0 L1
        have RR := sq_le R0 R1
        have hz5 : w.heap.size ≤ wr.heap.size := hsz
        have hfz : w5.frozen? ⟨wr.heap.size, 0, none⟩ = false := by
          rw [hb5.frozen (p := ⟨wr.heap.size, 0, none⟩) (by simp)]
          simp [go_sem]
        have hfz1 : w5.frozen? ⟨wr.heap.size, 1, none⟩ = false := by
          rw [hb5.frozen (p := ⟨wr.heap.size, 1, none⟩) (by simp)]
          simp [go_sem]
        clear hb5 hb5' HHS hgf
        have hH : heatF (F k) (S k) L = max ((S k).heat + L * L - (F k).rating * (F k).rating) 0 := rfl
        rw [hH] at HX
        clear hH
        obtain ⟨A, hA⟩ : ∃ A, L * L = A := ⟨_, rfl⟩
        obtain ⟨B, hB⟩ : ∃ B, (F k).rating * (F k).rating = B := ⟨_, rfl⟩
        rw [hA] at HX LL
        rw [hB] at HX RR
        obtain ⟨A0, A1⟩ := LL
        obtain ⟨B0, B1⟩ := RR
        have wA : IntKind.i64.wrap A = A := IntWalk.i64_in _ (by omega)
        have wB : IntKind.i64.wrap B = B := IntWalk.i64_in _ (by omega)
        have wH : IntKind.i64.wrap ((S k).heat + A) = (S k).heat + A := IntWalk.i64_in _ (by omega)
        have wZ : IntKind.i64.wrap ((S k).heat + A - B) = (S k).heat + A - B := IntWalk.i64_in _ (by omega)
        by_cases z0 : (S k).heat + A - B ≤ 0
        · have HM := Lib.hid (show max ((S k).heat + A - B) 0 = 0 by omega)
          rw [HM.out, if_neg (by omega)] at HX
          have HT := Lib.hid HX
          clear HX HM
          go_wp2_with fail
          go_still_tail 20, (by kernel_rfl)
          change wpList _ _ _ _ _ w5.drew
          have K0 : w5.drew.cell? ⟨wr.heap.size, 0, none⟩ = some (.int .i64 (S k).heat) := k0
          have K1 : w5.drew.cell? ⟨wr.heap.size, 1, none⟩ = some (.bool false) := k1
          have E0 : w5.drew.cell? ⟨g1, o1 + k * 2, none⟩ = some (.int .i64 (F k).rating) := e0
          have E1 : w5.drew.cell? ⟨g1, o1 + k * 2 + 1, none⟩ = some (.int .i64 (F k).limit) := e1
          have K2 : wr.heap.size < w5.drew.heap.size := k2
          have FZ : w5.drew.frozen? ⟨wr.heap.size, 0, none⟩ = false := hfz
          have FZ1 : w5.drew.frozen? ⟨wr.heap.size, 1, none⟩ = false := hfz1
          have HBD := Lib.hid (Below.drew HB5.out)
          have HRD := Lib.hid (show w5.drew.ownsRow w.heap.size 83 2 _ k (flat FS.cells (tickF n F c C S x) k) from HR5.out)
          clear k0 k1 k2 e0 e1 hfz hfz1 HB5 HR5
          generalize w5.drew = wd at *
          go_wp2_with fail
          go_quiet (fail)
          go_wp2_with (at_builtin; refine wpList_append_own _ rfl _ _ 64 rfl w.heap.size 83 i0 _ 2 16 Try.underlying64 hi hz0 hz1 hz2 rfl (by decide) _ k (flat FS.cells (tickF n F c C S x) k) rfl ?dh _ 1 1 (FS.cells ⟨0, false⟩) rfl rfl ?d0 ?d2 ?d3 ?d4 ?d5 ?d6)
          case dh => exact (ownsRow_of_block HRD.out (fun g hg => blk_setCell_other _ _ _ _ (Nat.ne_of_lt (HRL.out g hg)))).alloc _
          case d0 =>
            intro j u hu
            have := box_at (wd.setCell ⟨wr.heap.size, 0, none⟩ (.int .i64 0)) ⟨0, false⟩ j u hu
            first | exact this | (rw [nblk_setCell] at this; exact this)
          case d2 => exact fs_one _
          case d3 => unfold maxLen; omega
          case d4 => omega
          case d5 => simp; omega
          intro v' w6 hown6 hgr6 _
          have HO := Lib.hid hown6
          have HG6 := Lib.hid hgr6
          clear hown6 hgr6
          go_wp2
          go_roundg (n - (k + 1))
          case measure => have := Hg.out; omega
          case rel => exact ⟨k + 1, by omega, rfl, by go_num, by rw [flat, HT.out]; exact HO.out, (Below.alloc (below_drewN (HBD.out.setCell hz5 _) _) (by simp; omega) _).grown HG6.out (by simp; omega) (fun q hq => (HR.out.lt q hq).1)⟩
        · have HM := Lib.hid (show max ((S k).heat + A - B) 0 = (S k).heat + A - B by omega)
          have z0' := Int.not_le.1 z0
          rw [HM.out] at HX
          by_cases z1 : (F k).limit < (S k).heat + A - B
          · rw [if_pos z1] at HX
            have HT := Lib.hid HX
            clear HX HM
            go_wp2_with fail
            go_still_tail 20, (by kernel_rfl)
            change wpList _ _ _ _ _ w5.drew
            have K0 : w5.drew.cell? ⟨wr.heap.size, 0, none⟩ = some (.int .i64 (S k).heat) := k0
            have K1 : w5.drew.cell? ⟨wr.heap.size, 1, none⟩ = some (.bool false) := k1
            have E0 : w5.drew.cell? ⟨g1, o1 + k * 2, none⟩ = some (.int .i64 (F k).rating) := e0
            have E1 : w5.drew.cell? ⟨g1, o1 + k * 2 + 1, none⟩ = some (.int .i64 (F k).limit) := e1
            have K2 : wr.heap.size < w5.drew.heap.size := k2
            have FZ : w5.drew.frozen? ⟨wr.heap.size, 0, none⟩ = false := hfz
            have FZ1 : w5.drew.frozen? ⟨wr.heap.size, 1, none⟩ = false := hfz1
            have HBD := Lib.hid (Below.drew HB5.out)
            have HRD := Lib.hid (show w5.drew.ownsRow w.heap.size 83 2 _ k (flat FS.cells (tickF n F c C S x) k) from HR5.out)
            clear k0 k1 k2 e0 e1 hfz hfz1 HB5 HR5
            generalize w5.drew = wd at *
            go_wp2_with fail
            go_quiet (fail)
            go_wp2_with (at_builtin; refine wpList_append_own _ rfl _ _ 64 rfl w.heap.size 83 i0 _ 2 16 Try.underlying64 hi hz0 hz1 hz2 rfl (by decide) _ k (flat FS.cells (tickF n F c C S x) k) rfl ?eh _ 1 1 (FS.cells ⟨0, true⟩) rfl rfl ?e0 ?e2 ?e3 ?e4 ?e5 ?e6)
            case eh => exact (ownsRow_of_block HRD.out (fun g hg => ((blk_setCell_other _ _ _ _ (Nat.ne_of_lt (HRL.out g hg))).trans (blk_setCell_other _ _ _ _ (Nat.ne_of_lt (HRL.out g hg)))).trans (blk_setCell_other _ _ _ _ (Nat.ne_of_lt (HRL.out g hg))))).alloc _
            case e0 =>
              intro j u hu
              have := box_at ((((wd.setCell ⟨wr.heap.size, 0, none⟩ (.int .i64 ((S k).heat + A - B))).drewN nq).setCell ⟨wr.heap.size, 0, none⟩ (.int .i64 0)).setCell ⟨wr.heap.size, 1, none⟩ (.bool true)) ⟨0, true⟩ j u hu
              rw [nblk_setCell, nblk_setCell, show ((wd.setCell ⟨wr.heap.size, 0, none⟩ (.int .i64 ((S k).heat + A - B))).drewN nq).heap.size = (wd.setCell ⟨wr.heap.size, 0, none⟩ (.int .i64 ((S k).heat + A - B))).heap.size from rfl, nblk_setCell] at this
              exact this
            case e2 => exact fs_one _
            case e3 => unfold maxLen; omega
            case e4 => omega
            case e5 => simp; omega
            intro v' w6 hown6 hgr6 _
            have HO := Lib.hid hown6
            have HG6 := Lib.hid hgr6
            clear hown6 hgr6
            go_wp2
            go_roundg (n - (k + 1))
            case measure => have := Hg.out; omega
            case rel => exact ⟨k + 1, by omega, rfl, by go_num, by rw [flat, HT.out]; exact HO.out, (Below.alloc (((below_drewN (HBD.out.setCell hz5 _) _).setCell hz5 _).setCell hz5 _) (by simp; omega) _).grown HG6.out (by simp; omega) (fun q hq => (HR.out.lt q hq).1)⟩
          · rw [if_neg z1] at HX
            have HT := Lib.hid HX
            have z1' := Int.not_lt.1 z1
            clear HX HM
            go_wp2_with fail
            go_still_tail 20, (by kernel_rfl)
            change wpList _ _ _ _ _ w5.drew
            have K0 : w5.drew.cell? ⟨wr.heap.size, 0, none⟩ = some (.int .i64 (S k).heat) := k0
            have K1 : w5.drew.cell? ⟨wr.heap.size, 1, none⟩ = some (.bool false) := k1
            have E0 : w5.drew.cell? ⟨g1, o1 + k * 2, none⟩ = some (.int .i64 (F k).rating) := e0
            have E1 : w5.drew.cell? ⟨g1, o1 + k * 2 + 1, none⟩ = some (.int .i64 (F k).limit) := e1
            have K2 : wr.heap.size < w5.drew.heap.size := k2
            have FZ : w5.drew.frozen? ⟨wr.heap.size, 0, none⟩ = false := hfz
            have FZ1 : w5.drew.frozen? ⟨wr.heap.size, 1, none⟩ = false := hfz1
            have HBD := Lib.hid (Below.drew HB5.out)
            have HRD := Lib.hid (show w5.drew.ownsRow w.heap.size 83 2 _ k (flat FS.cells (tickF n F c C S x) k) from HR5.out)
            clear k0 k1 k2 e0 e1 hfz hfz1 HB5 HR5
            generalize w5.drew = wd at *
            go_wp2_with fail
            go_quiet (fail)
            go_wp2_with (at_builtin; refine wpList_append_own _ rfl _ _ 64 rfl w.heap.size 83 i0 _ 2 16 Try.underlying64 hi hz0 hz1 hz2 rfl (by decide) _ k (flat FS.cells (tickF n F c C S x) k) rfl ?fh _ 1 1 (FS.cells ⟨(S k).heat + A - B, false⟩) rfl rfl ?f0 ?f2 ?f3 ?f4 ?f5 ?f6)
            case fh => exact (ownsRow_of_block HRD.out (fun g hg => blk_setCell_other _ _ _ _ (Nat.ne_of_lt (HRL.out g hg)))).alloc _
            case f0 =>
              intro j u hu
              have := box_at (wd.setCell ⟨wr.heap.size, 0, none⟩ (.int .i64 ((S k).heat + A - B))) ⟨(S k).heat + A - B, false⟩ j u hu
              first | exact this | (rw [nblk_setCell] at this; exact this)
            case f2 => exact fs_one _
            case f3 => unfold maxLen; omega
            case f4 => omega
            case f5 => simp; omega
            intro v' w6 hown6 hgr6 _
            have HO := Lib.hid hown6
            have HG6 := Lib.hid hgr6
            clear hown6 hgr6
            go_wp2
            go_roundg (n - (k + 1))
            case measure => have := Hg.out; omega
            case rel => exact ⟨k + 1, by omega, rfl, by go_num, by rw [flat, HT.out]; exact HO.out, (Below.alloc (below_drewN (HBD.out.setCell hz5 _) _) (by simp; omega) _).grown HG6.out (by simp; omega) (fun q hq => (HR.out.lt q hq).1)⟩
    · have b3 : decide ((k : Int) < (n : Int)) = false := by simp; omega
      have hkm' : k = n := by omega
      have HV := Lib.hid (Holds.of_owns fs_len HR.out)
      have HK := Lib.hid hkm'
      go_wp2
      go_ret3
      refine ⟨_, by rw [hlv]; rfl, ?_, Hb.out⟩
      have h := HV.out
      rw [hkm'] at h
      exact h

set_option maxHeartbeats 1600000 in
theorem rftick_arg (v1 v2 v3 : Value) (n m c : Nat) (F : Nat → Fuse) (C : Nat → Coil) (S : Nat → FS) (x : BitVec 32) (w : World) (hS : ¬ (StateF n F m S ∧ validE c C = 0))
    (h1 : HoldsF w v1 n F) (h2 : HoldsC w v2 c C) (h3 : HoldsT w v3 m S) :
    Calls Try.prog 56 #[v1, v2, v3, .int .u32 (W x)] w fun e w' => e = .returned (.tuple #[.slice none 0 0, .int .u32 0, .int .i64 1]) ∧ Below w.heap.size w w' := by
  obtain ⟨a1, cap1, rfl, _⟩ := id h1
  obtain ⟨a2, cap2, rfl, _⟩ := id h2
  obtain ⟨a3, cap3, rfl, _⟩ := id h3
  have H2 := Lib.hid h2
  by_cases hT : StateF n F m S
  · obtain ⟨E, hEE⟩ : ∃ E, validE c C = E := ⟨_, rfl⟩
    have hE : E ≠ 0 := fun h => hS ⟨hT, by rw [hEE, h]⟩
    have t1 : (E != 0) = true := by rw [bne_iff_ne]; exact hE
    have HEE := Lib.hid hEE
    have HS := Lib.hid (rfstate_yes hT _ h1 h3)
    clear h1 h2 h3 hS hT hEE hE
    go_enter Try.func56, Try.ntmps56
    go_wp2_with fail
    refine HS.out.mono ?_
    rintro e w1 ⟨rfl, hb1⟩
    have Hb1 := Lib.hid hb1
    clear hb1 HS
    go_wp2_with fail
    refine (rvalid_any _ c C _ (H2.out.below Hb1.out (Nat.le_refl _))).mono ?_
    rintro e w2 ⟨rfl, hb2⟩
    rw [HEE.out]
    have Hb2 := Lib.hid (Hb1.out.trans (hb2.mono Hb1.out.size))
    clear hb2 Hb1
    go_wp2
    go_ret3
    exact ⟨rfl, Hb2.out⟩
  · have HS := Lib.hid (rfstate_no hT _ h1 h3)
    clear h1 h2 h3 hS hT
    go_enter Try.func56, Try.ntmps56
    go_wp2_with fail
    refine HS.out.mono ?_
    rintro e w1 ⟨rfl, hb1⟩
    have Hb1 := Lib.hid hb1
    clear hb1 HS
    go_wp2
    go_ret3
    exact ⟨rfl, Hb1.out⟩
end Go.Proofs.Ytfgkljfoalgkaaa

