/-
  fuse.Tick: the states behind a tick and the live coils, for states of valid fuses and valid coils.
-/
import Derived.Test.YtfgkljfoalgkaaaFState
import Derived.Test.YtfgkljfoalgkaaaFLoad
import Derived.Test.YtfgkljfoalgkaaaFLive
namespace Go.Proofs.Ytfgkljfoalgkaaa
open Go.RowKit

theorem sq_le {a b : Int} (h0 : 0 ≤ a) (h1 : a ≤ b) : 0 ≤ a * a ∧ a * a ≤ b * b :=
  ⟨Int.mul_nonneg h0 h0, Int.mul_le_mul h1 h1 h0 (Int.le_trans h0 h1)⟩
theorem loadF_le (n : Nat) (C : Nat → Coil) (x : BitVec 32) (q : Int) : 0 ≤ loadF n C x q ∧ loadF n C x q ≤ 6400 := by
  unfold loadF
  split
  · rename_i h
    have := loadTo_le C x q n (validE_zero h).2
    have := (validE_zero h).1
    omega
  · decide
/-- What a boxed struct of two cells reads behind a call. -/
theorem keep2 {w w1 : World} {a b : Value} {t : TypeId} (hb : Below (w.alloc (.cells #[a, b] t)).heap.size (w.alloc (.cells #[a, b] t)) w1) :
    w1.cell? ⟨w.heap.size, 0, none⟩ = some a ∧ w1.cell? ⟨w.heap.size, 1, none⟩ = some b ∧ w.heap.size < w1.heap.size ∧ Below w.heap.size w w1 := by
  have h : w.heap.size < (w.alloc (.cells #[a, b] t)).heap.size := by simp
  refine ⟨?_, ?_, Nat.lt_of_lt_of_le h hb.size, ((Below.refl _ _).alloc (Nat.le_refl _) _).trans (hb.mono (Nat.le_of_lt h))⟩
  · rw [hb.cell (p := ⟨w.heap.size, 0, none⟩) h]; simp [go_sem]
  · rw [hb.cell (p := ⟨w.heap.size, 1, none⟩) h]; simp [go_sem]
/-- The states that the loop has laid. -/
def tickTo (T S : Nat → FS) (k : Nat) : Nat → FS := fun i => if i < k then T i else S i
theorem tickTo_keep {T S : Nat → FS} {k : Nat} (h : T k = S k) (i : Nat) : tickTo T S k i = tickTo T S (k + 1) i := by
  unfold tickTo
  by_cases e : i = k
  · rw [if_neg (by omega), if_pos (by omega), e, h]
  · by_cases e' : i < k
    · rw [if_pos e', if_pos (by omega)]
    · rw [if_neg e', if_neg (by omega)]
theorem tickTo_set {T S : Nat → FS} {k : Nat} {X : FS} (h : T k = X) (i : Nat) : updT (tickTo T S k) k X i = tickTo T S (k + 1) i := by
  unfold updT tickTo
  by_cases e : i = k
  · rw [if_pos e, if_pos (by omega), e, h]
  · rw [if_neg e]
    by_cases e' : i < k
    · rw [if_pos e', if_pos (by omega)]
    · rw [if_neg e', if_neg (by omega)]
theorem updT_twice {S : Nat → FS} {k : Nat} {X Y : FS} (i : Nat) : updT (updT S k X) k Y i = updT S k Y i := by
  unfold updT
  by_cases e : i = k
  · rw [if_pos e, if_pos e]
  · rw [if_neg e, if_neg e, if_neg e]
set_option maxRecDepth 100000 in
set_option maxHeartbeats 6400000 in
theorem ftick_ok (v1 v2 v3 : Value) (n c : Nat) (F : Nat → Fuse) (C : Nat → Coil) (S : Nat → FS) (x : BitVec 32) (w : World) (hS : StateF n F n S) (hC : validE c C = 0)
    (h1 : HoldsF w v1 n F) (h2 : HoldsC w v2 c C) (h3 : HoldsT w v3 n S) :
    Calls Try.prog 55 #[v1, v2, v3, .int .u32 (W x)] w fun e w' => ∃ v', e = .returned (.tuple #[v', .int .u32 (W (liveF c C n S x)), .int .i64 0]) ∧ HoldsT w' v' n (tickF n F c C S x) ∧ Below w.heap.size w w' := by
  obtain ⟨a1, cap1, rfl, _⟩ := id h1
  obtain ⟨a2, cap2, rfl, _⟩ := id h2
  obtain ⟨a3, cap3, rfl, _⟩ := id h3
  have hn8 := (validFE_zero hS.1).1
  have HG := Lib.hid (validFE_zero hS.1).2
  have HF := Lib.hid hS.2.2
  have HC := Lib.hid hC
  have H1 := Lib.hid h1
  have H2 := Lib.hid h2
  have H3 := Lib.hid h3
  have HS := Lib.hid (fstate_yes hS _ h1 h3)
  clear h1 h2 h3 hS hC
  go_enter Try.func55, Try.ntmps55
  go_wp2_with fail
  refine HS.out.mono ?_
  rintro e w1 ⟨rfl, hb1⟩
  have Hb1 := Lib.hid hb1
  clear hb1 HS
  go_wp2_with fail
  refine (valid_any _ c C _ (H2.out.below Hb1.out (Nat.le_refl _))).mono ?_
  rintro e w2 ⟨rfl, hb2⟩
  rw [HC.out]
  have Hb2 := Lib.hid (Hb1.out.trans (hb2.mono Hb1.out.size))
  clear hb2 Hb1
  go_wp2_with fail
  refine (flive _ _ c n C S x _ (H2.out.below Hb2.out (Nat.le_refl _)) (H3.out.below Hb2.out (Nat.le_refl _))).mono ?_
  rintro e w3 ⟨rfl, hb3⟩
  have Hb3 := Lib.hid (Hb2.out.trans (hb3.mono Hb2.out.size))
  clear hb3 Hb2
  go_wp2_with fail
  refine (clone_fs _ n S _ (by omega) (H3.out.below Hb3.out (Nat.le_refl _))).mono ?_
  rintro e w4 ⟨v', rfl, hown, hb4⟩
  have Hb4 := Lib.hid (Hb3.out.trans (hb4.mono Hb3.out.size))
  rcases Nat.eq_zero_or_pos n with hn0 | hn0
  · subst hn0
    have HV := Lib.hid (Holds.of_owns fs_len hown)
    clear hown hb4
    go_wp2
    go_loopg [34] 0 (fun gg i wr => gg = 0 ∧ i = .int .i64 0 ∧ wr = w4)
    case atStart => exact ⟨rfl, rfl, rfl⟩
    case round =>
      obtain ⟨_, rfl, rfl⟩ := hrel
      go_wp2
      go_ret3
      exact ⟨_, rfl, HV.out.congr fun i hi => absurd hi (by omega), Hb4.out⟩
  obtain ⟨g, cap, rfl, hg, hR⟩ := rowT.of_owns hown hn0
  have HR := Lib.hid (hR.congr (E' := tickTo (tickF n F c C S x) S 0) fun i _ => (if_neg (by omega)).symm)
  have hwg : w.heap.size ≤ g := Nat.le_trans Hb3.out.size hg
  clear hown hb4 hg hR Hb3
  obtain ⟨lv, hlv⟩ : ∃ lv, liveF c C n S x = lv := ⟨_, rfl⟩
  rw [hlv]
  go_wp2
  go_loopg [34] n (fun gg i wr => ∃ k : Nat, k ≤ n ∧ gg = n - k ∧ i = .int .i64 k ∧ rowT wr g n (tickTo (tickF n F c C S x) S k) ∧ Below w.heap.size w wr)
  case atStart => exact ⟨0, by omega, rfl, rfl, HR.out, Hb4.out⟩
  case round =>
    clear HR Hb4
    obtain ⟨k, hk, hgg, rfl, hR, hb⟩ := hrel
    have Hg := Lib.hid hgg
    have HR := Lib.hid hR
    have Hb := Lib.hid hb
    have hsz := hb.size
    have hlg := hR.lt
    clear hgg hR hb
    by_cases hkn : k < n
    · obtain ⟨g1, o1, rfl, l1, hc1⟩ := H1.out.open2 hkn
      obtain ⟨g3, o3, rfl, l3, hc3⟩ := H3.out.open2 hkn
      obtain ⟨d0, d1⟩ := fs_cells (hc3 _ Hb.out) hkn
      have b1 : (0 : Int) ≤ (k : Int) := by omega
      have b2 : (k : Int) < (n : Int) := by omega
      have b3 : decide ((k : Int) < (n : Int)) = true := by simp; omega
      have lw1 : g1 < wr.heap.size := by omega
      have lw3 : g3 < wr.heap.size := by omega
      have HC1 := Lib.hid hc1
      clear hc1 hc3
      cases hbl : (S k).blown with
      | true =>
        have HT := Lib.hid (tickTo_keep (T := tickF n F c C S x) (S := S) (k := k) (by unfold tickF stepF; rw [if_pos hbl]))
        rw [hbl] at d1
        go_wp2
        go_roundg (n - (k + 1))
        case measure => have := Hg.out; omega
        case rel => exact ⟨k + 1, by omega, rfl, by go_num, (HR.out.alloc _).congr fun i _ => HT.out i, Hb.out.alloc hsz _⟩
      | false =>
        have hx : tickF n F c C S x k = if (F k).limit < heatF (F k) (S k) (loadF c C lv k) then ⟨0, true⟩ else ⟨heatF (F k) (S k) (loadF c C lv k), false⟩ := by
          unfold tickF stepF
          rw [hbl, if_neg Bool.false_ne_true, hlv]
        have HHS := Lib.hid (HF.out k hkn)
        have hgf := HG.out k hkn
        rw [hbl] at d1
        go_wp2_with fail
        refine (fload _ c C lv k _ ?hold).mono ?_
        case hold => exact H2.out.below (Hb.out.alloc hsz _) (Nat.le_refl _)
        rintro e w5 ⟨rfl, hb5⟩
        obtain ⟨k0, k1, k2, hb5'⟩ := keep2 hb5
        have hR5 := HR.out.below hb5' hlg
        have HB5 := Lib.hid (Hb.out.trans (hb5'.mono hsz))
        obtain ⟨e0, e1⟩ := fuse_cells (HC1.out _ HB5.out) hkn
        obtain ⟨L0, L1⟩ := loadF_le c C lv k
        obtain ⟨L, hL⟩ : ∃ L, loadF c C lv k = L := ⟨_, rfl⟩
        rw [hL] at L0 L1 ⊢
        have HX := hx
        rw [hL] at HX
        clear hx
        obtain ⟨R0, R1, M0, M1⟩ := (goodF_iff _).1 hgf
        obtain ⟨T0, T1, _⟩ := (okFS_iff _ _).1 HHS.out
        have LL := sq_le L0 L1
        have RR := sq_le R0 R1
        have f0 := hR5.fz (k * 2)
        have f1 := hR5.fz (k * 2 + 1)
        have r0 : w5.cell? ⟨g, k * 2, none⟩ = some (.int .i64 (S k).heat) := hR5.at hkn (k := 0) (by simp [tickTo, FS.cells])
        have r1 : w5.cell? ⟨g, k * 2 + 1, none⟩ = some (.bool false) := hR5.at hkn (k := 1) (by simp [tickTo, FS.cells, hbl])
        clear hb5 hb5' HHS hgf
        have HR5 := Lib.hid hR5
        clear hR5
        have hH : heatF (F k) (S k) L = max ((S k).heat + L * L - (F k).rating * (F k).rating) 0 := rfl
        rw [hH] at HX
        clear hH
        by_cases z0 : (S k).heat + L * L - (F k).rating * (F k).rating < 0
        · have HT := Lib.hid (tickTo_set (S := S) (HX.trans (if_neg (by omega))))
          have HM := Lib.hid (show max ((S k).heat + L * L - (F k).rating * (F k).rating) 0 = 0 by omega)
          clear HX
          go_wp2_with fail
          go_quiet (fail)
          go_wp2
          go_roundg (n - (k + 1))
          case measure => have := Hg.out; omega
          case rel => exact ⟨k + 1, by omega, rfl, by go_num, (rowT.set2 (w := w5.drewN _) HR5.out hkn ⟨0, false⟩).congr fun i _ => by rw [← HT.out i, HM.out], (((below_drewN HB5.out _).setCell hwg _).setCell hwg _)⟩
        · have HM := Lib.hid (show max ((S k).heat + L * L - (F k).rating * (F k).rating) 0 = (S k).heat + L * L - (F k).rating * (F k).rating by omega)
          rw [HM.out] at HX
          by_cases z1 : (F k).limit < (S k).heat + L * L - (F k).rating * (F k).rating
          · have HT := Lib.hid (tickTo_set (S := S) (HX.trans (if_pos z1)))
            have z0' := Int.not_lt.1 z0
            clear HX HM
            go_wp2_with fail
            go_quiet (fail)
            go_wp2
            go_roundg (n - (k + 1))
            case measure => have := Hg.out; omega
            case rel => exact ⟨k + 1, by omega, rfl, by go_num, (rowT.set2 (rowT.set2 (w := w5.drewN _) HR5.out hkn ⟨_, false⟩) hkn ⟨0, true⟩).congr fun i _ => (updT_twice i).trans (HT.out i), (((((below_drewN HB5.out _).setCell hwg _).setCell hwg _).setCell hwg _).setCell hwg _)⟩
          · have HT := Lib.hid (tickTo_set (S := S) (HX.trans (if_neg z1)))
            have z0' := Int.not_lt.1 z0
            have z1' := Int.not_lt.1 z1
            clear HX HM
            go_wp2_with fail
            go_quiet (fail)
            go_wp2
            go_roundg (n - (k + 1))
            case measure => have := Hg.out; omega
            case rel => exact ⟨k + 1, by omega, rfl, by go_num, (rowT.set2 (w := w5.drewN _) HR5.out hkn ⟨_, false⟩).congr fun i _ => HT.out i, (((below_drewN HB5.out _).setCell hwg _).setCell hwg _)⟩
    · have b3 : decide ((k : Int) < (n : Int)) = false := by simp; omega
      have hkm' : k = n := by omega
      have HV := Lib.hid ((HR.out.holds cap).congr (f' := tickF n F c C S x) fun i hi => if_pos (by omega))
      clear hkm'
      go_wp2
      go_ret3
      exact ⟨_, by rw [hlv]; rfl, HV.out, Hb.out⟩
set_option maxHeartbeats 1600000 in
theorem ftick_arg (v1 v2 v3 : Value) (n m c : Nat) (F : Nat → Fuse) (C : Nat → Coil) (S : Nat → FS) (x : BitVec 32) (w : World) (hS : ¬ (StateF n F m S ∧ validE c C = 0))
    (h1 : HoldsF w v1 n F) (h2 : HoldsC w v2 c C) (h3 : HoldsT w v3 m S) :
    Calls Try.prog 55 #[v1, v2, v3, .int .u32 (W x)] w fun e w' => e = .returned (.tuple #[.slice none 0 0, .int .u32 0, .int .i64 1]) ∧ Below w.heap.size w w' := by
  obtain ⟨a1, cap1, rfl, _⟩ := id h1
  obtain ⟨a2, cap2, rfl, _⟩ := id h2
  obtain ⟨a3, cap3, rfl, _⟩ := id h3
  have H2 := Lib.hid h2
  by_cases hT : StateF n F m S
  · obtain ⟨E, hEE⟩ : ∃ E, validE c C = E := ⟨_, rfl⟩
    have hE : E ≠ 0 := fun h => hS ⟨hT, by rw [hEE, h]⟩
    have t1 : (E != 0) = true := by rw [bne_iff_ne]; exact hE
    have HEE := Lib.hid hEE
    have HS := Lib.hid (fstate_yes hT _ h1 h3)
    clear h1 h2 h3 hS hT hEE hE
    go_enter Try.func55, Try.ntmps55
    go_wp2_with fail
    refine HS.out.mono ?_
    rintro e w1 ⟨rfl, hb1⟩
    have Hb1 := Lib.hid hb1
    clear hb1 HS
    go_wp2_with fail
    refine (valid_any _ c C _ (H2.out.below Hb1.out (Nat.le_refl _))).mono ?_
    rintro e w2 ⟨rfl, hb2⟩
    rw [HEE.out]
    have Hb2 := Lib.hid (Hb1.out.trans (hb2.mono Hb1.out.size))
    clear hb2 Hb1
    go_wp2
    go_ret3
    exact ⟨rfl, Hb2.out⟩
  · have HS := Lib.hid (fstate_no hT _ h1 h3)
    clear h1 h2 h3 hS hT
    go_enter Try.func55, Try.ntmps55
    go_wp2_with fail
    refine HS.out.mono ?_
    rintro e w1 ⟨rfl, hb1⟩
    have Hb1 := Lib.hid hb1
    clear hb1 HS
    go_wp2
    go_ret3
    exact ⟨rfl, Hb1.out⟩
end Go.Proofs.Ytfgkljfoalgkaaa
