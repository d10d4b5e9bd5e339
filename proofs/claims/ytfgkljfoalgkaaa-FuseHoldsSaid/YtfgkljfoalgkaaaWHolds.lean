/-
  The walk of the law FuseHolds: for all arguments it hands back true, and nothing that was there turns.
-/
import Derived.Test.YtfgkljfoalgkaaaFMono
import Derived.Test.YtfgkljfoalgkaaaFGood
import Derived.Test.YtfgkljfoalgkaaaFSane
import Derived.Test.YtfgkljfoalgkaaaFLoadR
import Derived.Deep.RegionHeld3
namespace Go.Proofs.Ytfgkljfoalgkaaa
open Go.RowKit
attribute [local go_sem] shr_min32 shl_min32 W_shr W_shr' W_shl W_shl' W_shl1 W_shl1n W_pow W_and W_or W_andNot W_and1 W_bit W_bit0 Later.cell

theorem hold_step {f : Fuse} {s : FS} {L : Int} (hs : okFS f s = true) (hb : s.blown = false) (h0 : 0 ≤ L) (hL : L ≤ f.rating) : (stepF f s L).blown = false ∧ (stepF f s L).heat ≤ s.heat := by
  have h1 := (sq_le h0 hL).2
  obtain ⟨t0, t1, _⟩ := (okFS_iff f s).1 hs
  have h2 : heatF f s L ≤ s.heat := by unfold heatF; omega
  unfold stepF
  rw [hb, if_neg Bool.false_ne_true, if_neg (by omega)]
  exact ⟨rfl, h2⟩
theorem loadTo_none (C : Nat → Coil) (x : BitVec 32) (q : Int) : ∀ n, (∀ i, i < n → (tb x i && ((C i).fuse == q)) = false) → loadTo C x q n = 0
  | 0, _ => rfl
  | n + 1, h => by
    rw [loadTo, h n (by omega), if_neg Bool.false_ne_true]
    exact loadTo_none C x q n fun i hi => h i (by omega)
theorem load_dead {c : Nat} {C : Nat → Coil} (hC : validE c C = 0) (m : Nat) (S : Nat → FS) (x : BitVec 32) {k : Nat} (hk : k < m) (hb : (S k).blown = true) : loadF c C (liveF c C m S x) k = 0 := by
  unfold loadF
  rw [if_pos hC]
  refine loadTo_none C _ k c fun i hi => ?_
  rw [liveF_bit hC]
  cases he : ((C i).fuse == (k : Int)) with
  | false => simp
  | true =>
    have e := eq_of_beq he
    have : liveC (C i) m S = false := by
      unfold liveC
      rw [e]
      simp [hb]
      omega
    rw [this]; simp
theorem live_in {c : Nat} {C : Nat → Coil} (hC : validE c C = 0) (m : Nat) (S : Nat → FS) (x : BitVec 32) : liveF c C m S x &&& ~~~ x = 0#32 := by
  apply tb_ext
  intro i _
  rw [tb_andNot, tb_zero, liveF_bit hC]
  cases tb x i <;> simp
theorem w_cell' {w : World} {g off n : Nat} {E : Nat → BitVec 32} (h : ∀ j, j < n → ∀ k u, (wcells (E j))[k]? = some u → w.cell? ⟨g, off + j * 1 + k, none⟩ = some u) {j : Nat} (hj : j < n) : w.cell? ⟨g, off + j, none⟩ = some (.int .u32 (W (E j))) := by
  have := h j hj 0 _ rfl
  rwa [Nat.mul_one, Nat.add_zero] at this
set_option maxRecDepth 100000 in
set_option maxHeartbeats 12800000 in
theorem fuseHolds_walk (v1 v2 v3 : Value) (n c m : Nat) (F : Nat → Fuse) (C : Nat → Coil) (S : Nat → FS) (u : Value) (l : Nat) (X : Nat → BitVec 32) (w : World) (h1 : HoldsF w v1 n F) (h2 : HoldsC w v2 c C) (h3 : HoldsT w v3 m S) (h4 : HoldsW w u l X) :
    Calls Try.prog 18 #[panel v1 v2 v3, u] w fun e w' => e = .returned (.bool true) ∧ Below w.heap.size w w' := by
  have HGood := Lib.hid (fun W0 => good57 v1 v2 v3 n c m F C S W0)
  obtain ⟨a1, k1, rfl, _⟩ := id h1
  obtain ⟨a2, k2, rfl, _⟩ := id h2
  obtain ⟨a3, k3, rfl, _⟩ := id h3
  obtain ⟨a4, k4, rfl, _⟩ := id h4
  have H1 := Lib.hid h1
  have H2 := Lib.hid h2
  have H3 := Lib.hid h3
  have H4 := Lib.hid h4
  clear h1 h2 h3 h4
  have hal := (Below.refl w.heap.size w).alloc (Nat.le_refl _) (.cells #[.slice a1 n k1, .slice a2 c k2, .slice a3 m k3] 66)
  go_enter Try.func18, Try.ntmps18
  go_wp2_with fail
  refine (HGood.out _ (H1.out.below hal (Nat.le_refl _)) (H2.out.below hal (Nat.le_refl _)) (H3.out.below hal (Nat.le_refl _))).mono ?_
  rintro e w1 ⟨g, rfl, hg, hb1⟩
  obtain ⟨y0, y1, y2, hlt, hB1⟩ := keep3 hb1
  have HB1 := Lib.hid hB1
  have HG := Lib.hid hg
  clear hb1 hB1 hg hal HGood
  cases g with
  | false =>
    go_wp2_with fail
    refine (fsane _).mono ?_
    rintro e w2 ⟨rfl, hb2⟩
    have HB := Lib.hid (HB1.out.trans (hb2.mono HB1.out.size))
    clear hb2
    go_wp2
    go_ret
    exact ⟨rfl, HB.out⟩
  | true =>
    by_cases hl : 200 < l
    · have t1 : decide (200 < (l : Int)) = true := by simp; omega
      go_wp2_with fail
      refine (fsane _).mono ?_
      rintro e w2 ⟨rfl, hb2⟩
      have HB := Lib.hid (HB1.out.trans (hb2.mono HB1.out.size))
      clear hb2
      go_wp2
      go_ret
      exact ⟨rfl, HB.out⟩
    have t1 : decide (200 < (l : Int)) = false := by simp; omega
    have hl200 : l ≤ 200 := by omega
    obtain ⟨_, hC, hS⟩ := HG.out.1 rfl
    have hmn := hS.2.1
    subst hmn
    have hn8 := (validFE_zero hS.1).1
    have HV := Lib.hid (validFE_zero hS.1).2
    have HS := Lib.hid hS
    have HC := Lib.hid hC
    have HK := Lib.hid (And.intro y0 (And.intro y1 (And.intro y2 hlt)))
    clear hS hC HG
    go_wp2
    go_loopg [5, 6] l (fun gg s i wr => ∃ (k : Nat) (Sk : Nat → FS), k ≤ l ∧ gg = l - k ∧ i = .int .i64 k ∧ HoldsT wr s m Sk ∧ StateF m F m Sk ∧ (wr.cell? ⟨w.heap.size, 0, none⟩ = some (.slice a1 m k1) ∧ wr.cell? ⟨w.heap.size, 1, none⟩ = some (.slice a2 c k2) ∧ wr.cell? ⟨w.heap.size, 2, none⟩ = some (.slice a3 m k3) ∧ w.heap.size < wr.heap.size) ∧ Below w.heap.size w wr)
    case atStart => exact ⟨0, S, by omega, rfl, rfl, H3.out.below HB1.out (Nat.le_refl _), HS.out, HK.out, HB1.out⟩
    case round =>
      clear HK HB1 HS y0 y1 y2 hlt
      obtain ⟨k, Sk, hk, hgg, rfl, hT, hSk, ⟨y0, y1, y2, hlt⟩, hb⟩ := hrel
      have Hg := Lib.hid hgg
      have Hb := Lib.hid hb
      have HSk := Lib.hid hSk
      obtain ⟨aT, kT, rfl, _⟩ := id hT
      have HT := Lib.hid hT
      clear hgg hb hT hSk
      by_cases hkl : k < l
      · obtain ⟨g4, o4, rfl, l4, hc4⟩ := H4.out.open2 hkl
        have c4 := w_cell' (hc4 _ Hb.out) hkl
        have b1 : (0 : Int) ≤ (k : Int) := by omega
        have b2 : (k : Int) < (l : Int) := by omega
        have b3 : decide ((k : Int) < (l : Int)) = true := by simp; omega
        have HC4 := Lib.hid hc4
        have hwg := Hb.out.size
        clear hc4
        have HCall := Lib.hid (fun (W0 : World) (hd : Below wr.heap.size wr W0) => ftick_ok (.slice a1 m k1) (.slice a2 c k2) (.slice aT m kT) m c F C Sk (X k) W0 HSk.out HC.out ((H1.out.below Hb.out (Nat.le_refl _)).below hd (Nat.le_refl _)) ((H2.out.below Hb.out (Nat.le_refl _)).below hd (Nat.le_refl _)) (HT.out.below hd (Nat.le_refl _)))
        go_wp2_with fail
        go_region_held3 (fun w' => w'.cell? ⟨w.heap.size, 0, none⟩ = some (.slice a1 m k1) ∧ w'.cell? ⟨w.heap.size, 1, none⟩ = some (.slice a2 c k2) ∧ w'.cell? ⟨g4, o4 + k, none⟩ = some (.int .u32 (W (X k)))) (go_keep)
          (first
            | (go_at_call 55; refine (HCall.out _ (Below.refl _ wr).drew).mono ?_; rintro e w2 ⟨vt, rfl, hT2, hb2⟩
               obtain ⟨hcA, _⟩ := bcell hb2
               have y0' := hcA w.heap.size 0 (by simp; omega)
               have y1' := hcA w.heap.size 1 (by simp; omega)
               have y2' := hcA w.heap.size 2 (by simp; omega)
               have y3' := hcA g4 (o4 + k) (by simp; omega)))
        have z0 := y0'.trans y0
        have z1 := y1'.trans y1
        have z2 := y2'.trans y2
        have z3 := y3'.trans c4
        have hb2' : Below wr.heap.size wr w2 := (Below.refl _ wr).drew.trans hb2
        have HB2 := Lib.hid (Hb.out.trans (hb2'.mono Hb.out.size))
        have HTT := Lib.hid hT2
        have HTS := Lib.hid (HT.out.below hb2' (Nat.le_refl _))
        have hlt2 : w.heap.size < w2.heap.size := Nat.lt_of_lt_of_le hlt hb2'.size
        have q1 : (W (liveF c C m Sk (X k) &&& ~~~ X k) != 0) = false := by rw [live_in HC.out]; rfl
        obtain ⟨aU, kU, rfl, _⟩ := id hT2
        have HK2 := Lib.hid (And.intro z0 (And.intro z1 (And.intro z2 hlt2)))
        clear y0' y1' y2' y3' hcA hb2 hb2' hT2 y0 y1 y2 hlt c4 HCall HT
        obtain ⟨lv, hlv⟩ : ∃ lv, liveF c C m Sk (X k) = lv := ⟨_, rfl⟩
        rw [hlv] at q1 ⊢
        have HLV := Lib.hid hlv
        clear hlv
        go_wp2
        go_loopg [10] m (fun gg i wx => ∃ j : Nat, j ≤ m ∧ gg = m - j ∧ i = .int .i64 j ∧ Below w2.heap.size w2 wx)
        case atStart => exact ⟨0, by omega, rfl, rfl, Below.refl _ _⟩
        case round =>
          obtain ⟨j, hj, hgj, rfl, hbx⟩ := hrel
          have Hgj := Lib.hid hgj
          have Hbx := Lib.hid hbx
          have hwx : w2.heap.size ≤ wr.heap.size := hbx.size
          clear hgj hbx
          by_cases hjm : j < m
          · obtain ⟨g1, o1, rfl, l1, hc1⟩ := HTS.out.open2 hjm
            obtain ⟨g2, o2, rfl, l2, hc2⟩ := HTT.out.open2 hjm
            obtain ⟨g3, o3, rfl, l3, hc3⟩ := H1.out.open2 hjm
            obtain ⟨d0, d1⟩ := fs_cells (hc1 _ Hbx.out) hjm
            obtain ⟨e0, e1⟩ := fs_cells (hc2 _ Hbx.out) hjm
            obtain ⟨f0, f1⟩ := fuse_cells (hc3 _ (HB2.out.trans (Hbx.out.mono HB2.out.size))) hjm
            obtain ⟨x0, x1, x2, hltx⟩ := keep3' Hbx.out HK2.out
            have b4 : (0 : Int) ≤ (j : Int) := by omega
            have b5 : (j : Int) < (m : Int) := by omega
            have b6 : decide ((j : Int) < (m : Int)) = true := by simp; omega
            have lw1 : g1 < wr.heap.size := by omega
            have lw2 : g2 < wr.heap.size := by omega
            have lw3 : g3 < wr.heap.size := by omega
            clear hc1 hc2 hc3
            have HLD := Lib.hid (fun z : Later wr => rfload (.slice a2 c k2) c C lv j z.w (((H2.out.below HB2.out (Nat.le_refl _)).below Hbx.out (Nat.le_refl _)).below z.h (Nat.le_refl _)))
            have hstep : tickF m F c C Sk (X k) j = stepF (F j) (Sk j) (loadF c C lv j) := by unfold tickF; rw [HLV.out]
            have hok := HSk.out.2.2 j hjm
            have hL0 := (loadF_le c C lv j).1
            cases hbl : (Sk j).blown with
            | true =>
              have hT : tickF m F c C Sk (X k) j = Sk j := by rw [hstep]; unfold stepF; rw [if_pos hbl]
              have hL : loadF c C lv j = 0 := by rw [← HLV.out]; exact load_dead HC.out m Sk (X k) hjm hbl
              rw [hbl] at d1
              rw [hT, hbl] at e1
              have HLL := Lib.hid hL
              clear hT hL hstep hok hL0 hbl e0 d0
              have t2 : ((0 : Int) != 0) = false := rfl
              go_wp2_with fail
              go_quiet (fail)
              go_wp2_with fail
              refine (rfload (.slice a2 c k2) c C lv j _ ?_).mono ?_
              · exact ((H2.out.below HB2.out (Nat.le_refl _)).below Hbx.out (Nat.le_refl _)).below (below_drewN (Below.refl _ _) _) (Nat.le_refl _)
              rintro e w6 ⟨rfl, hb6⟩
              rw [HLL.out]
              have HB6 := Lib.hid (show Below w2.heap.size w2 w6 from (below_drewN Hbx.out _).trans (hb6.mono Hbx.out.size))
              clear hb6
              go_wp2
              go_roundg (m - (j + 1))
              case measure => have := Hgj.out; omega
              case rel => exact ⟨j + 1, by omega, rfl, by go_num, HB6.out⟩
            | false =>
              rw [hbl] at d1
              obtain ⟨L, hL⟩ : ∃ L, loadF c C lv j = L := ⟨_, rfl⟩
              rw [hL] at hstep hL0
              have HLL := Lib.hid hL
              by_cases hLR : L ≤ (F j).rating
              · obtain ⟨hs1, hs2⟩ := hold_step hok hbl hL0 hLR
                rw [← hstep] at hs1 hs2
                rw [hs1] at e1
                obtain ⟨p, hp⟩ : ∃ p, (tickF m F c C Sk (X k) j).heat = p := ⟨_, rfl⟩
                rw [hp] at e0 hs2
                obtain ⟨q, hq⟩ : ∃ q, (Sk j).heat = q := ⟨_, rfl⟩
                rw [hq] at d0 hs2
                have t2 : decide (L ≤ (F j).rating) = true := decide_eq_true hLR
                have t3 : decide (q < p) = false := by simp; omega
                have HLD2 := Lib.hid (fun z : Later wr => (HLD.out z).mono (fun _ _ h => show _ = Ending.returned (Value.int .i64 L) ∧ _ from by rw [← HLL.out]; exact h))
                clear hs1 hp hq hstep hok hL0 hL hbl
                go_wp2_with fail
                refine wp_region_later (by kernel_rfl) (by kernel_rfl) ?_
                repeat (go_big_quiet_step ((go_at_call 52; exact Later.of (HLD2.out _))))
                refine wpQuiet_nil ?_
                rintro _ ⟨z, rfl⟩
                have d1' : z.w.cell? ⟨g1, o1 + j * 2 + 1, none⟩ = some (.bool false) := (Later.cell z _ _ _ lw1).trans d1
                have HB6 := Lib.hid (Hbx.out.trans (z.h.mono Hbx.out.size))
                go_wp2
                go_roundg (m - (j + 1))
                case measure => have := Hgj.out; omega
                case rel => exact ⟨j + 1, by omega, rfl, by go_num, HB6.out⟩
              · have t2 : decide (L ≤ (F j).rating) = false := decide_eq_false hLR
                have HLD2 := Lib.hid (fun z : Later wr => (HLD.out z).mono (fun _ _ h => show _ = Ending.returned (Value.int .i64 L) ∧ _ from by rw [← HLL.out]; exact h))
                clear hstep hok hL0 hL hbl
                go_wp2_with fail
                refine wp_region_later (by kernel_rfl) (by kernel_rfl) ?_
                repeat (go_big_quiet_step ((go_at_call 52; exact Later.of (HLD2.out _))))
                refine wpQuiet_nil ?_
                rintro _ ⟨z, rfl⟩
                have d1' : z.w.cell? ⟨g1, o1 + j * 2 + 1, none⟩ = some (.bool false) := (Later.cell z _ _ _ lw1).trans d1
                have HB6 := Lib.hid (Hbx.out.trans (z.h.mono Hbx.out.size))
                go_wp2
                go_roundg (m - (j + 1))
                case measure => have := Hgj.out; omega
                case rel => exact ⟨j + 1, by omega, rfl, by go_num, HB6.out⟩
          · have b6 : decide ((j : Int) < (m : Int)) = false := by simp; omega
            go_wp2
            go_roundg (l - (k + 1))
            case measure => have := Hg.out; omega
            case rel => exact ⟨k + 1, _, by omega, rfl, by go_num, HTT.out.below Hbx.out (Nat.le_refl _), tickF_state (X k) HSk.out, keep3' Hbx.out HK2.out, HB2.out.trans (Hbx.out.mono HB2.out.size)⟩
      · have b3 : decide ((k : Int) < (l : Int)) = false := by simp; omega
        go_wp2_with fail
        refine (fsane _).mono ?_
        rintro e w4 ⟨rfl, hb4⟩
        have HB := Lib.hid (Hb.out.trans (hb4.mono Hb.out.size))
        clear hb4
        go_wp2
        go_ret
        exact ⟨rfl, HB.out⟩
end Go.Proofs.Ytfgkljfoalgkaaa
