/-
  The walk of the law FuseSeparate: for all arguments it hands back true, and nothing that was there turns.
-/
import Derived.Test.YtfgkljfoalgkaaaFMono
import Derived.Test.YtfgkljfoalgkaaaFGood
import Derived.Test.YtfgkljfoalgkaaaFSane
import Derived.Deep.RegionHeld3
namespace Go.Proofs.Ytfgkljfoalgkaaa
open Go.RowKit
attribute [local go_sem] shr_min32 shl_min32 W_shr W_shr' W_shl W_shl' W_shl1 W_shl1n W_pow W_and W_or W_andNot W_and1 W_bit W_bit0

/-- The coils of one fuse. -/
def mineTo (C : Nat → Coil) (q : Int) : Nat → BitVec 32
  | 0 => 0#32
  | i + 1 => if ((C i).fuse == q) = true then mineTo C q i ||| 1#32 <<< i else mineTo C q i
theorem mineTo_bit (C : Nat → Coil) (q : Int) : ∀ n, n ≤ 32 → ∀ i, tb (mineTo C q n) i = (decide (i < n) && ((C i).fuse == q))
  | 0, _, i => by rw [mineTo, tb_zero]; simp
  | n + 1, h, i => by
    have ih := mineTo_bit C q n (by omega) i
    rw [mineTo]
    by_cases e : i = n
    · subst e
      cases hl : ((C i).fuse == q) with
      | true => rw [if_pos rfl, tb_or, tb_one _ _ (by omega)]; simp
      | false => rw [if_neg Bool.false_ne_true, ih]; simp
    · have e1 : decide (i < n + 1) = decide (i < n) := by rw [Bool.eq_iff_iff, decide_eq_true_eq, decide_eq_true_eq]; omega
      rw [e1]
      split
      · rw [tb_or, ih, tb_one _ _ (by omega)]; simp [e]
      · exact ih
theorem liveC_same {c : Coil} {m k : Nat} {S S' : Nat → FS} (hk : S k = S' k) (hc : c.fuse = k) : liveC c m S = liveC c m S' := by
  unfold liveC
  rw [hc]
  simp [hk]
theorem loadTo_same (C : Nat → Coil) {x y : BitVec 32} (q : Int) : ∀ n, (∀ i, i < n → (C i).fuse = q → tb x i = tb y i) → loadTo C x q n = loadTo C y q n
  | 0, _ => rfl
  | n + 1, h => by
    rw [loadTo, loadTo, loadTo_same C q n fun i hi => h i (by omega)]
    cases he : ((C n).fuse == q) with
    | true => rw [h n (by omega) (eq_of_beq he)]
    | false => simp
theorem sep_bits {c : Nat} {C : Nat → Coil} (hC : validE c C = 0) (m k : Nat) {S S' : Nat → FS} (hk : S k = S' k) (X : BitVec 32) :
    liveF c C m S X &&& mineTo C k c = liveF c C m S' (X &&& mineTo C k c) := by
  apply tb_ext
  intro i _
  have hm := mineTo_bit C k c (validE_zero hC).1 i
  rw [tb_and, liveF_bit hC, liveF_bit hC, tb_and, hm]
  cases he : ((C i).fuse == (k : Int)) with
  | false => simp
  | true => rw [liveC_same hk (eq_of_beq he)]; cases decide (i < c) <;> cases liveC (C i) m S' <;> cases tb X i <;> rfl
theorem sep_load {c : Nat} {C : Nat → Coil} (hC : validE c C = 0) (m k : Nat) {S S' : Nat → FS} (hk : S k = S' k) (X : BitVec 32) :
    loadF c C (liveF c C m S X) k = loadF c C (liveF c C m S' (X &&& mineTo C k c)) k := by
  unfold loadF
  rw [if_pos hC, if_pos hC]
  refine loadTo_same C k c fun i hi he => ?_
  rw [← sep_bits hC m k hk, tb_and, mineTo_bit C k c (validE_zero hC).1]
  simp [hi, he]
theorem sep_tick {n c : Nat} (F : Nat → Fuse) {C : Nat → Coil} (hC : validE c C = 0) (k : Nat) {S S' : Nat → FS} (hk : S k = S' k) (X : BitVec 32) :
    tickF n F c C S X k = tickF n F c C S' (X &&& mineTo C k c) k := by
  unfold tickF
  rw [sep_load hC n k hk, hk]
theorem w_cell2 {w : World} {g off n : Nat} {E : Nat → BitVec 32} (h : ∀ j, j < n → ∀ k u, (wcells (E j))[k]? = some u → w.cell? ⟨g, off + j * 1 + k, none⟩ = some u) {j : Nat} (hj : j < n) : w.cell? ⟨g, off + j, none⟩ = some (.int .u32 (W (E j))) := by
  have := h j hj 0 _ rfl
  rwa [Nat.mul_one, Nat.add_zero] at this
set_option maxRecDepth 100000 in
set_option maxHeartbeats 12800000 in
theorem fuseSeparate_walk (v1 v2 v3 : Value) (n c m : Nat) (F : Nat → Fuse) (C : Nat → Coil) (S : Nat → FS) (u : Value) (l : Nat) (X : Nat → BitVec 32) (p : Int) (w : World) (h1 : HoldsF w v1 n F) (h2 : HoldsC w v2 c C) (h3 : HoldsT w v3 m S) (h4 : HoldsW w u l X) (p0 : 0 ≤ p) (p1 : p ≤ 255) :
    Calls Try.prog 21 #[panel v1 v2 v3, u, .int .u8 p] w fun e w' => e = .returned (.bool true) ∧ Below w.heap.size w w' := by
  have HGood := Lib.hid (fun W0 => good57 v1 v2 v3 n c m F C S W0)
  obtain ⟨a1, k1, rfl, _⟩ := id h1
  obtain ⟨a2, k2, rfl, _⟩ := id h2
  obtain ⟨a3, k3, rfl, _⟩ := id h3
  obtain ⟨a4, k4, rfl, _⟩ := id h4
  have H1 := Lib.hid h1
  have H2 := Lib.hid h2
  have H3 := Lib.hid h3
  have H4 := Lib.hid h4
  clear h1 h2 h3 h4
  have hal := (Below.refl w.heap.size w).alloc (Nat.le_refl _) (.cells #[.slice a1 n k1, .slice a2 c k2, .slice a3 m k3] 66)
  go_enter Try.func21, Try.ntmps21
  go_wp2_with fail
  refine (HGood.out _ (H1.out.below hal (Nat.le_refl _)) (H2.out.below hal (Nat.le_refl _)) (H3.out.below hal (Nat.le_refl _))).mono ?_
  rintro e w1 ⟨g, rfl, hg, hb1⟩
  obtain ⟨y0, y1, y2, hlt, hB1⟩ := keep3 hb1
  have HB1 := Lib.hid hB1
  have HG := Lib.hid hg
  clear hb1 hB1 hg hal HGood
  cases g with
  | false =>
    go_wp2_with fail
    refine (fsane _).mono ?_
    rintro e w2 ⟨rfl, hb2⟩
    have HB := Lib.hid (HB1.out.trans (hb2.mono HB1.out.size))
    clear hb2
    go_wp2
    go_ret
    exact ⟨rfl, HB.out⟩
  | true =>
    by_cases hn0 : n = 0
    · have t0 : ((n : Int) == 0) = true := by simp; omega
      go_wp2_with fail
      refine (fsane _).mono ?_
      rintro e w2 ⟨rfl, hb2⟩
      have HB := Lib.hid (HB1.out.trans (hb2.mono HB1.out.size))
      clear hb2
      go_wp2
      go_ret
      exact ⟨rfl, HB.out⟩
    have t0 : ((n : Int) == 0) = false := by simp; omega
    by_cases hl : 100 < l
    · have t1 : decide (100 < (l : Int)) = true := by simp; omega
      go_wp2_with fail
      refine (fsane _).mono ?_
      rintro e w2 ⟨rfl, hb2⟩
      have HB := Lib.hid (HB1.out.trans (hb2.mono HB1.out.size))
      clear hb2
      go_wp2
      go_ret
      exact ⟨rfl, HB.out⟩
    have t1 : decide (100 < (l : Int)) = false := by simp; omega
    have hl100 : l ≤ 100 := by omega
    obtain ⟨_, hC, hS⟩ := HG.out.1 rfl
    have hmn := hS.2.1
    subst hmn
    have hm8 := (validFE_zero hS.1).1
    have hc32 := (validE_zero hC).1
    have HS := Lib.hid hS
    have HC := Lib.hid hC
    clear hS hC HG
    have n0 : (m : Int) ≠ 0 := by omega
    have n1 : (0 : Int) < (m : Int) := by omega
    obtain ⟨k, hk⟩ : ∃ k : Nat, p % (m : Int) = k := ⟨(p % (m : Int)).toNat, by have := Int.emod_nonneg p n0; omega⟩
    have hkm : k < m := by have := Int.emod_lt_of_pos p n1; omega
    have HKK := Lib.hid hk
    clear hk
    go_wp2
    rw [HKK.out]
    go_loopg [8, 9] c (fun gg s i wr => ∃ j : Nat, j ≤ c ∧ gg = c - j ∧ s = .int .u32 (W (mineTo C k j)) ∧ i = .int .i64 j ∧ wr = w1)
    case atStart => exact ⟨0, by omega, rfl, rfl, rfl, rfl⟩
    case round =>
      obtain ⟨j, hj, hgg, rfl, rfl, rfl⟩ := hrel
      have Hg := Lib.hid hgg
      clear hgg
      by_cases hjc : j < c
      · obtain ⟨g2, o2, rfl, l2, hc2⟩ := H2.out.open2 hjc
        obtain ⟨e0, e1, e2, e3, e4, e5⟩ := coil_cells (hc2 _ HB1.out) hjc
        have b1 : (0 : Int) ≤ (j : Int) := by omega
        have b2 : (j : Int) < (c : Int) := by omega
        have b3 : decide ((j : Int) < (c : Int)) = true := by simp; omega
        clear hc2
        cases he : ((C j).fuse == (k : Int)) with
        | true =>
          have HM := Lib.hid (show mineTo C k j ||| 1#32 <<< j = mineTo C k (j + 1) by rw [mineTo, if_pos he])
          go_wp2
          go_roundg (c - (j + 1))
          case measure => have := Hg.out; omega
          case rel => exact ⟨j + 1, by omega, rfl, by rw [← HM.out], by go_num, rfl⟩
        | false =>
          have HM := Lib.hid (show mineTo C k j = mineTo C k (j + 1) by rw [mineTo, if_neg (by rw [he]; exact Bool.false_ne_true)])
          go_wp2
          go_roundg (c - (j + 1))
          case measure => have := Hg.out; omega
          case rel => exact ⟨j + 1, by omega, rfl, by rw [← HM.out], by go_num, rfl⟩
      · have b3 : decide ((j : Int) < (c : Int)) = false := by simp; omega
        have hjc' : j = c := by omega
        rw [hjc']
        rw [hjc'] at b3
        clear hjc' hjc Hg hj
        obtain ⟨mn, hmn⟩ : ∃ mn, mineTo C k c = mn := ⟨_, rfl⟩
        rw [hmn]
        have HMN := Lib.hid hmn
        clear hmn
        go_wp2_with fail
        go_quiet (fail)
        have hbq := below_drewN HB1.out nq
        have HK := Lib.hid (show (wr.drewN nq).cell? ⟨w.heap.size, 0, none⟩ = some (.slice a1 m k1) ∧ (wr.drewN nq).cell? ⟨w.heap.size, 1, none⟩ = some (.slice a2 c k2) ∧ (wr.drewN nq).cell? ⟨w.heap.size, 2, none⟩ = some (.slice a3 m k3) ∧ w.heap.size < (wr.drewN nq).heap.size from ⟨y0, y1, y2, hlt⟩)
        have HBQ := Lib.hid hbq
        clear hbq y0 y1 y2 hlt
        generalize wr.drewN nq = wq at *
        go_wp2
        go_loopg [10, 11, 12] l (fun gg s t i wr => ∃ (j : Nat) (Sa Sb : Nat → FS), j ≤ l ∧ gg = l - j ∧ i = .int .i64 j ∧ HoldsT wr s m Sa ∧ HoldsT wr t m Sb ∧ StateF m F m Sa ∧ StateF m F m Sb ∧ Sa k = Sb k ∧ (wr.cell? ⟨w.heap.size, 0, none⟩ = some (.slice a1 m k1) ∧ wr.cell? ⟨w.heap.size, 1, none⟩ = some (.slice a2 c k2) ∧ wr.cell? ⟨w.heap.size, 2, none⟩ = some (.slice a3 m k3) ∧ w.heap.size < wr.heap.size) ∧ Below w.heap.size w wr)
        case atStart => exact ⟨0, S, S, by omega, rfl, rfl, H3.out.below HBQ.out (Nat.le_refl _), H3.out.below HBQ.out (Nat.le_refl _), HS.out, HS.out, rfl, HK.out, HBQ.out⟩
        case round =>
          clear HK HBQ HS
          obtain ⟨j, Sa, Sb, hj, hgg, rfl, hTa, hTb, hSa, hSb, hk, ⟨y0, y1, y2, hlt⟩, hb⟩ := hrel
          have Hg := Lib.hid hgg
          have Hb := Lib.hid hb
          have HSa := Lib.hid hSa
          have HSb := Lib.hid hSb
          have HKS := Lib.hid hk
          obtain ⟨aA, kA, rfl, _⟩ := id hTa
          obtain ⟨aB, kB, rfl, _⟩ := id hTb
          have HTa := Lib.hid hTa
          have HTb := Lib.hid hTb
          clear hgg hb hTa hTb hSa hSb hk
          by_cases hjl : j < l
          · obtain ⟨g4, o4, rfl, l4, hc4⟩ := H4.out.open2 hjl
            have c4 := w_cell2 (hc4 _ Hb.out) hjl
            have b4 : (0 : Int) ≤ (j : Int) := by omega
            have b5 : (j : Int) < (l : Int) := by omega
            have b6 : decide ((j : Int) < (l : Int)) = true := by simp; omega
            have hwg := Hb.out.size
            clear hc4
            have HCall := Lib.hid (fun (W0 : World) (hd : Below wr.heap.size wr W0) => ftick_ok (.slice a1 m k1) (.slice a2 c k2) (.slice aA m kA) m c F C Sa (X j) W0 HSa.out HC.out ((H1.out.below Hb.out (Nat.le_refl _)).below hd (Nat.le_refl _)) ((H2.out.below Hb.out (Nat.le_refl _)).below hd (Nat.le_refl _)) (HTa.out.below hd (Nat.le_refl _)))
            go_wp2_with fail
            go_region_held3 (fun w' => w'.cell? ⟨w.heap.size, 0, none⟩ = some (.slice a1 m k1) ∧ w'.cell? ⟨w.heap.size, 1, none⟩ = some (.slice a2 c k2) ∧ w'.cell? ⟨g4, o4 + j, none⟩ = some (.int .u32 (W (X j)))) (go_keep)
          (first
            | (go_at_call 55; refine (HCall.out _ (Below.refl _ wr).drew).mono ?_; rintro e w2 ⟨vt, rfl, hT2, hb2⟩
               obtain ⟨hcA, _⟩ := bcell hb2
               have y0' := hcA w.heap.size 0 (by simp; omega)
               have y1' := hcA w.heap.size 1 (by simp; omega)
               have y2' := hcA w.heap.size 2 (by simp; omega)
               have y3' := hcA g4 (o4 + j) (by simp; omega)))
            have z0 := y0'.trans y0
            have z1 := y1'.trans y1
            have z2 := y2'.trans y2
            have z3 := y3'.trans c4
            have hb2' : Below wr.heap.size wr w2 := (Below.refl _ wr).drew.trans hb2
            have HB2 := Lib.hid (Hb.out.trans (hb2'.mono Hb.out.size))
            have HT2 := Lib.hid hT2
            have HTb2 := Lib.hid (HTb.out.below hb2' (Nat.le_refl _))
            have hlt2 : w.heap.size < w2.heap.size := Nat.lt_of_lt_of_le hlt hb2'.size
            have hwg2 := HB2.out.size
            obtain ⟨aU, kU, rfl, _⟩ := id hT2
            clear y0' y1' y2' y3' hcA hb2 hb2' hT2 y0 y1 y2 hlt c4 HCall
            have HCall := Lib.hid (fun (W0 : World) (hd : Below w2.heap.size w2 W0) => ftick_ok (.slice a1 m k1) (.slice a2 c k2) (.slice aB m kB) m c F C Sb (X j &&& mn) W0 HSb.out HC.out ((H1.out.below HB2.out (Nat.le_refl _)).below hd (Nat.le_refl _)) ((H2.out.below HB2.out (Nat.le_refl _)).below hd (Nat.le_refl _)) (HTb2.out.below hd (Nat.le_refl _)))
            go_wp2_with fail
            go_region_held3 (fun w' => w'.cell? ⟨w.heap.size, 0, none⟩ = some (.slice a1 m k1) ∧ w'.cell? ⟨w.heap.size, 1, none⟩ = some (.slice a2 c k2) ∧ w'.cell? ⟨g4, o4 + j, none⟩ = some (.int .u32 (W (X j)))) (go_keep)
          (first
            | (go_at_call 55; refine (HCall.out _ (Below.refl _ w2).drew).mono ?_; rintro e w3 ⟨vt, rfl, hT2, hb2⟩
               obtain ⟨hcA, _⟩ := bcell hb2
               have y0' := hcA w.heap.size 0 (by simp; omega)
               have y1' := hcA w.heap.size 1 (by simp; omega)
               have y2' := hcA w.heap.size 2 (by simp; omega)
               have y3' := hcA g4 (o4 + j) (by simp; omega)))
            have x0 := y0'.trans z0
            have x1 := y1'.trans z1
            have x2 := y2'.trans z2
            have hb3' : Below w2.heap.size w2 w3 := (Below.refl _ w2).drew.trans hb2
            have HB3 := Lib.hid (HB2.out.trans (hb3'.mono HB2.out.size))
            have hTB := hT2
            have hTA := HT2.out.below hb3' (Nat.le_refl _)
            have hlt3 : w.heap.size < w3.heap.size := Nat.lt_of_lt_of_le hlt2 hb3'.size
            obtain ⟨aV, kV, rfl, _⟩ := id hTB
            have hsame : tickF m F c C Sa (X j) k = tickF m F c C Sb (X j &&& mn) k := by rw [← HMN.out]; exact sep_tick F HC.out k HKS.out (X j)
            have q1 : (W (liveF c C m Sa (X j) &&& mn) != W (liveF c C m Sb (X j &&& mn))) = false := by
              have h := sep_bits HC.out m k HKS.out (X j)
              rw [HMN.out] at h
              rw [h]; simp
            obtain ⟨g1, o1, rfl, l1, hc1⟩ := hTA.open2 hkm
            obtain ⟨g2, o2, rfl, l2, hc2⟩ := hTB.open2 hkm
            obtain ⟨d0, d1⟩ := fs_cells (hc1 _ (Below.refl _ _)) hkm
            obtain ⟨e0, e1⟩ := fs_cells (hc2 _ (Below.refl _ _)) hkm
            rw [← hsame] at e0 e1
            have HTA := Lib.hid hTA
            have HTB := Lib.hid hTB
            have HSM := Lib.hid hsame
            have HK3 := Lib.hid (And.intro x0 (And.intro x1 (And.intro x2 hlt3)))
            have b7 : (0 : Int) ≤ (k : Int) := by omega
            have b8 : (k : Int) < (m : Int) := by omega
            clear y0' y1' y2' y3' hcA hb2 hb3' hT2 z0 z1 z2 z3 hlt2 HCall hsame hTA hTB hc1 hc2 x1 x2
            go_wp2_with fail
            go_quiet (fail)
            go_wp2
            go_roundg (l - (j + 1))
            case measure => have := Hg.out; omega
            case rel => exact ⟨j + 1, _, _, by omega, rfl, by go_num, HTA.out, HTB.out, tickF_state (X j) HSa.out, tickF_state (X j &&& mn) HSb.out, HSM.out, HK3.out, below_drewN HB3.out _⟩
          · have b6 : decide ((j : Int) < (l : Int)) = false := by simp; omega
            go_wp2_with fail
            refine (fsane _).mono ?_
            rintro e w4 ⟨rfl, hb4⟩
            have HB := Lib.hid (Hb.out.trans (hb4.mono Hb.out.size))
            clear hb4
            go_wp2
            go_ret
            exact ⟨rfl, HB.out⟩
end Go.Proofs.Ytfgkljfoalgkaaa
