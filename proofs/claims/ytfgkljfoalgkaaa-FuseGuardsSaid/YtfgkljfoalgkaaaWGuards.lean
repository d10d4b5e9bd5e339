/-
  The walk of the law FuseGuards: for all arguments it hands back true, and nothing that was there turns.
-/
import Derived.Test.YtfgkljfoalgkaaaGuard
import Derived.Test.YtfgkljfoalgkaaaDSane2
import Derived.Test.YtfgkljfoalgkaaaFLoadR
import Derived.Deep.RegionHeld3
namespace Go.Proofs.Ytfgkljfoalgkaaa
open Go.RowKit Go.Deep
attribute [local go_sem] shr_min32 shl_min32 W_shr W_shr' W_shl W_shl' W_shl1 W_shl1n W_pow W_and W_or W_andNot W_and1 W_bit W_bit0

theorem w_cell3 {w : World} {g off n : Nat} {E : Nat → BitVec 32} (h : ∀ j, j < n → ∀ k u, (wcells (E j))[k]? = some u → w.cell? ⟨g, off + j * 1 + k, none⟩ = some u) {j : Nat} (hj : j < n) : w.cell? ⟨g, off + j, none⟩ = some (.int .u32 (W (E j))) := by
  have := h j hj 0 _ rfl
  rwa [Nat.mul_one, Nat.add_zero] at this
/-- The fuses that the first loop has laid. -/
def laidF (n : Nat) (C : Nat → Coil) (l : Int) (i : Nat) : Nat → Fuse := fun j => if j < i then guardF n C l j else ⟨0, 0⟩
theorem laidF_set (n : Nat) (C : Nat → Coil) (l : Int) (i j : Nat) : updT (laidF n C l i) i (guardF n C l i) j = laidF n C l (i + 1) j := by
  unfold updT laidF
  by_cases e : j = i
  · rw [if_pos e, if_pos (by omega), e]
  · rw [if_neg e]
    by_cases e' : j < i
    · rw [if_pos e', if_pos (by omega)]
    · rw [if_neg e', if_neg (by omega)]
set_option maxRecDepth 100000 in
set_option maxHeartbeats 12800000 in
theorem fuseGuards_walk (v1 v2 : Value) (n nt : Nat) (C : Nat → Coil) (L : Nat → OL) (l : Int) (w : World) (h1 : HoldsC w v1 n C) (h2 : HoldsL w v2 nt L) (l0 : 0 ≤ l) (l1 : l ≤ 65535) :
    Calls Try.prog 16 #[.agg #[v1, v2], .int .u16 l] w fun e w' => e = .returned (.bool true) ∧ Below w.heap.size w w' := by
  obtain ⟨a1, k1, rfl, _⟩ := id h1
  obtain ⟨a2, k2, rfl, _⟩ := id h2.1
  have H1 := Lib.hid h1
  have H2 := Lib.hid h2
  clear h1 h2
  obtain ⟨i0, hi, hz0, hz1, hz2⟩ := info_parts Try.info79
  obtain ⟨E, hEE⟩ : ∃ E, validE n C = E := ⟨_, rfl⟩
  have HE := Lib.hid hEE
  clear hEE
  have hal := (Below.refl w.heap.size w).alloc (Nat.le_refl _) (.cells #[.slice a1 n k1, .slice a2 nt k2] 76)
  go_enter Try.func16, Try.ntmps16
  try simp only [List.append_eq, List.cons_append, List.nil_append]
  go_wp2_with fail
  refine (dnew _ n C _ (H1.out.below hal (Nat.le_refl _))).mono ?_
  rintro e w1 ⟨vd, rfl, hD, hb1⟩
  rw [HE.out]
  rw [HE.out] at hD
  obtain ⟨y0, y1, hlt, hB1⟩ := keep2 hb1
  have HB1 := Lib.hid hB1
  have HD := Lib.hid hD
  clear hb1 hB1 hal hD
  by_cases hE : E = 0
  · subst hE
    have HD1 := Lib.hid (show HoldsD w1 vd n (fun _ => idle) from by have h := HD.out; rw [if_pos rfl] at h; exact h)
    clear HD
    by_cases hn : 150 < nt
    · have t1 : decide (150 < (nt : Int)) = true := by simp; omega
      go_wp2_with fail
      refine (fsane _).mono ?_
      rintro e w9 ⟨rfl, hb9⟩
      have HB9 := Lib.hid (HB1.out.trans (hb9.mono HB1.out.size))
      clear hb9
      go_wp2
      go_ret
      exact ⟨rfl, HB9.out⟩
    have t1 : decide (150 < (nt : Int)) = false := by simp; omega
    have hn150 : nt ≤ 150 := by omega
    go_wp2_with (refine wpList_make_rows _ rfl _ _ 63 rfl 79 i0 _ 2 Try.underlying63 hi hz0 hz1 .i64 .i64 8 rfl rfl (by rw [hz2]; omega) (by omega) ?_)
    have HR := Lib.hid (made_rowF w1 8)
    have HBM := Lib.hid (show Below w1.heap.size w1 (w1.alloc (.cells (madeCells #[.int .i64 0, .int .i64 0] (8 * 2)) 79)) from (Below.refl _ _).alloc (Nat.le_refl _) _)
    have HK1 := Lib.hid (And.intro y0 (And.intro y1 hlt))
    clear y0 y1 hlt
    generalize w1.alloc (.cells (madeCells #[.int .i64 0, .int .i64 0] (8 * 2)) 79) = w2 at *
    obtain ⟨g, hg⟩ : ∃ g, w1.heap.size = g := ⟨_, rfl⟩
    rw [hg] at HR
    have hgw : w1.heap.size ≤ g := by omega
    go_wp2
    rw [hg]
    clear hg
    go_loopg [8] 8 (fun gg i wr => ∃ j : Nat, j ≤ 8 ∧ gg = 8 - j ∧ i = .int .i64 j ∧ rowF wr g 8 (laidF n C l j) ∧ (∀ q : Nat, q < j → loadF n C 4294967295#32 q ≤ 400) ∧ Below w1.heap.size w1 wr)
    case atStart => exact ⟨0, by omega, rfl, rfl, HR.out.congr fun i _ => (if_neg (by omega)).symm, fun q hq => absurd hq (by omega), HBM.out⟩
    case round =>
      clear HR HBM
      obtain ⟨j, hj, hgg, rfl, hR, hq4, hb⟩ := hrel
      have Hg := Lib.hid hgg
      have HR := Lib.hid hR
      have HQ := Lib.hid hq4
      have Hb := Lib.hid hb
      have hlg := hR.lt
      obtain ⟨y0, y1, hlt2⟩ := keep2' hb HK1.out
      have Hbw := Lib.hid (HB1.out.trans (hb.mono HB1.out.size))
      clear hgg hR hq4 hb
      by_cases hj8 : j < 8
      · have b1 : (0 : Int) ≤ (j : Int) := by omega
        have b2 : (j : Int) < 8 := by omega
        have b3 : decide ((j : Int) < 8) = true := by simp; omega
        have hld := rfload (.slice a1 n k1) n C 4294967295#32 j wr (H1.out.below Hbw.out (Nat.le_refl _))
        rw [W_all] at hld
        have HLD := Lib.hid hld
        clear hld
        go_wp2_with fail
        refine HLD.out.mono ?_
        rintro e w5 ⟨rfl, hb5⟩
        have HB5 := Lib.hid (Hb.out.trans (hb5.mono Hb.out.size))
        have hR5 := HR.out.below hb5 hlg
        obtain ⟨R, hRR⟩ : ∃ R, loadF n C 4294967295#32 j = R := ⟨_, rfl⟩
        have r0 : w5.cell? ⟨g, j * 2, none⟩ = some (.int .i64 0) := hR5.at hj8 (k := 0) (by simp [laidF, Fuse.cells])
        have r1 : w5.cell? ⟨g, j * 2 + 1, none⟩ = some (.int .i64 0) := hR5.at hj8 (k := 1) (by simp [laidF, Fuse.cells])
        have f0 := hR5.fz (j * 2)
        have f1 := hR5.fz (j * 2 + 1)
        have HR5 := Lib.hid hR5
        have hg5 := hR5.lt
        have HRR := Lib.hid hRR
        rw [hRR]
        clear hb5 hR5 hRR y0 y1
        have HBX := Lib.hid (show Below w1.heap.size w1 ((w5.setCell ⟨g, j * 2, none⟩ (.int .i64 R)).setCell ⟨g, j * 2 + 1, none⟩ (.int .i64 l)) from Below.setCell (Below.setCell HB5.out hgw _) hgw _)
        by_cases h4 : 400 < R
        · have t4 : decide (400 < R) = true := decide_eq_true h4
          go_wp2_with fail
          refine (fsane _).mono ?_
          rintro e w9 ⟨rfl, hb9⟩
          have HB9 := Lib.hid (HB1.out.trans ((HBX.out.trans (hb9.mono HBX.out.size)).mono HB1.out.size))
          clear hb9
          go_wp2
          go_ret
          exact ⟨rfl, HB9.out⟩
        · have t4 : decide (400 < R) = false := decide_eq_false h4
          have HX := Lib.hid (rowF.set2 HR5.out hj8 ⟨R, l⟩)
          have HL := Lib.hid (fun i => (show updT (laidF n C l j) j ⟨R, l⟩ i = laidF n C l (j + 1) i from by rw [← laidF_set, ← HRR.out]; rfl))
          go_wp2
          go_roundg (8 - (j + 1))
          case measure => have := Hg.out; omega
          case rel => exact ⟨j + 1, by omega, rfl, by go_num, HX.out.congr fun i _ => HL.out i, fun q hq => by
            by_cases e : q = j
            · rw [e, HRR.out]; omega
            · exact HQ.out q (by omega), HBX.out⟩
      · have b3 : decide ((j : Int) < 8) = false := by simp; omega
        have hj' : j = 8 := by omega
        subst hj'
        have HF := Lib.hid ((HR.out.holds 8).congr (f' := guardF n C l) fun i hi => if_pos hi)
        have HST := Lib.hid (guard_state l0 l1 HQ.out)
        have HK2 := Lib.hid (And.intro y0 (And.intro y1 hlt2))
        clear HR HQ
        go_wp2
        go_loopg [9] nt (fun gg i wx => ∃ t : Nat, t ≤ nt ∧ gg = nt - t ∧ i = .int .i64 t ∧ (∀ q, q < t → (L q).n ≤ 20) ∧ wx = wr)
        case atStart => exact ⟨0, by omega, rfl, rfl, fun q hq => absurd hq (by omega), rfl⟩
        case round =>
          obtain ⟨t, ht, hgt, rfl, hq2, rfl⟩ := hrel
          have Hgt := Lib.hid hgt
          have HQ2 := Lib.hid hq2
          clear hgt hq2
          by_cases htn : t < nt
          · obtain ⟨g3, o3, rfl, l3, hc3⟩ := H2.out.1.open2 htn
            have c3 := list_cell (hc3 _ Hbw.out) htn
            have b4 : (0 : Int) ≤ (t : Int) := by omega
            have b5 : (t : Int) < (nt : Int) := by omega
            have b6 : decide ((t : Int) < (nt : Int)) = true := by simp; omega
            clear hc3
            by_cases h20 : 20 < (L t).n
            · have t5 : decide (20 < ((L t).n : Int)) = true := by simp; omega
              go_wp2_with fail
              refine (fsane _).mono ?_
              rintro e w9 ⟨rfl, hb9⟩
              have HB9 := Lib.hid (Hbw.out.trans (hb9.mono Hbw.out.size))
              clear hb9
              go_wp2
              go_ret
              exact ⟨rfl, HB9.out⟩
            · have t5 : decide (20 < ((L t).n : Int)) = false := by simp; omega
              have h20' : (L t).n ≤ 20 := by omega
              have H20 := Lib.hid h20'
              clear h20 h20'
              go_wp2
              go_roundg (nt - (t + 1))
              case measure => have := Hgt.out; omega
              case rel => exact ⟨t + 1, by omega, rfl, by go_num, fun q hq => by
                by_cases e : q = t
                · rw [e]; exact H20.out
                · exact HQ2.out q (by omega), rfl⟩
          · have b6 : decide ((t : Int) < (nt : Int)) = false := by simp; omega
            have HLN := Lib.hid (show ∀ q, q < nt → (L q).n ≤ 4096 from fun q hq => by have := HQ2.out q (by omega); omega)
            clear HQ2
            go_wp2_with fail
            refine (run_ok tickC _ _ _ n n nt C (fun _ => idle) L _ (idle_state HE.out) (H1.out.below Hbw.out (Nat.le_refl _)) (HD1.out.below Hb.out (Nat.le_refl _)) (H2.out.below Hbw.out (Nat.le_refl _)) (by omega) HLN.out).mono ?_
            rintro e w5 ⟨vr, vs, rfl, _, hW, hb5⟩
            obtain ⟨z0, z1, hlt5⟩ := keep2' hb5 HK2.out
            have HB5 := Lib.hid (Hbw.out.trans (hb5.mono Hbw.out.size))
            have HF5 := Lib.hid (HF.out.below hb5 (Nat.le_refl _))
            obtain ⟨a4, k4, rfl, _⟩ := id hW
            have HW5 := Lib.hid hW
            clear hb5 hW y0 y1
            go_wp2_with fail
            refine (fnew _ 8 (guardF n C l) _ HF5.out).mono ?_
            rintro e w6 ⟨vt, rfl, hT, hb6⟩
            rw [HST.out.1]
            rw [HST.out.1, if_pos rfl] at hT
            obtain ⟨x0, x1, hlt6⟩ := keep2' hb6 ⟨z0, z1, hlt5⟩
            have HB6 := Lib.hid (HB5.out.trans (hb6.mono HB5.out.size))
            have HF6 := Lib.hid (HF5.out.below hb6 (Nat.le_refl _))
            have HW6 := Lib.hid (HW5.out.below hb6 (Nat.le_refl _))
            have HT6 := Lib.hid (show HoldsT w6 vt 8 cold8 from hT)
            have HK6 := Lib.hid (And.intro x0 (And.intro x1 hlt6))
            clear hb6 hT z0 z1 HF5 HW5 HF
            go_wp2
            go_loopg [13, 15] nt (fun gg s i wr => ∃ t : Nat, t ≤ nt ∧ gg = nt - t ∧ i = .int .i64 t ∧ HoldsT wr s 8 cold8 ∧ Below w6.heap.size w6 wr)
            case atStart => exact ⟨0, by omega, rfl, rfl, HT6.out, Below.refl _ _⟩
            case round =>
              obtain ⟨t, ht, hgt, rfl, hT, hb⟩ := hrel
              have Hgt := Lib.hid hgt
              have Hb7 := Lib.hid hb
              have Hw7 := Lib.hid (HB6.out.trans (hb.mono HB6.out.size))
              obtain ⟨x0, x1, hlt7⟩ := keep2' hb HK6.out
              obtain ⟨aT, kT, rfl, _⟩ := id hT
              have HT := Lib.hid hT
              clear hgt hb hT
              by_cases htn : t < nt
              · obtain ⟨g4, o4, rfl, l4, hc4⟩ := HW6.out.open2 htn
                have c4 := w_cell3 (hc4 _ Hb7.out) htn
                have b4 : (0 : Int) ≤ (t : Int) := by omega
                have b5 : (t : Int) < (nt : Int) := by omega
                have b6 : decide ((t : Int) < (nt : Int)) = true := by simp; omega
                have hwg := Hb7.out.size
                clear hc4
                obtain ⟨X, hX⟩ : ∃ X, setAt n C (fun _ => idle) L t = X := ⟨_, rfl⟩
                have hlive : liveF n C 8 cold8 X = X := by rw [← hX]; exact live_sets HE.out _ 8
                rw [hX] at c4
                clear hX
                have HCall := Lib.hid (fun (W0 : World) (hd : Below wr.heap.size wr W0) => ftick_ok (.slice (some ⟨g, 0, none⟩) 8 8) (.slice a1 n k1) (.slice aT 8 kT) 8 n (guardF n C l) C cold8 X W0 HST.out HE.out ((HF6.out.below Hb7.out (Nat.le_refl _)).below hd (Nat.le_refl _)) ((H1.out.below Hw7.out (Nat.le_refl _)).below hd (Nat.le_refl _)) (HT.out.below hd (Nat.le_refl _)))
                go_wp2_with fail
                go_region_held3 (fun w' => w'.cell? ⟨w.heap.size, 0, none⟩ = some (.slice a1 n k1) ∧ w'.cell? ⟨g4, o4 + t, none⟩ = some (.int .u32 (W X))) (go_keep)
                  (first
                    | (go_at_call 55; refine (HCall.out _ (Below.refl _ wr).drew).mono ?_; rintro e w8 ⟨vu, rfl, hT2, hb2⟩
                       obtain ⟨hcA, _⟩ := bcell hb2
                       have y0' := hcA w.heap.size 0 (by simp; omega)
                       have y1' := hcA w.heap.size 1 (by simp; omega)
                       have y3' := hcA g4 (o4 + t) (by simp; omega)))
                have z0 := y0'.trans x0
                have z1 := y1'.trans x1
                have z3 := y3'.trans c4
                have hb8 : Below wr.heap.size wr w8 := (Below.refl _ wr).drew.trans hb2
                have HB8 := Lib.hid (Hb7.out.trans (hb8.mono Hb7.out.size))
                have hcold := hT2.congr (f' := cold8) fun i _ => guard_tick HE.out l0 X i
                obtain ⟨aU, kU, rfl, _⟩ := id hcold
                have HT8 := Lib.hid hcold
                have q1 : (W (liveF n C 8 cold8 X) != W X) = false := by rw [hlive]; simp
                clear y0' y1' y3' hcA hb2 hb8 hT2 hcold x0 x1 c4 HCall HT z0 z1 hlive
                go_wp2
                go_loopg [19] 8 (fun gg i wx => ∃ q : Nat, q ≤ 8 ∧ gg = 8 - q ∧ i = .int .i64 q ∧ wx = w8)
                case atStart => exact ⟨0, by omega, rfl, rfl, rfl⟩
                case round =>
                  obtain ⟨q, hq, hgq, rfl, rfl⟩ := hrel
                  have Hgq := Lib.hid hgq
                  clear hgq
                  by_cases hq8 : q < 8
                  · obtain ⟨g5, o5, rfl, l5, hc5⟩ := HT8.out.open2 hq8
                    obtain ⟨d0, d1⟩ := fs_cells (hc5 _ (Below.refl _ _)) hq8
                    have d0' : wr.cell? ⟨g5, o5 + q * 2, none⟩ = some (.int .i64 0) := d0
                    have d1' : wr.cell? ⟨g5, o5 + q * 2 + 1, none⟩ = some (.bool false) := d1
                    have b7 : (0 : Int) ≤ (q : Int) := by omega
                    have b8 : (q : Int) < 8 := by omega
                    have b9 : decide ((q : Int) < 8) = true := by simp; omega
                    clear hc5 d0 d1
                    go_wp2
                    go_roundg (8 - (q + 1))
                    case measure => have := Hgq.out; omega
                    case rel => exact ⟨q + 1, by omega, rfl, by go_num, rfl⟩
                  · have b9 : decide ((q : Int) < 8) = false := by simp; omega
                    go_wp2
                    go_roundg (nt - (t + 1))
                    case measure => have := Hgt.out; omega
                    case rel => exact ⟨t + 1, by omega, rfl, by go_num, HT8.out, HB8.out⟩
              · have b6 : decide ((t : Int) < (nt : Int)) = false := by simp; omega
                go_wp2_with fail
                refine (fsane _).mono ?_
                rintro e w9 ⟨rfl, hb9⟩
                have HB9 := Lib.hid (Hw7.out.trans (hb9.mono Hw7.out.size))
                clear hb9
                go_wp2
                go_ret
                exact ⟨rfl, HB9.out⟩
  · have t1 : (E != 0) = true := by rw [bne_iff_ne]; exact hE
    go_wp2_with fail
    refine (fsane _).mono ?_
    rintro e w9 ⟨rfl, hb9⟩
    have HB9 := Lib.hid (HB1.out.trans (hb9.mono HB1.out.size))
    clear hb9
    go_wp2
    go_ret
    exact ⟨rfl, HB9.out⟩
end Go.Proofs.Ytfgkljfoalgkaaa
