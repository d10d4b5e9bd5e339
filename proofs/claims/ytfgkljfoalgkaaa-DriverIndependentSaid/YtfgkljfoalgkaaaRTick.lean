/-
  pinballref23.Tick: the drives at the next tick and the set, for drives of valid coils; the error else.
-/
import Derived.Test.YtfgkljfoalgkaaaRNext
import Derived.Test.YtfgkljfoalgkaaaRunW
import Derived.Deep.RegionHeld3
import Derived.Deep.AppendLies
namespace Go.Proofs.Ytfgkljfoalgkaaa
open Go.RowKit Go.Deep
attribute [local go_sem] shr_min32 shl_min32 W_shr W_shr' W_shl W_shl' W_shl1 W_shl1n W_pow W_and W_or W_andNot W_and1 W_bit W_bit0

theorem owns_fresh {w : World} {base : Nat} {e : TypeId} {size : Nat} {v : Value} {n : Nat} {xs : List Value} (h : w.ownsRow base e size v n xs) : Fresh base v :=
  fun a _ _ hv => (h.lt a.block (by rw [hv]; rfl)).1
theorem rtick_arg (v1 v2 : Value) (n m : Nat) (C : Nat → Coil) (D : Nat → Drive) (w : World) (hS : ¬ StateP n C m D) (h1 : HoldsC w v1 n C) (h2 : HoldsD w v2 m D) :
    Calls Try.prog 36 #[v1, v2] w fun e w' => e = .returned (.tuple #[.slice none 0 0, .int .u32 0, .int .i64 1]) ∧ Below w.heap.size w w' := by
  have HC := Lib.hid (ristate_no hS _ h1 h2)
  clear h1 h2
  go_enter Try.func36, Try.ntmps36
  go_wp2_with fail
  refine HC.out.mono ?_
  rintro e w1 ⟨rfl, hb1⟩
  have Hb1 := Lib.hid hb1
  clear hb1
  go_wp2
  go_ret3
  exact ⟨rfl, Hb1.out⟩
set_option maxRecDepth 100000 in
set_option maxHeartbeats 12800000 in
theorem rtick_fresh (v1 v2 : Value) (n m : Nat) (C : Nat → Coil) (D : Nat → Drive) (w : World) (hS : StateP n C m D) (h1 : HoldsC w v1 n C) (h2 : HoldsD w v2 m D) :
    Calls Try.prog 36 #[v1, v2] w fun e w' => ∃ v', e = .returned (.tuple #[v', .int .u32 (W (setTo C D m)), .int .i64 0]) ∧ HoldsD w' v' m (nextAll C D) ∧ Fresh w.heap.size v' ∧ Below w.heap.size w w' := by
  obtain ⟨a1, cap1, rfl, _⟩ := id h1
  obtain ⟨a2, cap2, rfl, _⟩ := id h2
  have hmn := hS.2.1
  subst hmn
  have hn32 := (validE_zero hS.1).1
  have HG := Lib.hid (validE_zero hS.1).2
  have HF := Lib.hid hS.2.2
  have HC := Lib.hid (ristate_yes hS _ h1 h2)
  have H1 := Lib.hid h1
  have H2 := Lib.hid h2
  clear h1 h2 hS
  obtain ⟨i0, hi, hz0, hz1, hz2⟩ := info_parts Try.info34
  go_enter Try.func36, Try.ntmps36
  go_wp2_with fail
  refine HC.out.mono ?_
  rintro e w1 ⟨rfl, hb1⟩
  have Hb1 := Lib.hid hb1
  clear hb1 HC
  go_wp2
  go_loopg [7, 8, 9] m (fun gg s q i wr => ∃ k : Nat, k ≤ m ∧ gg = m - k ∧ i = .int .i64 k ∧ q = .int .u32 (W (setTo C D k)) ∧ wr.ownsRow w.heap.size 34 3 s k (flat Drive.cells (nextAll C D) k) ∧ Below w.heap.size w wr)
  case atStart => exact ⟨0, by omega, rfl, rfl, rfl, World.ownsRow_nil _ _ _ _, Hb1.out⟩
  case round =>
    clear Hb1
    obtain ⟨k, hk, hgg, rfl, rfl, hR, hb⟩ := hrel
    have Hg := Lib.hid hgg
    have HR := Lib.hid hR
    have Hb := Lib.hid hb
    have hsz := hb.size
    clear hgg hR hb
    by_cases hkm : k < m
    · obtain ⟨g1, o1, rfl, l1, hc1⟩ := H1.out.open2 hkm
      obtain ⟨g2, o2, rfl, l2, hc2⟩ := H2.out.open2 hkm
      obtain ⟨e0, e1, e2, e3, e4, e5⟩ := coil_cells (hc1 _ Hb.out) hkm
      obtain ⟨d0, d1, d2⟩ := drive_cells (hc2 _ Hb.out) hkm
      have hgood := HG.out k hkm
      have hfit := HF.out k hkm
      have b1 : (0 : Int) ≤ (k : Int) := by omega
      have b2 : (k : Int) < (m : Int) := by omega
      have b3 : decide ((k : Int) < (m : Int)) = true := by simp; omega
      have lw1 : g1 < wr.heap.size := by omega
      have lw2 : g2 < wr.heap.size := by omega
      have hph := fits_phase hfit
      have HN0 := (fun W0 => rnext (C k).pulse (C k).on (C k).off (C k).rest (C k).fuse (C k).cur (D k).phase (D k).left (D k).held W0 hgood hfit)
      have HN := Lib.hid (show ∀ W0, Calls Try.prog 71 #[.agg #[.int .i64 (C k).pulse, .int .i64 (C k).on, .int .i64 (C k).off, .int .i64 (C k).rest, .int .i64 (C k).fuse, .int .i64 (C k).cur], .agg #[.int .i64 (D k).phase, .int .i64 (D k).left, .bool (D k).held]] W0 fun e w' => e = .returned (.agg #[.int .i64 (nextAll C D k).phase, .int .i64 (nextAll C D k).left, .bool (nextAll C D k).held]) ∧ Below W0.heap.size W0 w' from HN0)
      clear HN0 hgood hfit
      obtain ⟨xp, xl, xh, hx⟩ : ∃ xp xl xh, nextAll C D k = ⟨xp, xl, xh⟩ := ⟨_, _, _, rfl⟩
      rw [hx] at HN
      simp only at HN
      have HXS := Lib.hid (show flat Drive.cells (nextAll C D) (k + 1) = flat Drive.cells (nextAll C D) k ++ [.int .i64 xp, .int .i64 xl, .bool xh] by rw [flat, hx]; rfl)
      clear hx
      obtain ⟨XS, hXS⟩ : ∃ XS, flat Drive.cells (nextAll C D) k = XS := ⟨_, rfl⟩
      rw [hXS] at HXS HR
      clear hXS
      obtain ⟨ph, lf, hh, hDk⟩ : ∃ ph lf hh, D k = ⟨ph, lf, hh⟩ := ⟨_, _, _, rfl⟩
      rw [hDk] at d0 d1 d2 HN hph
      simp only at d0 d1 d2 HN hph
      replace hph : ph = 0 ∨ ph = 1 ∨ ph = 2 ∨ ph = 3 := by rcases hph with h | h | h | h <;> simp [h.1]
      rcases hph with rfl | rfl | rfl | rfl
      · have hon : onB (C k) (D k) = false := by rw [hDk]; rfl
        have HS2 := Lib.hid (show setTo C D k = setTo C D (k + 1) by rw [setTo, if_neg (by rw [hon]; exact Bool.false_ne_true)])
        have HCC := Lib.hid (show ∀ w', Below w.heap.size w w' → w'.cell? ⟨g1, o1 + k * 6, none⟩ = some (.int .i64 (C k).pulse) ∧ w'.cell? ⟨g1, o1 + k * 6 + 1, none⟩ = some (.int .i64 (C k).on) ∧ w'.cell? ⟨g1, o1 + k * 6 + 2, none⟩ = some (.int .i64 (C k).off) ∧ w'.cell? ⟨g1, o1 + k * 6 + 3, none⟩ = some (.int .i64 (C k).rest) ∧ w'.cell? ⟨g1, o1 + k * 6 + 4, none⟩ = some (.int .i64 (C k).fuse) ∧ w'.cell? ⟨g1, o1 + k * 6 + 5, none⟩ = some (.int .i64 (C k).cur) ∧ w'.cell? ⟨g2, o2 + k * 3, none⟩ = some (.int .i64 0) ∧ w'.cell? ⟨g2, o2 + k * 3 + 1, none⟩ = some (.int .i64 lf) ∧ w'.cell? ⟨g2, o2 + k * 3 + 2, none⟩ = some (.bool hh) from fun w' hb => by
          obtain ⟨q0, q1, q2, q3, q4, q5⟩ := coil_cells (hc1 w' hb) hkm
          obtain ⟨q6, q7, q8⟩ := drive_cells (hc2 w' hb) hkm
          rw [hDk] at q6 q7 q8
          exact ⟨q0, q1, q2, q3, q4, q5, q6, q7, q8⟩)
        clear hon hc1 hc2 hDk
        go_wp2_with fail
        go_quiet (fail)
        have HBQ := Lib.hid (below_drewN Hb.out nq)
        have HRQ := Lib.hid (owns_keep HR.out (below_drewN (Below.refl wr.heap.size wr) nq) (Nat.le_refl _))
        clear e0 e1 e2 e3 e4 e5 d0 d1 d2 HR Hb lw1 lw2 hsz
        generalize wr.drewN nq = wq at *
        obtain ⟨c0, c1, c2, c3, c4, c5, c6, c7, c8⟩ := HCC.out _ HBQ.out
        have hszq := HBQ.out.size
        go_wp2_with fail
        go_region_held3 (fun w' => w'.cell? ⟨g1, o1 + k * 6, none⟩ = some (.int .i64 (C k).pulse) ∧ w'.cell? ⟨g1, o1 + k * 6 + 1, none⟩ = some (.int .i64 (C k).on) ∧ w'.cell? ⟨g1, o1 + k * 6 + 2, none⟩ = some (.int .i64 (C k).off) ∧ w'.cell? ⟨g1, o1 + k * 6 + 3, none⟩ = some (.int .i64 (C k).rest) ∧ w'.cell? ⟨g1, o1 + k * 6 + 4, none⟩ = some (.int .i64 (C k).fuse) ∧ w'.cell? ⟨g1, o1 + k * 6 + 5, none⟩ = some (.int .i64 (C k).cur) ∧ w'.cell? ⟨g2, o2 + k * 3, none⟩ = some (.int .i64 0) ∧ w'.cell? ⟨g2, o2 + k * 3 + 1, none⟩ = some (.int .i64 lf) ∧ w'.cell? ⟨g2, o2 + k * 3 + 2, none⟩ = some (.bool hh)) (go_keep)
          (first
            | (go_at_call 71; refine (HN.out _).mono ?_; rintro e w5 ⟨rfl, hb5⟩
               have hb5' : Below wq.heap.size wq w5 := (Below.refl _ wq).drew.trans hb5
               have HR5 := owns_keep HRQ.out hb5' (Nat.le_refl _)
               have hb5w := HBQ.out.trans (hb5'.mono hszq)
               have hsz5 := hb5w.size
               obtain ⟨y0, y1, y2, y3, y4, y5, y6, y7, y8⟩ := HCC.out _ hb5w)
            | (refine step_append_lies _ (by rfl) _ _ _ (by rfl) w.heap.size 34 i0 _ 3 24 Try.underlying27 hi hz0 hz1 hz2 rfl (by decide) u7 k XS (by rfl) (HR5.alloc _) ⟨w5.heap.size, 0, none⟩ 1 1 [.int .i64 xp, .int .i64 xl, .bool xh] (by rfl) rfl (World.news_of_block (heap_alloc_new _ _)) (by intro u hu; simp at hu; rcases hu with rfl | rfl | rfl <;> rfl) (by decide) (by unfold maxLen; omega) (by omega) (by simp; omega) _ rfl ?_
               intro gn capn w6 hown6 hgr6 _ _
               have hb6 := hb5w.trans (((Below.refl _ w5).alloc hsz5 _).grown hgr6 (by simp; omega) (fun q hq => (HR5.lt q hq).1))
               obtain ⟨z0, z1, z2, z3, z4, z5, z6, z7, z8⟩ := HCC.out _ hb6))
        have HO6 := Lib.hid hown6
        have HB6 := Lib.hid hb6
        clear hown6 hb6 hgr6 hb5 hb5' hb5w HR5
        go_wp2
        go_roundg (m - (k + 1))
        case measure => have := Hg.out; omega
        case rel => exact ⟨k + 1, by omega, rfl, by go_num, by rw [← HS2.out], by rw [HXS.out]; exact HO6.out, HB6.out⟩
      · have hon : onB (C k) (D k) = true := by rw [hDk]; rfl
        have HS2 := Lib.hid (show setTo C D k ||| 1#32 <<< k = setTo C D (k + 1) by rw [setTo, if_pos hon])
        have HCC := Lib.hid (show ∀ w', Below w.heap.size w w' → w'.cell? ⟨g1, o1 + k * 6, none⟩ = some (.int .i64 (C k).pulse) ∧ w'.cell? ⟨g1, o1 + k * 6 + 1, none⟩ = some (.int .i64 (C k).on) ∧ w'.cell? ⟨g1, o1 + k * 6 + 2, none⟩ = some (.int .i64 (C k).off) ∧ w'.cell? ⟨g1, o1 + k * 6 + 3, none⟩ = some (.int .i64 (C k).rest) ∧ w'.cell? ⟨g1, o1 + k * 6 + 4, none⟩ = some (.int .i64 (C k).fuse) ∧ w'.cell? ⟨g1, o1 + k * 6 + 5, none⟩ = some (.int .i64 (C k).cur) ∧ w'.cell? ⟨g2, o2 + k * 3, none⟩ = some (.int .i64 1) ∧ w'.cell? ⟨g2, o2 + k * 3 + 1, none⟩ = some (.int .i64 lf) ∧ w'.cell? ⟨g2, o2 + k * 3 + 2, none⟩ = some (.bool hh) from fun w' hb => by
          obtain ⟨q0, q1, q2, q3, q4, q5⟩ := coil_cells (hc1 w' hb) hkm
          obtain ⟨q6, q7, q8⟩ := drive_cells (hc2 w' hb) hkm
          rw [hDk] at q6 q7 q8
          exact ⟨q0, q1, q2, q3, q4, q5, q6, q7, q8⟩)
        clear hon hc1 hc2 hDk
        go_wp2_with fail
        go_quiet (fail)
        have HBQ := Lib.hid (below_drewN Hb.out nq)
        have HRQ := Lib.hid (owns_keep HR.out (below_drewN (Below.refl wr.heap.size wr) nq) (Nat.le_refl _))
        clear e0 e1 e2 e3 e4 e5 d0 d1 d2 HR Hb lw1 lw2 hsz
        generalize wr.drewN nq = wq at *
        obtain ⟨c0, c1, c2, c3, c4, c5, c6, c7, c8⟩ := HCC.out _ HBQ.out
        have hszq := HBQ.out.size
        go_wp2_with fail
        go_region_held3 (fun w' => w'.cell? ⟨g1, o1 + k * 6, none⟩ = some (.int .i64 (C k).pulse) ∧ w'.cell? ⟨g1, o1 + k * 6 + 1, none⟩ = some (.int .i64 (C k).on) ∧ w'.cell? ⟨g1, o1 + k * 6 + 2, none⟩ = some (.int .i64 (C k).off) ∧ w'.cell? ⟨g1, o1 + k * 6 + 3, none⟩ = some (.int .i64 (C k).rest) ∧ w'.cell? ⟨g1, o1 + k * 6 + 4, none⟩ = some (.int .i64 (C k).fuse) ∧ w'.cell? ⟨g1, o1 + k * 6 + 5, none⟩ = some (.int .i64 (C k).cur) ∧ w'.cell? ⟨g2, o2 + k * 3, none⟩ = some (.int .i64 1) ∧ w'.cell? ⟨g2, o2 + k * 3 + 1, none⟩ = some (.int .i64 lf) ∧ w'.cell? ⟨g2, o2 + k * 3 + 2, none⟩ = some (.bool hh)) (go_keep)
          (first
            | (go_at_call 71; refine (HN.out _).mono ?_; rintro e w5 ⟨rfl, hb5⟩
               have hb5' : Below wq.heap.size wq w5 := (Below.refl _ wq).drew.trans hb5
               have HR5 := owns_keep HRQ.out hb5' (Nat.le_refl _)
               have hb5w := HBQ.out.trans (hb5'.mono hszq)
               have hsz5 := hb5w.size
               obtain ⟨y0, y1, y2, y3, y4, y5, y6, y7, y8⟩ := HCC.out _ hb5w)
            | (refine step_append_lies _ (by rfl) _ _ _ (by rfl) w.heap.size 34 i0 _ 3 24 Try.underlying27 hi hz0 hz1 hz2 rfl (by decide) u7 k XS (by rfl) (HR5.alloc _) ⟨w5.heap.size, 0, none⟩ 1 1 [.int .i64 xp, .int .i64 xl, .bool xh] (by rfl) rfl (World.news_of_block (heap_alloc_new _ _)) (by intro u hu; simp at hu; rcases hu with rfl | rfl | rfl <;> rfl) (by decide) (by unfold maxLen; omega) (by omega) (by simp; omega) _ rfl ?_
               intro gn capn w6 hown6 hgr6 _ _
               have hb6 := hb5w.trans (((Below.refl _ w5).alloc hsz5 _).grown hgr6 (by simp; omega) (fun q hq => (HR5.lt q hq).1))
               obtain ⟨z0, z1, z2, z3, z4, z5, z6, z7, z8⟩ := HCC.out _ hb6))
        have HO6 := Lib.hid hown6
        have HB6 := Lib.hid hb6
        clear hown6 hb6 hgr6 hb5 hb5' hb5w HR5
        go_wp2
        go_roundg (m - (k + 1))
        case measure => have := Hg.out; omega
        case rel => exact ⟨k + 1, by omega, rfl, by go_num, by rw [← HS2.out], by rw [HXS.out]; exact HO6.out, HB6.out⟩
      · cases t1 : decide (lf < (C k).on) with
        | true =>
          have hon : onB (C k) (D k) = true := by rw [hDk]; exact t1
          have HS2 := Lib.hid (show setTo C D k ||| 1#32 <<< k = setTo C D (k + 1) by rw [setTo, if_pos hon])
          have HCC := Lib.hid (show ∀ w', Below w.heap.size w w' → w'.cell? ⟨g1, o1 + k * 6, none⟩ = some (.int .i64 (C k).pulse) ∧ w'.cell? ⟨g1, o1 + k * 6 + 1, none⟩ = some (.int .i64 (C k).on) ∧ w'.cell? ⟨g1, o1 + k * 6 + 2, none⟩ = some (.int .i64 (C k).off) ∧ w'.cell? ⟨g1, o1 + k * 6 + 3, none⟩ = some (.int .i64 (C k).rest) ∧ w'.cell? ⟨g1, o1 + k * 6 + 4, none⟩ = some (.int .i64 (C k).fuse) ∧ w'.cell? ⟨g1, o1 + k * 6 + 5, none⟩ = some (.int .i64 (C k).cur) ∧ w'.cell? ⟨g2, o2 + k * 3, none⟩ = some (.int .i64 2) ∧ w'.cell? ⟨g2, o2 + k * 3 + 1, none⟩ = some (.int .i64 lf) ∧ w'.cell? ⟨g2, o2 + k * 3 + 2, none⟩ = some (.bool hh) from fun w' hb => by
            obtain ⟨q0, q1, q2, q3, q4, q5⟩ := coil_cells (hc1 w' hb) hkm
            obtain ⟨q6, q7, q8⟩ := drive_cells (hc2 w' hb) hkm
            rw [hDk] at q6 q7 q8
            exact ⟨q0, q1, q2, q3, q4, q5, q6, q7, q8⟩)
          clear hon hc1 hc2 hDk
          go_wp2_with fail
          go_quiet (fail)
          have HBQ := Lib.hid (below_drewN Hb.out nq)
          have HRQ := Lib.hid (owns_keep HR.out (below_drewN (Below.refl wr.heap.size wr) nq) (Nat.le_refl _))
          clear e0 e1 e2 e3 e4 e5 d0 d1 d2 HR Hb lw1 lw2 hsz
          generalize wr.drewN nq = wq at *
          obtain ⟨c0, c1, c2, c3, c4, c5, c6, c7, c8⟩ := HCC.out _ HBQ.out
          have hszq := HBQ.out.size
          go_wp2_with fail
          go_region_held3 (fun w' => w'.cell? ⟨g1, o1 + k * 6, none⟩ = some (.int .i64 (C k).pulse) ∧ w'.cell? ⟨g1, o1 + k * 6 + 1, none⟩ = some (.int .i64 (C k).on) ∧ w'.cell? ⟨g1, o1 + k * 6 + 2, none⟩ = some (.int .i64 (C k).off) ∧ w'.cell? ⟨g1, o1 + k * 6 + 3, none⟩ = some (.int .i64 (C k).rest) ∧ w'.cell? ⟨g1, o1 + k * 6 + 4, none⟩ = some (.int .i64 (C k).fuse) ∧ w'.cell? ⟨g1, o1 + k * 6 + 5, none⟩ = some (.int .i64 (C k).cur) ∧ w'.cell? ⟨g2, o2 + k * 3, none⟩ = some (.int .i64 2) ∧ w'.cell? ⟨g2, o2 + k * 3 + 1, none⟩ = some (.int .i64 lf) ∧ w'.cell? ⟨g2, o2 + k * 3 + 2, none⟩ = some (.bool hh)) (go_keep)
            (first
              | (go_at_call 71; refine (HN.out _).mono ?_; rintro e w5 ⟨rfl, hb5⟩
                 have hb5' : Below wq.heap.size wq w5 := (Below.refl _ wq).drew.trans hb5
                 have HR5 := owns_keep HRQ.out hb5' (Nat.le_refl _)
                 have hb5w := HBQ.out.trans (hb5'.mono hszq)
                 have hsz5 := hb5w.size
                 obtain ⟨y0, y1, y2, y3, y4, y5, y6, y7, y8⟩ := HCC.out _ hb5w)
              | (refine step_append_lies _ (by rfl) _ _ _ (by rfl) w.heap.size 34 i0 _ 3 24 Try.underlying27 hi hz0 hz1 hz2 rfl (by decide) u7 k XS (by rfl) (HR5.alloc _) ⟨w5.heap.size, 0, none⟩ 1 1 [.int .i64 xp, .int .i64 xl, .bool xh] (by rfl) rfl (World.news_of_block (heap_alloc_new _ _)) (by intro u hu; simp at hu; rcases hu with rfl | rfl | rfl <;> rfl) (by decide) (by unfold maxLen; omega) (by omega) (by simp; omega) _ rfl ?_
                 intro gn capn w6 hown6 hgr6 _ _
                 have hb6 := hb5w.trans (((Below.refl _ w5).alloc hsz5 _).grown hgr6 (by simp; omega) (fun q hq => (HR5.lt q hq).1))
                 obtain ⟨z0, z1, z2, z3, z4, z5, z6, z7, z8⟩ := HCC.out _ hb6))
          have HO6 := Lib.hid hown6
          have HB6 := Lib.hid hb6
          clear hown6 hb6 hgr6 hb5 hb5' hb5w HR5
          go_wp2
          go_roundg (m - (k + 1))
          case measure => have := Hg.out; omega
          case rel => exact ⟨k + 1, by omega, rfl, by go_num, by rw [← HS2.out], by rw [HXS.out]; exact HO6.out, HB6.out⟩
        | false =>
          have hon : onB (C k) (D k) = false := by rw [hDk]; exact t1
          have HS2 := Lib.hid (show setTo C D k = setTo C D (k + 1) by rw [setTo, if_neg (by rw [hon]; exact Bool.false_ne_true)])
          have HCC := Lib.hid (show ∀ w', Below w.heap.size w w' → w'.cell? ⟨g1, o1 + k * 6, none⟩ = some (.int .i64 (C k).pulse) ∧ w'.cell? ⟨g1, o1 + k * 6 + 1, none⟩ = some (.int .i64 (C k).on) ∧ w'.cell? ⟨g1, o1 + k * 6 + 2, none⟩ = some (.int .i64 (C k).off) ∧ w'.cell? ⟨g1, o1 + k * 6 + 3, none⟩ = some (.int .i64 (C k).rest) ∧ w'.cell? ⟨g1, o1 + k * 6 + 4, none⟩ = some (.int .i64 (C k).fuse) ∧ w'.cell? ⟨g1, o1 + k * 6 + 5, none⟩ = some (.int .i64 (C k).cur) ∧ w'.cell? ⟨g2, o2 + k * 3, none⟩ = some (.int .i64 2) ∧ w'.cell? ⟨g2, o2 + k * 3 + 1, none⟩ = some (.int .i64 lf) ∧ w'.cell? ⟨g2, o2 + k * 3 + 2, none⟩ = some (.bool hh) from fun w' hb => by
            obtain ⟨q0, q1, q2, q3, q4, q5⟩ := coil_cells (hc1 w' hb) hkm
            obtain ⟨q6, q7, q8⟩ := drive_cells (hc2 w' hb) hkm
            rw [hDk] at q6 q7 q8
            exact ⟨q0, q1, q2, q3, q4, q5, q6, q7, q8⟩)
          clear hon hc1 hc2 hDk
          go_wp2_with fail
          go_quiet (fail)
          have HBQ := Lib.hid (below_drewN Hb.out nq)
          have HRQ := Lib.hid (owns_keep HR.out (below_drewN (Below.refl wr.heap.size wr) nq) (Nat.le_refl _))
          clear e0 e1 e2 e3 e4 e5 d0 d1 d2 HR Hb lw1 lw2 hsz
          generalize wr.drewN nq = wq at *
          obtain ⟨c0, c1, c2, c3, c4, c5, c6, c7, c8⟩ := HCC.out _ HBQ.out
          have hszq := HBQ.out.size
          go_wp2_with fail
          go_region_held3 (fun w' => w'.cell? ⟨g1, o1 + k * 6, none⟩ = some (.int .i64 (C k).pulse) ∧ w'.cell? ⟨g1, o1 + k * 6 + 1, none⟩ = some (.int .i64 (C k).on) ∧ w'.cell? ⟨g1, o1 + k * 6 + 2, none⟩ = some (.int .i64 (C k).off) ∧ w'.cell? ⟨g1, o1 + k * 6 + 3, none⟩ = some (.int .i64 (C k).rest) ∧ w'.cell? ⟨g1, o1 + k * 6 + 4, none⟩ = some (.int .i64 (C k).fuse) ∧ w'.cell? ⟨g1, o1 + k * 6 + 5, none⟩ = some (.int .i64 (C k).cur) ∧ w'.cell? ⟨g2, o2 + k * 3, none⟩ = some (.int .i64 2) ∧ w'.cell? ⟨g2, o2 + k * 3 + 1, none⟩ = some (.int .i64 lf) ∧ w'.cell? ⟨g2, o2 + k * 3 + 2, none⟩ = some (.bool hh)) (go_keep)
            (first
              | (go_at_call 71; refine (HN.out _).mono ?_; rintro e w5 ⟨rfl, hb5⟩
                 have hb5' : Below wq.heap.size wq w5 := (Below.refl _ wq).drew.trans hb5
                 have HR5 := owns_keep HRQ.out hb5' (Nat.le_refl _)
                 have hb5w := HBQ.out.trans (hb5'.mono hszq)
                 have hsz5 := hb5w.size
                 obtain ⟨y0, y1, y2, y3, y4, y5, y6, y7, y8⟩ := HCC.out _ hb5w)
              | (refine step_append_lies _ (by rfl) _ _ _ (by rfl) w.heap.size 34 i0 _ 3 24 Try.underlying27 hi hz0 hz1 hz2 rfl (by decide) u7 k XS (by rfl) (HR5.alloc _) ⟨w5.heap.size, 0, none⟩ 1 1 [.int .i64 xp, .int .i64 xl, .bool xh] (by rfl) rfl (World.news_of_block (heap_alloc_new _ _)) (by intro u hu; simp at hu; rcases hu with rfl | rfl | rfl <;> rfl) (by decide) (by unfold maxLen; omega) (by omega) (by simp; omega) _ rfl ?_
                 intro gn capn w6 hown6 hgr6 _ _
                 have hb6 := hb5w.trans (((Below.refl _ w5).alloc hsz5 _).grown hgr6 (by simp; omega) (fun q hq => (HR5.lt q hq).1))
                 obtain ⟨z0, z1, z2, z3, z4, z5, z6, z7, z8⟩ := HCC.out _ hb6))
          have HO6 := Lib.hid hown6
          have HB6 := Lib.hid hb6
          clear hown6 hb6 hgr6 hb5 hb5' hb5w HR5
          go_wp2
          go_roundg (m - (k + 1))
          case measure => have := Hg.out; omega
          case rel => exact ⟨k + 1, by omega, rfl, by go_num, by rw [← HS2.out], by rw [HXS.out]; exact HO6.out, HB6.out⟩
      · have hon : onB (C k) (D k) = false := by rw [hDk]; rfl
        have HS2 := Lib.hid (show setTo C D k = setTo C D (k + 1) by rw [setTo, if_neg (by rw [hon]; exact Bool.false_ne_true)])
        have HCC := Lib.hid (show ∀ w', Below w.heap.size w w' → w'.cell? ⟨g1, o1 + k * 6, none⟩ = some (.int .i64 (C k).pulse) ∧ w'.cell? ⟨g1, o1 + k * 6 + 1, none⟩ = some (.int .i64 (C k).on) ∧ w'.cell? ⟨g1, o1 + k * 6 + 2, none⟩ = some (.int .i64 (C k).off) ∧ w'.cell? ⟨g1, o1 + k * 6 + 3, none⟩ = some (.int .i64 (C k).rest) ∧ w'.cell? ⟨g1, o1 + k * 6 + 4, none⟩ = some (.int .i64 (C k).fuse) ∧ w'.cell? ⟨g1, o1 + k * 6 + 5, none⟩ = some (.int .i64 (C k).cur) ∧ w'.cell? ⟨g2, o2 + k * 3, none⟩ = some (.int .i64 3) ∧ w'.cell? ⟨g2, o2 + k * 3 + 1, none⟩ = some (.int .i64 lf) ∧ w'.cell? ⟨g2, o2 + k * 3 + 2, none⟩ = some (.bool hh) from fun w' hb => by
          obtain ⟨q0, q1, q2, q3, q4, q5⟩ := coil_cells (hc1 w' hb) hkm
          obtain ⟨q6, q7, q8⟩ := drive_cells (hc2 w' hb) hkm
          rw [hDk] at q6 q7 q8
          exact ⟨q0, q1, q2, q3, q4, q5, q6, q7, q8⟩)
        clear hon hc1 hc2 hDk
        go_wp2_with fail
        go_quiet (fail)
        have HBQ := Lib.hid (below_drewN Hb.out nq)
        have HRQ := Lib.hid (owns_keep HR.out (below_drewN (Below.refl wr.heap.size wr) nq) (Nat.le_refl _))
        clear e0 e1 e2 e3 e4 e5 d0 d1 d2 HR Hb lw1 lw2 hsz
        generalize wr.drewN nq = wq at *
        obtain ⟨c0, c1, c2, c3, c4, c5, c6, c7, c8⟩ := HCC.out _ HBQ.out
        have hszq := HBQ.out.size
        go_wp2_with fail
        go_region_held3 (fun w' => w'.cell? ⟨g1, o1 + k * 6, none⟩ = some (.int .i64 (C k).pulse) ∧ w'.cell? ⟨g1, o1 + k * 6 + 1, none⟩ = some (.int .i64 (C k).on) ∧ w'.cell? ⟨g1, o1 + k * 6 + 2, none⟩ = some (.int .i64 (C k).off) ∧ w'.cell? ⟨g1, o1 + k * 6 + 3, none⟩ = some (.int .i64 (C k).rest) ∧ w'.cell? ⟨g1, o1 + k * 6 + 4, none⟩ = some (.int .i64 (C k).fuse) ∧ w'.cell? ⟨g1, o1 + k * 6 + 5, none⟩ = some (.int .i64 (C k).cur) ∧ w'.cell? ⟨g2, o2 + k * 3, none⟩ = some (.int .i64 3) ∧ w'.cell? ⟨g2, o2 + k * 3 + 1, none⟩ = some (.int .i64 lf) ∧ w'.cell? ⟨g2, o2 + k * 3 + 2, none⟩ = some (.bool hh)) (go_keep)
          (first
            | (go_at_call 71; refine (HN.out _).mono ?_; rintro e w5 ⟨rfl, hb5⟩
               have hb5' : Below wq.heap.size wq w5 := (Below.refl _ wq).drew.trans hb5
               have HR5 := owns_keep HRQ.out hb5' (Nat.le_refl _)
               have hb5w := HBQ.out.trans (hb5'.mono hszq)
               have hsz5 := hb5w.size
               obtain ⟨y0, y1, y2, y3, y4, y5, y6, y7, y8⟩ := HCC.out _ hb5w)
            | (refine step_append_lies _ (by rfl) _ _ _ (by rfl) w.heap.size 34 i0 _ 3 24 Try.underlying27 hi hz0 hz1 hz2 rfl (by decide) u7 k XS (by rfl) (HR5.alloc _) ⟨w5.heap.size, 0, none⟩ 1 1 [.int .i64 xp, .int .i64 xl, .bool xh] (by rfl) rfl (World.news_of_block (heap_alloc_new _ _)) (by intro u hu; simp at hu; rcases hu with rfl | rfl | rfl <;> rfl) (by decide) (by unfold maxLen; omega) (by omega) (by simp; omega) _ rfl ?_
               intro gn capn w6 hown6 hgr6 _ _
               have hb6 := hb5w.trans (((Below.refl _ w5).alloc hsz5 _).grown hgr6 (by simp; omega) (fun q hq => (HR5.lt q hq).1))
               obtain ⟨z0, z1, z2, z3, z4, z5, z6, z7, z8⟩ := HCC.out _ hb6))
        have HO6 := Lib.hid hown6
        have HB6 := Lib.hid hb6
        clear hown6 hb6 hgr6 hb5 hb5' hb5w HR5
        go_wp2
        go_roundg (m - (k + 1))
        case measure => have := Hg.out; omega
        case rel => exact ⟨k + 1, by omega, rfl, by go_num, by rw [← HS2.out], by rw [HXS.out]; exact HO6.out, HB6.out⟩
    · have b3 : decide ((k : Int) < (m : Int)) = false := by simp; omega
      have hkm' : k = m := by omega
      subst hkm'
      have HV := Lib.hid (Holds.of_owns drive_len HR.out)
      go_wp2
      go_ret3
      exact ⟨_, rfl, HV.out, owns_fresh HR.out, Hb.out⟩
theorem rtick_ok (v1 v2 : Value) (n m : Nat) (C : Nat → Coil) (D : Nat → Drive) (w : World) (hS : StateP n C m D) (h1 : HoldsC w v1 n C) (h2 : HoldsD w v2 m D) :
    Calls Try.prog 36 #[v1, v2] w fun e w' => ∃ v', e = .returned (.tuple #[v', .int .u32 (W (setTo C D m)), .int .i64 0]) ∧ HoldsD w' v' m (nextAll C D) ∧ Below w.heap.size w w' :=
  (rtick_fresh v1 v2 n m C D w hS h1 h2).mono fun _ _ ⟨v', he, hD, _, hb⟩ => ⟨v', he, hD, hb⟩
end Go.Proofs.Ytfgkljfoalgkaaa
