/-
  matrix.Path: it hands back the first shortest path, or the error. No condition.
-/
import Derived.Test.YtpboblanjngeeaaScan
import Derived.Test.YtpboblanjngeeaaDistW
import Derived.Test.YtpboblanjngeeaaSteps
import Derived.Deep.DeepCutAuto
namespace Go.Proofs.Ytpboblanjngeeaa
open Go.RowKit
attribute [local go_sem] shr_min64 shr_min8 shl_min64 U_shr U_shr' U_shl U_shl' U_shl1 U_and U_or U_andNot U_and1 U_bit U_to8 B8_to64 B8_shr B8_shr' B8_shl B8_shl' B8_shl1 B8_pow U_pow B8_and B8_or B8_andNot B8_and1 B8_bit B8_bit0 Later.cell

theorem path_out (s b d x : BitVec 64) (c r : Int) (hc : ¬ (0 ≤ c ∧ c ≤ 7 ∧ 0 ≤ r ∧ r ≤ 7)) (w : World) :
    Calls Try.prog 24 #[.agg #[.int .u64 (U s), .int .u64 (U b), .int .u64 (U d)], .int .u64 (U x), .int .i64 c, .int .i64 r] w fun e w' => e = .returned (.tuple #[.slice none 0 0, .int .i64 5]) ∧ Below w.heap.size w w' := by
  by_cases h0 : c < 0
  · clear hc
    go_enter Try.func24, Try.ntmps24
    go_wp2
    go_ret2
    exact ⟨rfl, (Below.refl _ _).alloc (Nat.le_refl _) _⟩
  by_cases h1 : 7 < c
  · clear hc
    go_enter Try.func24, Try.ntmps24
    go_wp2
    go_ret2
    exact ⟨rfl, (Below.refl _ _).alloc (Nat.le_refl _) _⟩
  by_cases h2 : r < 0
  · clear hc
    go_enter Try.func24, Try.ntmps24
    go_wp2
    go_ret2
    exact ⟨rfl, (Below.refl _ _).alloc (Nat.le_refl _) _⟩
  have h3 : 7 < r := by omega
  clear hc
  go_enter Try.func24, Try.ntmps24
  go_wp2
  go_ret2
  exact ⟨rfl, (Below.refl _ _).alloc (Nat.le_refl _) _⟩

/-- The world with the two lists of distances laid. -/
def two (w : World) (C R : Nat → Nat) : World := (w.alloc (.cells #[.int .i64 (C 0), .int .i64 (C 1), .int .i64 (C 2), .int .i64 (C 3), .int .i64 (C 4), .int .i64 (C 5), .int .i64 (C 6), .int .i64 (C 7)] 57)).alloc
  (.cells #[.int .i64 (R 0), .int .i64 (R 1), .int .i64 (R 2), .int .i64 (R 3), .int .i64 (R 4), .int .i64 (R 5), .int .i64 (R 6), .int .i64 (R 7)] 57)
theorem eight (f : Nat → Nat) : ∀ i, i < (#[.int .i64 (f 0), .int .i64 (f 1), .int .i64 (f 2), .int .i64 (f 3), .int .i64 (f 4), .int .i64 (f 5), .int .i64 (f 6), .int .i64 (f 7)] : Array Value).size →
    (#[.int .i64 (f 0), .int .i64 (f 1), .int .i64 (f 2), .int .i64 (f 3), .int .i64 (f 4), .int .i64 (f 5), .int .i64 (f 6), .int .i64 (f 7)] : Array Value)[i]? = some (iv (f i)) := by
  intro i hi
  replace hi : i < 8 := hi
  match i, hi with
  | 0, _ => rfl | 1, _ => rfl | 2, _ => rfl | 3, _ => rfl | 4, _ => rfl | 5, _ => rfl | 6, _ => rfl | 7, _ => rfl
theorem two_facts (w : World) (C R : Nat → Nat) (w3 : World) (h : two w C R = w3) : (∀ a, a < 8 → w3.cell? ⟨w.heap.size, a, none⟩ = some (.int .i64 (C a))) ∧ (∀ k, k < 8 → w3.cell? ⟨w.heap.size + 1, k, none⟩ = some (.int .i64 (R k))) ∧
    w3.heap.size = w.heap.size + 2 ∧ Below w.heap.size w w3 := by
  subst h
  unfold two
  have h1 := World.rowIs_alloc w #[.int .i64 (C 0), .int .i64 (C 1), .int .i64 (C 2), .int .i64 (C 3), .int .i64 (C 4), .int .i64 (C 5), .int .i64 (C 6), .int .i64 (C 7)] 57 (fun j => iv (C j)) (eight C)
  have h2 := World.rowIs_alloc (w.alloc (.cells #[.int .i64 (C 0), .int .i64 (C 1), .int .i64 (C 2), .int .i64 (C 3), .int .i64 (C 4), .int .i64 (C 5), .int .i64 (C 6), .int .i64 (C 7)] 57))
    #[.int .i64 (R 0), .int .i64 (R 1), .int .i64 (R 2), .int .i64 (R 3), .int .i64 (R 4), .int .i64 (R 5), .int .i64 (R 6), .int .i64 (R 7)] 57 (fun j => iv (R j)) (eight R)
  have e2 : (w.alloc (.cells #[.int .i64 (C 0), .int .i64 (C 1), .int .i64 (C 2), .int .i64 (C 3), .int .i64 (C 4), .int .i64 (C 5), .int .i64 (C 6), .int .i64 (C 7)] 57)).heap.size = w.heap.size + 1 := by simp
  rw [e2] at h2
  refine ⟨fun a ha => (h1.alloc _).cell ha, fun k hk => h2.cell hk, by simp, ((Below.refl _ w).alloc (Nat.le_refl _) _).alloc (by simp) _⟩

set_option maxHeartbeats 3200000 in
theorem path_far (s b d x : BitVec 64) (c r : Nat) (hc : c < 8) (hr : r < 8) (hl : (lev (phys s b x) (phys s b x &&& d) r 7).getLsbD c = false) (w : World) :
    Calls Try.prog 24 #[.agg #[.int .u64 (U s), .int .u64 (U b), .int .u64 (U d)], .int .u64 (U x), .int .i64 c, .int .i64 r] w fun e w' => e = .returned (.tuple #[.slice none 0 0, .int .i64 8]) ∧ Below w.heap.size w w' := by
  have HF := Lib.hid (Cf_far hr hc hl)
  clear hl
  have t1 : decide ((c : Int) < 0) = false := by simp
  have t2 : decide (7 < (c : Int)) = false := by simp; omega
  have t3 : decide ((r : Int) < 0) = false := by simp
  have t4 : decide (7 < (r : Int)) = false := by simp; omega
  go_enter Try.func24, Try.ntmps24
  go_upto_region 5 with (first | (go_at_call 17; refine (phys_any s b d x _).mono ?_; rintro e w1 ⟨rfl, hb1⟩; obtain ⟨k0, k1, k2, k3, kb⟩ := keep3 hb1; clear hb1) | (go_at_call 34; refine (distances_any s b d (phys s b x) r hr _).mono ?_; rintro e w2 ⟨rfl, hb2⟩; simp only [aggN, iv]))
  change Code.wp _ _ _ _ (two w2 (Cf (phys s b x) d r) (Rf (phys s b x) d r))
  generalize hw3 : two w2 (Cf (phys s b x) d r) (Rf (phys s b x) d r) = w3
  obtain ⟨fc, fr, fs, fb⟩ := two_facts _ _ _ _ hw3
  have Hb := Lib.hid (kb.trans ((hb2.trans (fb.mono hb2.size)).mono kb.size))
  have HF' := HF.out
  have cc := fc c hc
  have tt : decide (100 ≤ (Cf (phys s b x) d r c : Int)) = true := by simp; omega
  clear hw3 fc fr fs fb hb2 kb HF'
  go_wp2
  go_ret2
  exact ⟨rfl, Hb.out⟩
theorem has_later (x : BitVec 64) (c r : Nat) (hc : c ≤ 100) (hr : r ≤ 100) {W : World} (z : Later W) :
    Calls Try.prog 35 #[.int .u64 (U x), .int .i64 c, .int .i64 r] z.w fun e w' => e = .returned (.bool (tb x (8 * c + r))) ∧ ∃ z' : Later W, w' = z'.w :=
  (has_any x c r hc hr z.w).mono fun _ _ ⟨he, hw⟩ => ⟨he, z, hw.symm⟩
theorem news_one (w : World) (n : Nat) (x : Int) (hx : x = (n : Int)) (t : TypeId) : ∀ j u, [iv n][j]? = some u → (w.alloc (.cells #[.int .i64 x] t)).cell? ((⟨w.heap.size, 0, none⟩ : Addr).add j) = some u := by
  subst hx
  exact cell_one_new _ _ _
theorem owns_mono {w : World} {base base' : Nat} {e : TypeId} {size : Nat} {v : Value} {n : Nat} {xs : List Value} (h : w.ownsRow base e size v n xs) (hb : base' ≤ base) : w.ownsRow base' e size v n xs :=
  ⟨h.1, h.2.imp id fun ⟨g, cap, cur, h1, h2, h3⟩ => ⟨g, cap, cur, h1, Nat.le_trans hb h2, h3⟩⟩
theorem owns_below {w w' : World} {base : Nat} {e : TypeId} {size : Nat} {v : Value} {n : Nat} {xs : List Value} (h : w.ownsRow base e size v n xs) (hb : Below w.heap.size w w') : w'.ownsRow base e size v n xs :=
  h.kept (row := none) ⟨hb.os, hb.tape, hb.output, hb.size, fun k hk _ => hb.block k hk⟩ (by cases hv : v.ownBlock <;> simp)
/-- What the outer loop of Path carries. -/
structure PA (on bk : BitVec 64) (r m c base : Nat) (w3 : World) (n a : Nat) (v : Value) (w : World) : Prop where
  dist : Dist on bk r a n
  owns : ∃ xs : List Nat, w.ownsRow base 3 1 v xs.length (xs.map iv) ∧ xs ++ pathL on bk r n a = pathL on bk r m c
  below : Below base w3 w
set_option maxHeartbeats 6400000 in
theorem path_in (s b d x : BitVec 64) (c r m : Nat) (hr : r < 8) (hd : Dist (phys s b x) (phys s b x &&& d) r c m) (w : World) :
    Calls Try.prog 24 #[.agg #[.int .u64 (U s), .int .u64 (U b), .int .u64 (U d)], .int .u64 (U x), .int .i64 c, .int .i64 r] w fun e w' =>
      ∃ v, e = .returned (.tuple #[v, .int .i64 0]) ∧ w'.ownsRow w.heap.size 3 1 v (2 * m + 1) ((pathL (phys s b x) (phys s b x &&& d) r m c).map iv) ∧ Below w.heap.size w w' := by
  have hc := hd.lt
  have HD := Lib.hid hd
  have hm := hd.seven
  have hC := Cf_dist hr hd
  clear hd
  have t1 : decide ((c : Int) < 0) = false := by simp
  have t2 : decide (7 < (c : Int)) = false := by simp; omega
  have t3 : decide ((r : Int) < 0) = false := by simp
  have t4 : decide (7 < (r : Int)) = false := by simp; omega
  go_enter Try.func24, Try.ntmps24
  go_upto_region 5 with (first | (go_at_call 17; refine (phys_any s b d x _).mono ?_; rintro e w1 ⟨rfl, hb1⟩; obtain ⟨k0, k1, k2, k3, kb⟩ := keep3 hb1; clear hb1) | (go_at_call 34; refine (distances_any s b d (phys s b x) r hr _).mono ?_; rintro e w2 ⟨rfl, hb2⟩; simp only [aggN, iv]))
  change Code.wp _ _ _ _ (two w2 (Cf (phys s b x) d r) (Rf (phys s b x) d r))
  generalize hw3 : two w2 (Cf (phys s b x) d r) (Rf (phys s b x) d r) = w3
  obtain ⟨fc, fr, fs, fb⟩ := two_facts _ _ _ _ hw3
  have Hb := Lib.hid (kb.trans ((hb2.trans (fb.mono hb2.size)).mono kb.size))
  have cc := fc c hc
  rw [hC] at cc
  have tt : decide (100 ≤ ((2 * m + 1 : Nat) : Int)) = false := by simp; omega
  have tt' : decide (100 ≤ 2 * (m : Int) + 1) = false := by simp; omega
  have Hfc := Lib.hid fc
  have Hfr := Lib.hid fr
  have hlt : w2.heap.size + 1 < w3.heap.size := by omega
  have hf2 : w3.cell? ⟨w.heap.size, 2, none⟩ = some (.int .u64 (U d)) := by
    rw [fb.cell (p := ⟨w.heap.size, 2, none⟩) (Nat.lt_of_lt_of_le k3 hb2.size), hb2.cell (p := ⟨w.heap.size, 2, none⟩) k3]
    exact k2
  have hlt0 : w.heap.size < w3.heap.size := by have := hb2.size; omega
  clear hw3 fc fr fs fb hb2 kb hC k0 k1 k2 k3
  generalize w2.heap.size = B at *
  clear w1 w2
  go_wp2
  obtain ⟨i0, hi, hz0, hz1, hz2⟩ := info_parts Try.info3
  go_loopg [13, 14] (m + 1) (fun g v a wr => ∃ (n at_ : Nat), g = n + 1 ∧ a = .int .i64 at_ ∧ PA (phys s b x) (phys s b x &&& d) r m c w3.heap.size w3 n at_ v wr)
  case atStart => exact ⟨m, c, rfl, rfl, HD.out, ⟨[], World.ownsRow_nil _ _ _ _, rfl⟩, Below.refl _ _⟩
  case round =>
    obtain ⟨n, at_, hg, rfl, hP⟩ := hrel
    have HP := Lib.hid hP
    have Hg := Lib.hid hg
    obtain ⟨q1, q2, q3, q4, q5⟩ := kstep hr hP.dist
    have hat := hP.dist.lt
    have hn7 := hP.dist.seven
    have Hk := Lib.hid (show ∀ j, j < kOf (phys s b x) (phys s b x &&& d) r at_ n → (phys s b x).getLsbD (8 * at_ + j) = true → Rf (phys s b x) d r j ≠ 2 * n from q4)
    have Hk0 := Lib.hid q5
    have Hon := Lib.hid q2
    have HRk := Lib.hid q3
    have hrb := hP.below
    have cC := Hfc.out at_ hat
    rw [Cf_dist hr hP.dist] at cC
    have cC' : wr.cell? ⟨B, at_, none⟩ = some (.int .i64 ((2 * n + 1 : Nat) : Int)) := by rw [hrb.cell (p := ⟨B, at_, none⟩) (by show B < _; omega)]; exact cC
    have hf2' : wr.cell? ⟨w.heap.size, 2, none⟩ = some (.int .u64 (U d)) := by rw [hrb.cell (p := ⟨w.heap.size, 2, none⟩) hlt0]; exact hf2
    have Hfr' := Lib.hid (show ∀ k, k < 8 → wr.cell? ⟨B + 1, k, none⟩ = some (.int .i64 (Rf (phys s b x) d r k)) from fun k hk => by rw [hrb.cell (p := ⟨B + 1, k, none⟩) hlt]; exact Hfr.out k hk)
    have hl1 : B + 1 < wr.heap.size := Nat.lt_of_lt_of_le hlt hrb.size
    have hl2 : B < wr.heap.size := by omega
    have hl3 : w.heap.size < wr.heap.size := Nat.lt_of_lt_of_le hlt0 hrb.size
    clear hP hg q2 q3 q4 q5 hrb cC
    generalize hkf : kOf (phys s b x) (phys s b x &&& d) r at_ n = kf at *
    have Hkf := Lib.hid hkf
    clear hkf
    go_wp2
    obtain ⟨wo, hwo⟩ : ∃ wo : World, wo = wr := ⟨_, rfl⟩
    subst hwo
    go_loopg [15] (kf + 1) (fun g i wi => ∃ k : Nat, k ≤ kf ∧ g = kf - k + 1 ∧ i = .int .i64 k ∧ Below wo.heap.size wo wi)
    case atStart => exact ⟨0, by omega, rfl, rfl, Below.refl _ _⟩
    case round =>
      obtain ⟨k, hk, hg, rfl, hb⟩ := hrel
      have HB := Lib.hid hb
      have Hgk := Lib.hid hg
      have cC2 : wr.cell? ⟨B, at_, none⟩ = some (.int .i64 ((2 * n + 1 : Nat) : Int)) := by rw [hb.cell (p := ⟨B, at_, none⟩) hl2]; exact cC'
      have cR2 : wr.cell? ⟨B + 1, k, none⟩ = some (.int .i64 (Rf (phys s b x) d r k)) := by rw [hb.cell (p := ⟨B + 1, k, none⟩) hl1]; exact Hfr'.out k (by omega)
      have g1 : B + 1 < wr.heap.size := Nat.lt_of_lt_of_le hl1 hb.size
      have g2 : B < wr.heap.size := by omega
      have hk8 : k < 8 := by omega
      clear hb hg
      by_cases hkk : k < kf
      · have hsk := Hk.out k hkk
        cases ho : tb (phys s b x) (8 * at_ + k) with
        | false =>
          clear hsk
          go_wp2_with fail
          refine wp_region_later (by kernel_rfl) (by kernel_rfl) ?_
          repeat (go_big_quiet_step ((go_at_call 35; exact has_later _ at_ k (by omega) (by omega) _)))
          refine wpQuiet_nil ?_
          rintro _ ⟨z, rfl⟩
          go_wp2
          go_roundg (kf - (k + 1) + 1)
          case measure => have := Hgk.out; omega
          case rel => exact ⟨k + 1, by omega, rfl, by go_num, HB.out.trans (z.h.mono HB.out.size)⟩
        | true =>
          have hR : ((Rf (phys s b x) d r k : Int) != 2 * (n : Int)) = true := by
            rw [bne_iff_ne]; have := hsk ho; omega
          have Hsk := Lib.hid hsk
          clear hsk
          generalize Rf (phys s b x) d r k = Rk at *
          go_wp2_with fail
          refine wp_region_later (by kernel_rfl) (by kernel_rfl) ?_
          repeat (go_big_quiet_step ((go_at_call 35; exact has_later _ at_ k (by omega) (by omega) _)))
          refine wpQuiet_nil ?_
          rintro _ ⟨z, rfl⟩
          go_wp2
          go_roundg (kf - (k + 1) + 1)
          case measure => have := Hgk.out; omega
          case rel => exact ⟨k + 1, by omega, rfl, by go_num, HB.out.trans (z.h.mono HB.out.size)⟩
      · have Hkk := Lib.hid (show k = kf by omega)
        have ho : tb (phys s b x) (8 * at_ + k) = true := by rw [Hkk.out]; exact Hon.out
        have hR : ((Rf (phys s b x) d r k : Int) != 2 * (n : Int)) = false := by
          rw [bne_eq_false_iff_eq, Hkk.out, HRk.out]; omega
        generalize hRk : Rf (phys s b x) d r k = Rk at *
        have HRk2 := Lib.hid hRk
        clear hRk
        go_wp2_with fail
        refine wp_region_later (by kernel_rfl) (by kernel_rfl) ?_
        repeat (go_big_quiet_step ((go_at_call 35; exact has_later _ at_ k (by omega) (by omega) _)))
        refine wpQuiet_nil ?_
        rintro _ ⟨z, rfl⟩
        obtain ⟨xs, hown, hpath⟩ := HP.out.owns
        have HO := Lib.hid (owns_below (owns_below hown HB.out) z.h)
        have Hpath := Lib.hid hpath
        have HLen := Lib.hid (show xs.length + (2 * n + 1) = 2 * m + 1 by
          have := congrArg List.length hpath
          rw [List.length_append, pathL_length, pathL_length] at this
          exact this)
        have hw3z : w3.heap.size ≤ z.w.heap.size := by
          have := HP.out.below.size; have := HB.out.size; have := z.h.size; omega
        clear hown hpath
        by_cases hn0 : n = 0
        · have hkr : ((k : Int) == (r : Int)) = true := by
            rw [beq_iff_eq, Hkk.out, ← Hkf.out, hn0]; rfl
          have Hn0 := Lib.hid hn0
          clear hn0
          go_wp2_with (at_builtin; refine wpList_append_own _ rfl _ _ 32 rfl (w3.heap.size) 3 i0 (.int .i64 0) 1 8 Try.underlying32 hi hz0 hz1 hz2 rfl (by decide) u13 xs.length (xs.map iv) rfl (HO.out.alloc _) ⟨z.w.heap.size, 0, none⟩ 1 1 [iv (8 * at_ + k)] rfl rfl (news_one _ _ _ (by omega) _) ?c2 ?c3 ?c4 ?c5 ?c6)
          case c2 => intro u hu; simp at hu; subst hu; rfl
          case c3 => have := HLen.out; unfold maxLen; omega
          case c4 => have := HLen.out; omega
          case c5 => simp; omega
          intro v' w4 hown4 hgr4 _
          have HO4 := Lib.hid hown4
          have HG4 := Lib.hid hgr4
          clear hown4 hgr4
          go_wp2
          go_ret2
          refine ⟨v', rfl, ?_, ?_⟩
          · have hL := HLen.out
            have hp : xs ++ [8 * at_ + k] = pathL (phys s b x) (phys s b x &&& d) r m c := by
              have h1 := Hpath.out
              have h2 := Hkk.out
              have h3 := Hkf.out
              rw [Hn0.out] at h1 h3
              rw [← h1, h2, ← h3]; rfl
            have h0 := Hn0.out
            have h4 := HO4.out
            rw [← hp, List.map_append, show 2 * m + 1 = xs.length + 1 by omega]
            exact owns_mono h4 (Nat.le_of_lt hlt0)
          · exact Hb.out.trans (((HP.out.below.trans ((HB.out.trans (z.h.mono HB.out.size)).mono HP.out.below.size)).trans (((Below.refl _ _).alloc hw3z _).grown HG4.out (by simp; omega) (fun q hq => (HO.out.lt q hq).1))).mono (Nat.le_of_lt hlt0))
        · have hkr : ((k : Int) == (r : Int)) = false := by
            rw [beq_eq_false_iff_ne]; have h1 := Hk0.out hn0; have h2 := Hkk.out; omega
          obtain ⟨p, rfl⟩ : ∃ p, n = p + 1 := ⟨n - 1, by omega⟩
          clear hn0
          go_wp2_with (at_builtin; refine wpList_append_own _ rfl _ _ 32 rfl (w3.heap.size) 3 i0 (.int .i64 0) 1 8 Try.underlying32 hi hz0 hz1 hz2 rfl (by decide) u13 xs.length (xs.map iv) rfl (HO.out.alloc _) ⟨z.w.heap.size, 0, none⟩ 1 1 [iv (8 * at_ + k)] rfl rfl (news_one _ _ _ (by omega) _) ?d2 ?d3 ?d4 ?d5 ?d6)
          case d2 => intro u hu; simp at hu; subst hu; rfl
          case d3 => have := HLen.out; unfold maxLen; omega
          case d4 => have := HLen.out; omega
          case d5 => simp; omega
          intro v' w4 hown4 hgr4 _
          have HO4 := Lib.hid hown4
          have HG4 := Lib.hid hgr4
          clear hown4 hgr4
          obtain ⟨a1, a2, a3, a4, a5⟩ := astep hr HP.out.dist
          have hnk : nextK (phys s b x) (phys s b x &&& d) r at_ p = k := by rw [Hkk.out, ← Hkf.out]; rfl
          rw [hnk] at a1 a2 a3 a4 a5
          have HA2 := Lib.hid a2
          have HA3 := Lib.hid a3
          have HA4 := Lib.hid a4
          have HA5 := Lib.hid (show ∀ j, j < nextA (phys s b x) (phys s b x &&& d) r k p → (phys s b x &&& d).getLsbD (8 * j + k) = true → Cf (phys s b x) d r j ≠ 2 * p + 1 from a5)
          have Hpath' := Lib.hid (show (xs ++ [8 * at_ + k]) ++ (8 * nextA (phys s b x) (phys s b x &&& d) r k p + k) :: pathL (phys s b x) (phys s b x &&& d) r p (nextA (phys s b x) (phys s b x &&& d) r k p) = pathL (phys s b x) (phys s b x &&& d) r m c by
            rw [← Hpath.out, pathL, hnk]; simp)
          have Hb4 := Lib.hid (HP.out.below.trans (((HB.out.trans (z.h.mono HB.out.size)).mono HP.out.below.size).trans (((Below.refl _ _).alloc hw3z _).grown HG4.out (by simp; omega) (fun q hq => (HO.out.lt q hq).1))))
          have e1 : w4.cell? ⟨B + 1, k, none⟩ = some (.int .i64 Rk) := by rw [Hb4.out.cell (p := ⟨B + 1, k, none⟩) hlt, Hfr.out k hk8, HRk2.out]
          have e2 : w4.cell? ⟨w.heap.size, 2, none⟩ = some (.int .u64 (U d)) := by rw [Hb4.out.cell (p := ⟨w.heap.size, 2, none⟩) hlt0]; exact hf2
          have l1 : B + 1 < w4.heap.size := Nat.lt_of_lt_of_le hlt Hb4.out.size
          have l2 : B < w4.heap.size := by omega
          have l3 : w.heap.size < w4.heap.size := Nat.lt_of_lt_of_le hlt0 Hb4.out.size
          have HRp := Lib.hid (show Rk = 2 * (p + 1) by rw [← HRk2.out, Hkk.out]; exact HRk.out)
          have hRk100 : Rk ≤ 100 := by rw [← HRk2.out]; exact Rf_le _ _ _ hr _
          clear a2 a3 a4 a5 hnk HG4 HP HO HB ho hR Hpath Hk Hk0 Hon HRk cR2 cC2 g1 g2 cC' hf2' Hfr' hl1 hl2 hl3
          generalize hAF : nextA (phys s b x) (phys s b x &&& d) r k p = af at *
          have HAF := Lib.hid hAF
          clear hAF
          go_wp2
          go_loopg [14] (af + 1) (fun g a wi => ∃ j : Nat, j ≤ af ∧ g = af - j + 1 ∧ a = .int .i64 j ∧ Below w4.heap.size w4 wi)
          case atStart => exact ⟨0, by omega, rfl, rfl, Below.refl _ _⟩
          case round =>
            obtain ⟨j, hj, hg, rfl, hb⟩ := hrel
            have HB := Lib.hid hb
            have Hgj := Lib.hid hg
            have c1 : wr.cell? ⟨B + 1, k, none⟩ = some (.int .i64 Rk) := by rw [hb.cell (p := ⟨B + 1, k, none⟩) l1]; exact e1
            have c2 : wr.cell? ⟨w.heap.size, 2, none⟩ = some (.int .u64 (U d)) := by rw [hb.cell (p := ⟨w.heap.size, 2, none⟩) l3]; exact e2
            have c3 : wr.cell? ⟨B, j, none⟩ = some (.int .i64 (Cf (phys s b x) d r j)) := by
              rw [hb.cell (p := ⟨B, j, none⟩) l2, Hb4.out.cell (p := ⟨B, j, none⟩) (by show B < _; omega)]; exact Hfc.out j (by omega)
            have g1 : B + 1 < wr.heap.size := Nat.lt_of_lt_of_le l1 hb.size
            have g2 : B < wr.heap.size := by omega
            have g3 : w.heap.size < wr.heap.size := Nat.lt_of_lt_of_le l3 hb.size
            have hj8 : j < 8 := by omega
            have hcl := Cf_le (phys s b x) d r hr j
            clear hb hg
            by_cases hja : j < af
            · have hsk := HA5.out j hja
              cases ho : tb (phys s b x &&& d) (8 * j + k) with
              | false =>
                clear hsk
                go_wp2_with fail
                refine wp_region_later (by kernel_rfl) (by kernel_rfl) ?_
                repeat (go_big_quiet_step ((go_at_call 35; exact has_later _ j k (by omega) (by omega) _)))
                refine wpQuiet_nil ?_
                rintro _ ⟨z2, rfl⟩
                go_wp2
                go_roundg (af - (j + 1) + 1)
                case measure => have := Hgj.out; omega
                case rel => exact ⟨j + 1, by omega, rfl, by go_num, HB.out.trans (z2.h.mono HB.out.size)⟩
              | true =>
                have hR : ((Cf (phys s b x) d r j : Int) != (Rk : Int) - 1) = true := by
                  rw [bne_iff_ne]; have := hsk ho; have := HRp.out; omega
                clear hsk
                generalize Cf (phys s b x) d r j = Ck at *
                go_wp2_with fail
                refine wp_region_later (by kernel_rfl) (by kernel_rfl) ?_
                repeat (go_big_quiet_step ((go_at_call 35; exact has_later _ j k (by omega) (by omega) _)))
                refine wpQuiet_nil ?_
                rintro _ ⟨z2, rfl⟩
                go_wp2
                go_roundg (af - (j + 1) + 1)
                case measure => have := Hgj.out; omega
                case rel => exact ⟨j + 1, by omega, rfl, by go_num, HB.out.trans (z2.h.mono HB.out.size)⟩
            · have Hja := Lib.hid (show j = af by omega)
              have ho : tb (phys s b x &&& d) (8 * j + k) = true := by rw [Hja.out]; exact HA2.out
              have hR : ((Cf (phys s b x) d r j : Int) != (Rk : Int) - 1) = false := by
                rw [bne_eq_false_iff_eq, Hja.out, HA4.out]; have := HRp.out; omega
              generalize Cf (phys s b x) d r j = Ck at *
              go_wp2_with fail
              refine wp_region_later (by kernel_rfl) (by kernel_rfl) ?_
              repeat (go_big_quiet_step ((go_at_call 35; exact has_later _ j k (by omega) (by omega) _)))
              refine wpQuiet_nil ?_
              rintro _ ⟨z2, rfl⟩
              have HO2 := Lib.hid (owns_below (owns_below HO4.out HB.out) z2.h)
              have hw3z2 : w3.heap.size ≤ z2.w.heap.size := by
                have := Hb4.out.size; have := HB.out.size; have := z2.h.size; omega
              go_wp2_with (at_builtin; refine wpList_append_own _ rfl _ _ 32 rfl (w3.heap.size) 3 i0 (.int .i64 0) 1 8 Try.underlying32 hi hz0 hz1 hz2 rfl (by decide) v' (xs.length + 1) (xs.map iv ++ [iv (8 * at_ + k)]) rfl (HO2.out.alloc _) ⟨z2.w.heap.size, 0, none⟩ 1 1 [iv (8 * j + k)] rfl rfl (news_one _ _ _ (by omega) _) ?f2 ?f3 ?f4 ?f5 ?f6)
              case f2 => intro u hu; simp at hu; subst hu; rfl
              case f3 => have := HLen.out; unfold maxLen; omega
              case f4 => have := HLen.out; omega
              case f5 => simp; omega
              intro v'' w5 hown5 hgr5 _
              have HO5 := Lib.hid hown5
              have HG5 := Lib.hid hgr5
              clear hown5 hgr5
              go_wp2
              go_roundg (p + 1)
              case measure => have := Hg.out; omega
              case rel =>
                refine ⟨p, j, rfl, rfl, ?_, ⟨xs ++ [8 * at_ + k, 8 * j + k], ?_, ?_⟩, ?_⟩
                · rw [Hja.out]; exact HA3.out
                · have := HO5.out
                  simpa using this
                · have h1 := Hpath'.out
                  rw [Hja.out, ← h1]; simp
                · exact Hb4.out.trans (((HB.out.trans (z2.h.mono HB.out.size)).mono Hb4.out.size).trans (((Below.refl _ _).alloc hw3z2 _).grown HG5.out (by simp; omega) (fun q hq => (HO2.out.lt q hq).1)))
end Go.Proofs.Ytpboblanjngeeaa
