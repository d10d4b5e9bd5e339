/-
  The reference's Path: it hands back the same path as the program's own. No condition.
-/
import Derived.Test.YtpboblanjngeeaaRefFollowW
namespace Go.Proofs.Ytpboblanjngeeaa
open Go.RowKit
attribute [local go_sem] shr_min64 shr_min8 shl_min64 U_shr U_shr' U_shl U_shl' U_shl1 U_and U_or U_andNot U_and1 U_bit U_bit0 U_to8 B8_to64 B8_shr B8_shr' B8_shl B8_shl' B8_shl1 B8_pow U_pow B8_and B8_or B8_andNot B8_and1 B8_bit B8_bit0 Later.cell

theorem refPath_out (s b d x : BitVec 64) (c r : Int) (hc : ¬ (0 ≤ c ∧ c ≤ 7 ∧ 0 ≤ r ∧ r ≤ 7)) (w : World) :
    Calls Try.prog 25 #[.agg #[.int .u64 (U s), .int .u64 (U b), .int .u64 (U d)], .int .u64 (U x), .int .i64 c, .int .i64 r] w fun e w' => e = .returned (.tuple #[.slice none 0 0, .int .i64 5]) ∧ Below w.heap.size w w' := by
  by_cases h0 : c < 0
  · clear hc
    go_enter Try.func25, Try.ntmps25
    go_wp2
    go_ret2
    exact ⟨rfl, (Below.refl _ _).alloc (Nat.le_refl _) _⟩
  by_cases h1 : 7 < c
  · clear hc
    go_enter Try.func25, Try.ntmps25
    go_wp2
    go_ret2
    exact ⟨rfl, (Below.refl _ _).alloc (Nat.le_refl _) _⟩
  by_cases h2 : r < 0
  · clear hc
    go_enter Try.func25, Try.ntmps25
    go_wp2
    go_ret2
    exact ⟨rfl, (Below.refl _ _).alloc (Nat.le_refl _) _⟩
  have h3 : 7 < r := by omega
  clear hc
  go_enter Try.func25, Try.ntmps25
  go_wp2
  go_ret2
  exact ⟨rfl, (Below.refl _ _).alloc (Nat.le_refl _) _⟩

/-- The world with the list of distances laid. -/
def one (w : World) (C : Nat → Nat) : World := w.alloc (.cells #[.int .i64 (C 0), .int .i64 (C 1), .int .i64 (C 2), .int .i64 (C 3), .int .i64 (C 4), .int .i64 (C 5), .int .i64 (C 6), .int .i64 (C 7)] 57)
theorem one_facts (w : World) (C : Nat → Nat) (w3 : World) (h : one w C = w3) : (∀ a, a < 8 → w3.cell? ⟨w.heap.size, a, none⟩ = some (.int .i64 (C a))) ∧
    w3.heap.size = w.heap.size + 1 ∧ Below w.heap.size w w3 := by
  subst h
  unfold one
  have h1 := World.rowIs_alloc w #[.int .i64 (C 0), .int .i64 (C 1), .int .i64 (C 2), .int .i64 (C 3), .int .i64 (C 4), .int .i64 (C 5), .int .i64 (C 6), .int .i64 (C 7)] 57 (fun j => iv (C j)) (eight C)
  exact ⟨fun a ha => h1.cell ha, by simp, (Below.refl _ w).alloc (Nat.le_refl _) _⟩
theorem follow_f (s b d on : BitVec 64) (f : Nat → Nat) (r c m : Nat) (hr : r < 8) (hf : Af on d r = f) (hd : Dist on (on &&& d) r c (m + 1)) (w : World) :
    Calls Try.prog 37 #[.agg #[.int .u64 (U s), .int .u64 (U b), .int .u64 (U d)], .int .u64 (U on), .agg #[.int .i64 (f 0), .int .i64 (f 1), .int .i64 (f 2), .int .i64 (f 3), .int .i64 (f 4), .int .i64 (f 5), .int .i64 (f 6), .int .i64 (f 7)], .int .i64 c] w fun e w' =>
      e = .returned (.tuple #[.int .i64 ((8 * c + nextK on (on &&& d) r c m : Nat) : Int), .int .i64 ((8 * nextA on (on &&& d) r (nextK on (on &&& d) r c m) m + nextK on (on &&& d) r c m : Nat) : Int)]) ∧ Below w.heap.size w w' := by
  subst hf
  exact follow_any s b d on r c m hr hd w
theorem news_two (w : World) (n m : Nat) (t : TypeId) : ∀ j u, [iv n, iv m][j]? = some u → (w.alloc (.cells #[.int .i64 n, .int .i64 m] t)).cell? ((⟨w.heap.size, 0, none⟩ : Addr).add j) = some u := by
  intro j u hu
  rw [Addr.add_lit]
  match j, hu with
  | 0, hu => simp at hu; subst hu; simp [go_sem, iv]
  | 1, hu => simp at hu; subst hu; simp [go_sem, iv]
  | j + 2, hu => simp at hu

set_option maxHeartbeats 3200000 in
theorem refPath_far (s b d x : BitVec 64) (c r : Nat) (hc : c < 8) (hr : r < 8) (hl : (lev (phys s b x) (phys s b x &&& d) r 7).getLsbD c = false) (w : World) :
    Calls Try.prog 25 #[.agg #[.int .u64 (U s), .int .u64 (U b), .int .u64 (U d)], .int .u64 (U x), .int .i64 c, .int .i64 r] w fun e w' => e = .returned (.tuple #[.slice none 0 0, .int .i64 8]) ∧ Below w.heap.size w w' := by
  have HF := Lib.hid (Af_far hr hc hl)
  clear hl
  have t1 : decide ((c : Int) < 0) = false := by simp
  have t2 : decide (7 < (c : Int)) = false := by simp; omega
  have t3 : decide ((r : Int) < 0) = false := by simp
  have t4 : decide (7 < (r : Int)) = false := by simp; omega
  go_enter Try.func25, Try.ntmps25
  go_upto_region 5 with (first | (go_at_call 18; refine (refPhys_any s b d x _).mono ?_; rintro e w1 ⟨rfl, hb1⟩; obtain ⟨k0, k1, k2, k3, kb⟩ := keep3 hb1; clear hb1) | (go_at_call 36; refine (away_any s b d (phys s b x) r hr _).mono ?_; rintro e w2 ⟨rfl, hb2⟩; simp only [aggN, iv]))
  change Code.wp _ _ _ _ (one w2 (Af (phys s b x) d r))
  generalize hw3 : one w2 (Af (phys s b x) d r) = w3
  obtain ⟨fc, fs, fb⟩ := one_facts _ _ _ hw3
  have Hb := Lib.hid (kb.trans ((hb2.trans (fb.mono hb2.size)).mono kb.size))
  have cc := fc c hc
  rw [HF.out] at cc
  have cc' : w3.cell? ⟨w2.heap.size, c, none⟩ = some (.int .i64 0) := cc
  clear hw3 fc fs fb hb2 kb cc
  go_wp2
  go_ret2
  exact ⟨rfl, Hb.out⟩

set_option maxRecDepth 100000 in
set_option maxHeartbeats 6400000 in
theorem refPath_in (s b d x : BitVec 64) (c r m : Nat) (hr : r < 8) (hd : Dist (phys s b x) (phys s b x &&& d) r c m) (w : World) :
    Calls Try.prog 25 #[.agg #[.int .u64 (U s), .int .u64 (U b), .int .u64 (U d)], .int .u64 (U x), .int .i64 c, .int .i64 r] w fun e w' =>
      ∃ v, e = .returned (.tuple #[v, .int .i64 0]) ∧ w'.ownsRow w.heap.size 3 1 v (2 * m + 1) ((pathL (phys s b x) (phys s b x &&& d) r m c).map iv) ∧ Below w.heap.size w w' := by
  have hc := hd.lt
  have HD := Lib.hid hd
  have hm := hd.seven
  have hC := Af_dist hr hd
  clear hd
  have t1 : decide ((c : Int) < 0) = false := by simp
  have t2 : decide (7 < (c : Int)) = false := by simp; omega
  have t3 : decide ((r : Int) < 0) = false := by simp
  have t4 : decide (7 < (r : Int)) = false := by simp; omega
  go_enter Try.func25, Try.ntmps25
  go_upto_region 5 with (first | (go_at_call 18; refine (refPhys_any s b d x _).mono ?_; rintro e w1 ⟨rfl, hb1⟩; obtain ⟨k0, k1, k2, k3, kb⟩ := keep3 hb1; clear hb1) | (go_at_call 36; refine (away_any s b d (phys s b x) r hr _).mono ?_; rintro e w2 ⟨rfl, hb2⟩; simp only [aggN, iv]))
  change Code.wp _ _ _ _ (one w2 (Af (phys s b x) d r))
  generalize hw3 : one w2 (Af (phys s b x) d r) = w3
  obtain ⟨fc, fs, fb⟩ := one_facts _ _ _ hw3
  have Hb := Lib.hid (kb.trans ((hb2.trans (fb.mono hb2.size)).mono kb.size))
  have cc := fc c hc
  rw [hC] at cc
  have tt : (((2 * m + 1 : Nat) : Int) == 0) = false := by rw [beq_eq_false_iff_ne]; omega
  have tt' : ((2 * (m : Int) + 1) == 0) = false := by rw [beq_eq_false_iff_ne]; omega
  have Hfc := Lib.hid fc
  have keep : ∀ o v, w1.cell? ⟨w.heap.size, o, none⟩ = some v → w3.cell? ⟨w.heap.size, o, none⟩ = some v := fun o v h => by
    rw [fb.cell (p := ⟨w.heap.size, o, none⟩) (Nat.lt_of_lt_of_le k3 hb2.size), hb2.cell (p := ⟨w.heap.size, o, none⟩) k3]
    exact h
  have HX := Lib.hid (And.intro (keep _ _ k0) (And.intro (keep _ _ k1) (keep _ _ k2)))
  have hlt : w2.heap.size < w3.heap.size := by omega
  have hlt0 : w.heap.size < w3.heap.size := by have := hb2.size; omega
  have HAf := Lib.hid (show ∀ c m, Dist (phys s b x) (phys s b x &&& d) r c m → Af (phys s b x) d r c = 2 * m + 1 from fun c m h => Af_dist hr h)
  generalize hf : Af (phys s b x) d r = f at *
  have Hf := Lib.hid hf
  clear hf
  clear hw3 fc fs fb hb2 kb hC k0 k1 k2 k3 keep
  generalize w2.heap.size = B at *
  clear w1 w2
  go_wp2
  obtain ⟨i0, hi, hz0, hz1, hz2⟩ := info_parts Try.info3
  go_loopg [2, 12] (m + 1) (fun g a v wr => ∃ (n at_ : Nat), g = n + 1 ∧ a = .int .i64 at_ ∧ PA (phys s b x) (phys s b x &&& d) r m c w3.heap.size w3 n at_ v wr)
  case atStart => exact ⟨m, c, rfl, rfl, HD.out, ⟨[], World.ownsRow_nil _ _ _ _, rfl⟩, Below.refl _ _⟩
  case round =>
    obtain ⟨n, at_, hg, rfl, hP⟩ := hrel
    have HP := Lib.hid hP
    have Hg := Lib.hid hg
    have hat := hP.dist.lt
    have hn7 := hP.dist.seven
    have hrb := hP.below
    have cC := Hfc.out at_ hat
    rw [HAf.out _ _ hP.dist] at cC
    have cC' : wr.cell? ⟨B, at_, none⟩ = some (.int .i64 ((2 * n + 1 : Nat) : Int)) := by rw [hrb.cell (p := ⟨B, at_, none⟩) hlt]; exact cC
    have cN : ∀ j, j < 8 → wr.cell? ⟨B, j, none⟩ = some (.int .i64 (f j)) := fun j hj => by rw [hrb.cell (p := ⟨B, j, none⟩) hlt]; exact Hfc.out j hj
    have HcN := Lib.hid cN
    have x0 : wr.cell? ⟨w.heap.size, 0, none⟩ = some (.int .u64 (U s)) := by rw [hrb.cell (p := ⟨w.heap.size, 0, none⟩) hlt0]; exact HX.out.1
    have x1 : wr.cell? ⟨w.heap.size, 1, none⟩ = some (.int .u64 (U b)) := by rw [hrb.cell (p := ⟨w.heap.size, 1, none⟩) hlt0]; exact HX.out.2.1
    have x2 : wr.cell? ⟨w.heap.size, 2, none⟩ = some (.int .u64 (U d)) := by rw [hrb.cell (p := ⟨w.heap.size, 2, none⟩) hlt0]; exact HX.out.2.2
    have Hbr := Lib.hid hrb
    clear hP hg hrb cC cN
    obtain ⟨xs, hown, hpath⟩ := HP.out.owns
    have HO := Lib.hid hown
    have Hpath := Lib.hid hpath
    have HLen := Lib.hid (show xs.length + (2 * n + 1) = 2 * m + 1 by
      have := congrArg List.length hpath
      rw [List.length_append, pathL_length, pathL_length] at this
      exact this)
    clear hown hpath
    obtain ⟨vn, hvn⟩ : ∃ y : Int, ((2 * n + 1 : Nat) : Int) = y := ⟨_, rfl⟩
    rw [hvn] at cC'
    by_cases hn0 : n = 0
    · have e1 : decide (1 < vn) = false := by simp; omega
      have v1 : 0 ≤ vn := by omega
      have v2 : vn ≤ 100 := by omega
      have Hn0 := Lib.hid hn0
      clear hn0 hvn cc tt tt'
      have hsz : w3.heap.size ≤ wr.heap.size := Hbr.out.size
      go_wp2_with (at_builtin; refine wpList_append_own _ rfl _ _ 32 rfl (w3.heap.size) 3 i0 (.int .i64 0) 1 8 Try.underlying32 hi hz0 hz1 hz2 rfl (by decide) _ xs.length (xs.map iv) rfl (HO.out.alloc _) ⟨wr.heap.size, 0, none⟩ 1 1 [iv (8 * at_ + r)] rfl rfl (news_one _ _ _ (by omega) _) ?c2 ?c3 ?c4 ?c5 ?c6)
      case c2 => intro u hu; simp at hu; subst hu; rfl
      case c3 => have := HLen.out; unfold maxLen; omega
      case c4 => have := HLen.out; omega
      case c5 => simp; omega
      intro v' w4 hown4 hgr4 _
      have HO4 := Lib.hid hown4
      have HG4 := Lib.hid hgr4
      clear hown4 hgr4
      go_wp2
      go_ret2
      refine ⟨v', rfl, ?_, ?_⟩
      · have hL := HLen.out
        have hp : xs ++ [8 * at_ + r] = pathL (phys s b x) (phys s b x &&& d) r m c := by
          have h1 := Hpath.out
          rw [Hn0.out] at h1
          rw [← h1]; rfl
        have h0 := Hn0.out
        have h4 := HO4.out
        rw [← hp, List.map_append, show 2 * m + 1 = xs.length + 1 by omega]
        exact owns_mono h4 (Nat.le_of_lt hlt0)
      · exact Hb.out.trans ((Hbr.out.trans (((Below.refl _ _).alloc hsz _).grown HG4.out (by simp; omega) (fun q hq => (HO.out.lt q hq).1))).mono (Nat.le_of_lt hlt0))
    · have e1 : decide (1 < vn) = true := by simp; omega
      have v1 : 0 ≤ vn := by omega
      have v2 : vn ≤ 100 := by omega
      obtain ⟨p, rfl⟩ : ∃ p, n = p + 1 := ⟨n - 1, by omega⟩
      clear hn0 hvn cc tt tt'
      have q0 := HcN.out 0 (by omega)
      have q1 := HcN.out 1 (by omega)
      have q2 := HcN.out 2 (by omega)
      have q3 := HcN.out 3 (by omega)
      have q4 := HcN.out 4 (by omega)
      have q5 := HcN.out 5 (by omega)
      have q6 := HcN.out 6 (by omega)
      have q7 := HcN.out 7 (by omega)
      have HK := Lib.hid (nextK_spec HP.out.dist)
      have HA := Lib.hid (nextA_spec HK.out.2.2.1)
      have HC := Lib.hid (follow_f s b d (phys s b x) f r at_ p hr Hf.out HP.out.dist)
      have Hpath' := Lib.hid (show xs ++ [8 * at_ + nextK (phys s b x) (phys s b x &&& d) r at_ p, 8 * nextA (phys s b x) (phys s b x &&& d) r (nextK (phys s b x) (phys s b x &&& d) r at_ p) p + nextK (phys s b x) (phys s b x &&& d) r at_ p] ++ pathL (phys s b x) (phys s b x &&& d) r p (nextA (phys s b x) (phys s b x &&& d) r (nextK (phys s b x) (phys s b x &&& d) r at_ p) p) = pathL (phys s b x) (phys s b x &&& d) r m c by
        rw [← Hpath.out, pathL]; simp)
      have hk8 := HK.out.1
      have ha8 := HA.out.1
      have Hd' := Lib.hid HA.out.2.2.1
      clear HK HA
      generalize nextA (phys s b x) (phys s b x &&& d) r (nextK (phys s b x) (phys s b x &&& d) r at_ p) p = a at *
      generalize nextK (phys s b x) (phys s b x &&& d) r at_ p = k at *
      obtain ⟨y, hy⟩ : ∃ y, y = 8 * at_ + k := ⟨_, rfl⟩
      obtain ⟨z, hz⟩ : ∃ z, z = 8 * a + k := ⟨_, rfl⟩
      have HC' := Lib.hid (show ∀ w, Calls Try.prog 37 #[.agg #[.int .u64 (U s), .int .u64 (U b), .int .u64 (U d)], .int .u64 (U (phys s b x)), .agg #[.int .i64 (f 0), .int .i64 (f 1), .int .i64 (f 2), .int .i64 (f 3), .int .i64 (f 4), .int .i64 (f 5), .int .i64 (f 6), .int .i64 (f 7)], .int .i64 at_] w fun e w' =>
        e = .returned (.tuple #[.int .i64 (y : Nat), .int .i64 (z : Nat)]) ∧ Below w.heap.size w w' by rw [hy, hz]; exact HC.out)
      have dz : (z : Int) / 8 = (a : Int) := by omega
      have y64 : y < 64 := by omega
      have z64 : z < 64 := by omega
      have Hy := Lib.hid hy
      have Hz := Lib.hid hz
      have wa : IntKind.i64.wrap (a : Int) = (a : Int) := IntWalk.i64_in _ (by omega)
      clear hy hz HC
      go_wp2_with fail
      refine (HC'.out _).mono ?_
      rintro e w5 ⟨rfl, hb5⟩
      have Hb5 := Lib.hid hb5
      have HO5 := Lib.hid (owns_below HO.out hb5)
      have hsz : w3.heap.size ≤ w5.heap.size := Nat.le_trans Hbr.out.size hb5.size
      clear hb5 x0 x1 x2 q0 q1 q2 q3 q4 q5 q6 q7 cC'
      go_wp2_with (at_builtin; refine wpList_append_own _ rfl _ _ 32 rfl (w3.heap.size) 3 i0 (.int .i64 0) 1 8 Try.underlying32 hi hz0 hz1 hz2 rfl (by decide) _ xs.length (xs.map iv) rfl (HO5.out.alloc _) ⟨w5.heap.size, 0, none⟩ 2 2 [iv y, iv z] rfl rfl (news_two _ _ _ _) ?d2 ?d3 ?d4 ?d5 ?d6)
      case d2 => intro u hu; simp at hu; rcases hu with rfl | rfl <;> rfl
      case d3 => have := HLen.out; unfold maxLen; omega
      case d4 => have := HLen.out; omega
      case d5 => simp; omega
      intro v' w4 hown4 hgr4 _
      have HO4 := Lib.hid hown4
      have HG4 := Lib.hid hgr4
      clear hown4 hgr4
      go_wp2
      go_roundg (p + 1)
      case measure => have := Hg.out; omega
      case rel =>
        refine ⟨p, a, rfl, rfl, Hd'.out, ⟨xs ++ [y, z], ?_, ?_⟩, ?_⟩
        · have := HO4.out
          simpa using this
        · have h1 := Hpath'.out
          rw [← Hy.out, ← Hz.out] at h1
          exact h1
        · exact Hbr.out.trans ((Hb5.out.mono Hbr.out.size).trans (((Below.refl _ _).alloc hsz _).grown HG4.out (by simp; omega) (fun q hq => (HO5.out.lt q hq).1)))
end Go.Proofs.Ytpboblanjngeeaa
