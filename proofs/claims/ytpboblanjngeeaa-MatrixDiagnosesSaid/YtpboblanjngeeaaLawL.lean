/-
  The walk of the law MatrixDiagnoses: for all arguments it hands back true, and nothing that was there turns.
-/
import Derived.Test.YtpboblanjngeeaaLawI
import Derived.Test.YtpboblanjngeeaaLawK
import Derived.Test.YtpboblanjngeeaaRow3
import Derived.Deep.RegionHeld3
import Derived.Deep.AppendLies
namespace Go.Proofs.Ytpboblanjngeeaa
open Go.RowKit
attribute [local go_sem] shr_min64 shr_min8 shl_min64 U_shr U_shr' U_shl U_shl' U_shl1 U_and U_or U_andNot U_and1 U_bit U_bit0 U_to8 B8_to64 B8_shr B8_shr' B8_shl B8_shl' B8_shl1 B8_pow U_pow B8_and B8_or B8_andNot B8_and1 B8_bit B8_bit0 Later.cell
attribute [local go_sem] U_not

/-! The plain law -/
theorem alw_bit (R : Nat → BitVec 64) (i : Nat) (hi : i < 64) : ∀ n, (alw R n).getLsbD i = true ↔ ∀ j, j < n → (R j).getLsbD i = true
  | 0 => ⟨fun _ j hj => absurd hj (by omega), fun _ => AA_bit i hi⟩
  | n + 1 => by
    rw [alw, BitVec.getLsbD_and, Bool.and_eq_true, alw_bit R i hi n]
    exact ⟨fun ⟨h1, h2⟩ j hj => by
      by_cases e : j = n
      · rw [e]; exact h2
      · exact h1 j (by omega), fun h => ⟨fun j hj => h j (by omega), h n (by omega)⟩⟩
theorem som_bit (R : Nat → BitVec 64) (i : Nat) : ∀ n, (som R n).getLsbD i = true ↔ ∃ j, j < n ∧ (R j).getLsbD i = true
  | 0 => by
    rw [som]; simp
  | n + 1 => by
    rw [som, BitVec.getLsbD_or, Bool.or_eq_true, som_bit R i n]
    constructor
    · rintro (⟨j, h1, h2⟩ | h)
      · exact ⟨j, by omega, h2⟩
      · exact ⟨n, by omega, h⟩
    · rintro ⟨j, h1, h2⟩
      by_cases e : j = n
      · rw [e] at h2; exact .inr h2
      · exact .inl ⟨j, by omega, h2⟩
theorem opn_bit (C : Nat → BitVec 64) (i : Nat) (hi : i < 64) : ∀ n, (opn C n).getLsbD i = true ↔ ∃ j, j < n ∧ (C j).getLsbD i = false
  | 0 => by
    rw [opn]; simp
  | n + 1 => by
    rw [opn, BitVec.getLsbD_or, Bool.or_eq_true, opn_bit C i hi n, BitVec.getLsbD_not, decide_eq_true hi, Bool.true_and, Bool.not_eq_true']
    constructor
    · rintro (⟨j, h1, h2⟩ | h)
      · exact ⟨j, by omega, h2⟩
      · exact ⟨n, by omega, h⟩
    · rintro ⟨j, h1, h2⟩
      by_cases e : j = n
      · rw [e] at h2; exact .inr h2
      · exact .inl ⟨j, by omega, h2⟩
section
variable (s b : BitVec 64) (C R : Nat → BitVec 64) (n : Nat) (hR : ∀ j, R j = phys s b (C j))
include hR
theorem diag_stuck : (alw R n &&& opn C n) &&& s &&& ~~~b = opn C n &&& s &&& ~~~b := by
  apply BitVec.eq_of_getLsbD_eq
  intro i hi
  simp only [BitVec.getLsbD_and, BitVec.getLsbD_not, decide_eq_true hi, Bool.true_and]
  cases hs : s.getLsbD i with
  | false => simp
  | true =>
    cases hb : b.getLsbD i with
    | true => simp
    | false =>
      have : (alw R n).getLsbD i = true := (alw_bit R i hi n).2 fun j _ => by rw [hR, phys_bit _ _ _ _ hi, hs, hb]; simp
      rw [this]; simp
theorem diag_only : (alw R n &&& opn C n) &&& ~~~s = 0#64 := sub_zero fun i h => by
  have hi : i < 64 := Classical.byContradiction fun hn => by
    rw [BitVec.getLsbD_of_ge _ _ (by omega)] at h; exact Bool.noConfusion h
  rw [BitVec.getLsbD_and, Bool.and_eq_true] at h
  obtain ⟨j, hj, hc⟩ := (opn_bit C i hi n).1 h.2
  have h1 := (alw_bit R i hi n).1 h.1 j hj
  rw [hR, phys_bit _ _ _ _ hi, hc, Bool.false_or, Bool.and_eq_true] at h1
  exact h1.1
theorem diag_broken : som C n &&& ~~~som R n = som C n &&& b := by
  apply BitVec.eq_of_getLsbD_eq
  intro i hi
  simp only [BitVec.getLsbD_and, BitVec.getLsbD_not, decide_eq_true hi, Bool.true_and]
  cases hc : (som C n).getLsbD i with
  | false => simp
  | true =>
    rw [Bool.true_and, Bool.true_and]
    obtain ⟨j, hj, hcj⟩ := (som_bit C i n).1 hc
    cases hb : b.getLsbD i with
    | true =>
      cases hr : (som R n).getLsbD i with
      | false => rfl
      | true =>
        obtain ⟨l, _, hl⟩ := (som_bit R i n).1 hr
        rw [hR, phys_bit _ _ _ _ hi, hb] at hl
        simp at hl
    | false =>
      have : (som R n).getLsbD i = true := (som_bit R i n).2 ⟨j, hj, by rw [hR, phys_bit _ _ _ _ hi, hcj, hb]; simp⟩
      rw [this]; rfl
end

/-! The walk -/
def cellsL (C R : Nat → BitVec 64) : Nat → List Value
  | 0 => []
  | k + 1 => cellsL C R k ++ [.int .u64 (U (C k)), .int .u64 (U (R k))]
theorem cellsL_get (C R : Nat → BitVec 64) : ∀ n, (cellsL C R n).length = n * 2 ∧ ∀ j, j < n → (cellsL C R n)[j * 2]? = some (.int .u64 (U (C j))) ∧ (cellsL C R n)[j * 2 + 1]? = some (.int .u64 (U (R j)))
  | 0 => ⟨rfl, fun j hj => absurd hj (by omega)⟩
  | n + 1 => by
    obtain ⟨h1, h2⟩ := cellsL_get C R n
    rw [cellsL]
    refine ⟨by rw [List.length_append, h1]; simp; omega, fun j hj => ?_⟩
    by_cases e : j = n
    · subst e
      rw [List.getElem?_append_right (by omega), List.getElem?_append_right (by omega), h1, Nat.sub_self, show j * 2 + 1 - j * 2 = 1 by omega]
      exact ⟨rfl, rfl⟩
    · rw [List.getElem?_append_left (by omega), List.getElem?_append_left (by omega)]
      exact h2 j (by omega)
theorem HoldsS.of_owns {w : World} {base n : Nat} {v : Value} {C R : Nat → BitVec 64} (h : w.ownsRow base 50 2 v n (cellsL C R n)) : HoldsS w v n C R := by
  rcases h.2 with ⟨rfl, hn⟩ | ⟨g, cap, cur, rfl, _, hg, _⟩
  · exact ⟨none, 0, by rw [hn], .inl hn⟩
  · refine ⟨_, cap, rfl, .inr ⟨g, 0, rfl, (Array.getElem?_eq_some_iff.1 hg).1, fun j hj => ?_⟩⟩
    obtain ⟨c0, c1⟩ := (cellsL_get C R n).2 j hj
    have e0 := h.cells (g := g) rfl _ _ c0
    have e1 := h.cells (g := g) rfl _ _ c1
    rw [Addr.add_lit] at e0 e1
    exact ⟨e0, by rw [Nat.add_assoc]; exact e1⟩

set_option maxRecDepth 100000 in
set_option maxHeartbeats 3200000 in
theorem matrixDiagnoses_walk (s b d : BitVec 64) (v : Value) (n : Nat) (C : Nat → BitVec 64) (w : World) (hv : HoldsU w v n C) :
    Calls Try.prog 13 #[.agg #[.int .u64 (U s), .int .u64 (U b), .int .u64 (U d)], v] w fun e w' => e = .returned (.bool true) ∧ Below w.heap.size w w' := by
  obtain ⟨a, cap, rfl, hv⟩ := hv
  have HV := Lib.hid hv
  clear hv
  cases hs : safeB s b d with
  | false =>
    go_enter Try.func13, Try.ntmps13
    go_wp2_with fail
    refine (refSafe_val hs _).mono ?_
    rintro e w1 ⟨rfl, hb1⟩
    obtain ⟨k0, k1, k2, k3, hb⟩ := keep3 hb1
    have Hb := Lib.hid hb
    clear hb1 hb
    go_wp2_with fail
    refine (sane_any _).mono ?_
    rintro e w3 ⟨rfl, hb3⟩
    have Hb3 := Lib.hid hb3
    clear hb3
    go_wp2
    go_ret
    exact ⟨rfl, Hb.out.trans (Hb3.out.mono Hb.out.size)⟩
  | true =>
  by_cases hn : 100 < n
  · have t1 : decide (100 < (n : Int)) = true := by simp; omega
    go_enter Try.func13, Try.ntmps13
    go_wp2_with fail
    refine (refSafe_val hs _).mono ?_
    rintro e w1 ⟨rfl, hb1⟩
    obtain ⟨k0, k1, k2, k3, hb⟩ := keep3 hb1
    have Hb := Lib.hid hb
    clear hb1 hb
    go_wp2_with fail
    refine (sane_any _).mono ?_
    rintro e w3 ⟨rfl, hb3⟩
    have Hb3 := Lib.hid hb3
    clear hb3
    go_wp2
    go_ret
    exact ⟨rfl, Hb.out.trans (Hb3.out.mono Hb.out.size)⟩
  have t1 : decide (100 < (n : Int)) = false := by simp; omega
  have HR := Lib.hid (show ∀ j, (fun j => scanB s b d (C j)) j = phys s b (C j) from fun j => safe_scan hs (C j))
  go_enter Try.func13, Try.ntmps13
  go_wp2_with fail
  refine (refSafe_val hs _).mono ?_
  rintro e w1 ⟨rfl, hb1⟩
  obtain ⟨k0, k1, k2, k3, hb⟩ := keep3 hb1
  have Hb := Lib.hid hb
  clear hb1 hb hs
  have KF := Lib.hid (show ∀ wr, Below w1.heap.size w1 wr → wr.cell? ⟨w.heap.size, 0, none⟩ = some (.int .u64 (U s)) ∧ wr.cell? ⟨w.heap.size, 1, none⟩ = some (.int .u64 (U b)) ∧ wr.cell? ⟨w.heap.size, 2, none⟩ = some (.int .u64 (U d)) from fun wr hb =>
    ⟨by rw [hb.cell (p := ⟨w.heap.size, 0, none⟩) k3]; exact k0, by rw [hb.cell (p := ⟨w.heap.size, 1, none⟩) k3]; exact k1, by rw [hb.cell (p := ⟨w.heap.size, 2, none⟩) k3]; exact k2⟩)
  have hw1 : w.heap.size < w1.heap.size := k3
  have KV := Lib.hid (show n = 0 ∨ ∃ g off, a = some ⟨g, off, none⟩ ∧ ∀ wr, Below w1.heap.size w1 wr → ∀ j, j < n → wr.cell? ⟨g, off + j, none⟩ = some (.int .u64 (U (C j))) from
    HV.out.imp id fun ⟨g, off, h1, h2, h3⟩ => ⟨g, off, h1, fun wr hb j hj => by
      rw [hb.cell (p := ⟨g, off + j, none⟩) (by show g < _; omega), Hb.out.cell (p := ⟨g, off + j, none⟩) h2]; exact h3 j hj⟩)
  clear k0 k1 k2 k3 HV
  obtain ⟨i0, hi, hz0, hz1, hz2⟩ := info_parts Try.info50
  go_wp2
  go_loopg [5, 6, 7, 8] n (fun g v5 v6 v7 i wr => ∃ k : Nat, k ≤ n ∧ g = n - k ∧ i = .int .i64 k ∧ v6 = .int .u64 (U (opn C k)) ∧ v7 = .int .u64 (U (som C k)) ∧ wr.ownsRow w1.heap.size 50 2 v5 k (cellsL C (fun j => scanB s b d (C j)) k) ∧ Below w1.heap.size w1 wr)
  case atStart => exact ⟨0, by omega, rfl, rfl, rfl, rfl, World.ownsRow_nil _ _ _ _, Below.refl _ _⟩
  case round =>
    obtain ⟨k, hk, hg, rfl, rfl, rfl, hO, hB⟩ := hrel
    have Hg := Lib.hid hg
    have HO := Lib.hid hO
    have HB := Lib.hid hB
    clear hg hO hB
    obtain ⟨g0, g1, g2⟩ := KF.out _ HB.out
    have hsz := HB.out.size
    by_cases hkn : k < n
    · obtain ⟨gg, off, rfl, hcell⟩ := KV.out.resolve_left (by omega)
      have HC := Lib.hid hcell
      have cx := HC.out _ HB.out k hkn
      clear hcell
      have b1 : (0 : Int) ≤ (k : Int) := by omega
      have b2 : (k : Int) < (n : Int) := by omega
      have b3 : decide ((k : Int) < (n : Int)) = true := by simp; omega
      have H1 := Lib.hid (show opn C (k + 1) = opn C k ||| ~~~C k from rfl)
      have H2 := Lib.hid (show som C (k + 1) = som C k ||| C k from rfl)
      have H3 := Lib.hid (show cellsL C (fun j => scanB s b d (C j)) (k + 1) = cellsL C (fun j => scanB s b d (C j)) k ++ [.int .u64 (U (C k)), .int .u64 (U (scanB s b d (C k)))] from rfl)
      have KC := Lib.hid (show ∀ wx, Below w1.heap.size w1 wx → wx.cell? ⟨gg, off + k, none⟩ = some (.int .u64 (U (C k))) from fun wx hb => HC.out wx hb k hkn)
      generalize C k = ck at *
      go_wp2_with fail
      go_region_held3 (fun w' => w'.cell? ⟨w.heap.size, 0, none⟩ = some (.int .u64 (U s)) ∧ w'.cell? ⟨w.heap.size, 1, none⟩ = some (.int .u64 (U b)) ∧ w'.cell? ⟨w.heap.size, 2, none⟩ = some (.int .u64 (U d)) ∧ w'.cell? ⟨gg, off + k, none⟩ = some (.int .u64 (U ck))) (go_keep)
        (first
          | (go_at_call 19; refine (scan_any _ _ _ _ _).mono ?_; rintro e w2 ⟨rfl, hb2⟩; have hb2' := HB.out.trans (((Below.refl _ wr).drew.trans hb2).mono HB.out.size); obtain ⟨m0, m1, m2⟩ := KF.out _ hb2'; have mx := KC.out _ hb2'; have HO2 := owns_below HO.out ((Below.refl _ wr).drew.trans hb2); have hsz2 := hb2'.size)
          | (refine step_append_lies _ (by rfl) _ _ _ (by rfl) w1.heap.size 50 i0 _ 2 16 Try.underlying44 hi hz0 hz1 hz2 rfl (by decide) u5 k (cellsL C (fun j => scanB s b d (C j)) k) (by rfl) (HO2.alloc _) ⟨w2.heap.size, 0, none⟩ 1 1 [.int .u64 (U ck), .int .u64 (U (scanB s b d ck))] (by rfl) rfl (World.news_of_block (heap_alloc_new _ _)) (by intro u hu; simp at hu; rcases hu with rfl | rfl <;> rfl) (by decide) (by unfold maxLen; omega) (by omega) (by simp; omega) _ rfl ?_
             intro gn capn w5 hown5 hgr5 _ _
             have hb5 := hb2'.trans (((Below.refl _ w2).alloc hsz2 _).grown hgr5 (by simp; omega) (fun q hq => (HO2.lt q hq).1))
             obtain ⟨n0, n1, n2⟩ := KF.out _ hb5
             have nx := KC.out _ hb5))
      have HO5 := Lib.hid hown5
      have HB5 := Lib.hid hb5
      clear hown5 hb5 hgr5 hb2 hb2' HO2
      go_wp2
      go_roundg (n - (k + 1))
      case measure => have := Hg.out; omega
      case rel => exact ⟨k + 1, by omega, rfl, by go_num, by rw [H1.out], by rw [H2.out], by rw [H3.out]; exact HO5.out, HB5.out⟩
    · have b3 : decide ((k : Int) < (n : Int)) = false := by simp; omega
      obtain rfl : k = n := by omega
      have HS := Lib.hid (HoldsS.of_owns HO.out)
      have q1 := diag_stuck s b C _ k HR.out
      have q2 := diag_only s b C _ k HR.out
      have q3 := diag_broken s b C _ k HR.out
      have HC := Lib.hid (suspects_in u5 k C (fun j => scanB s b d (C j)) wr HS.out (by omega))
      generalize alw (fun j => scanB s b d (C j)) k = al at *
      generalize som (fun j => scanB s b d (C j)) k = so at *
      generalize opn C k = op at *
      generalize som C k = sc at *
      have p1 : (U (al &&& op &&& s &&& ~~~b) == U (op &&& s &&& ~~~b)) = true := by rw [q1]; simp
      have p2 : (U (al &&& op &&& ~~~s) == 0) = true := by rw [q2]; rfl
      have p3 : (U (sc &&& ~~~so) == U (sc &&& b)) = true := by rw [q3]; simp
      clear q1 q2 q3
      go_wp2_with fail
      refine HC.out.mono ?_
      rintro e w2 ⟨rfl, hb2⟩
      have HB2 := Lib.hid (HB.out.trans (hb2.mono HB.out.size))
      clear hb2 g0 g1 g2
      obtain ⟨g0, g1, g2⟩ := KF.out _ HB2.out
      go_wp2_with fail
      refine (sane_any _).mono ?_
      rintro e w3 ⟨rfl, hb3⟩
      have Hb3 := Lib.hid hb3
      clear hb3
      go_wp2
      go_ret
      exact ⟨rfl, Hb.out.trans ((HB2.out.trans (Hb3.out.mono HB2.out.size)).mono Hb.out.size)⟩
end Go.Proofs.Ytpboblanjngeeaa
