/-
  The reference's 'follow': it hands back the next two switches of the first shortest path.
-/
import Derived.Test.YtpboblanjngeeaaRefAwayW
import Derived.Test.YtpboblanjngeeaaPathW
namespace Go.Proofs.Ytpboblanjngeeaa
open Go.RowKit
attribute [local go_sem] shr_min64 shr_min8 shl_min64 U_shr U_shr' U_shl U_shl' U_shl1 U_and U_or U_andNot U_and1 U_bit U_bit0 U_to8 B8_to64 B8_shr B8_shr' B8_shl B8_shl' B8_shl1 B8_pow U_pow B8_and B8_or B8_andNot B8_and1 B8_bit B8_bit0 Later.cell

/-- What the loops of 'follow' carry. -/
structure FA (w0 : World) (B : Nat) (d : BitVec 64) (f : Nat → Nat) (w : World) : Prop where
  c : ∀ a, a < 8 → w.cell? ⟨B + 1, a, none⟩ = some (.int .i64 (f a))
  f : w.cell? ⟨B, 2, none⟩ = some (.int .u64 (U d))
  b : Below B w0 w
theorem FA.drewN {w0 w : World} {B : Nat} {d : BitVec 64} {f : Nat → Nat} (h : FA w0 B d f w) (k : Nat) : FA w0 B d f (w.drewN k) := ⟨h.c, h.f, below_drewN h.b k⟩
set_option maxRecDepth 100000 in
set_option maxHeartbeats 3200000 in
theorem follow_at (s b d on : BitVec 64) (f : Nat → Nat) (c m kf af : Nat) (hc : c < 8) (hfc : f c = 2 * m + 3) (hb : ∀ j, f j ≤ 9000) (hkf : kf < 8) (haf : af < 8)
    (hyes : tb on (8 * c + kf) = true ∧ tb on (8 * af + kf) = true ∧ tb d (8 * af + kf) = true ∧ f af = 2 * m + 1)
    (hno : ∀ k a, k ≤ kf → a < 8 → (k = kf → a < af) → tb on (8 * c + k) = true → tb on (8 * a + k) = true → tb d (8 * a + k) = true → f a ≠ 2 * m + 1) (w : World) :
    Calls Try.prog 37 #[.agg #[.int .u64 (U s), .int .u64 (U b), .int .u64 (U d)], .int .u64 (U on), aggN f, .int .i64 c] w fun e w' =>
      e = .returned (.tuple #[.int .i64 ((8 * c + kf : Nat) : Int), .int .i64 ((8 * af + kf : Nat) : Int)]) ∧ Below w.heap.size w w' := by
  have Hyes := Lib.hid hyes
  have Hno := Lib.hid hno
  have Hfc := Lib.hid hfc
  have Hb := Lib.hid hb
  clear hyes hno hb
  unfold aggN iv
  go_enter Try.func37, Try.ntmps37
  go_wp2
  obtain ⟨w1, hw1⟩ : ∃ w1, w1 = (w.alloc (.cells #[.int .u64 (U s), .int .u64 (U b), .int .u64 (U d)] 24)).alloc (.cells #[.int .i64 (f 0), .int .i64 (f 1), .int .i64 (f 2), .int .i64 (f 3), .int .i64 (f 4), .int .i64 (f 5), .int .i64 (f 6), .int .i64 (f 7)] 57) := ⟨_, rfl⟩
  have cd : w1.cell? ⟨w.heap.size, 2, none⟩ = some (.int .u64 (U d)) := by rw [hw1]; simp [go_sem]
  have Hb1 := Lib.hid (show Below w.heap.size w w1 by rw [hw1]; exact ((Below.refl _ w).alloc (Nat.le_refl _) _).alloc (by simp) _)
  have HN := Lib.hid (show ∀ a, a < 8 → w1.cell? ⟨w.heap.size + 1, a, none⟩ = some (.int .i64 (f a)) by
    intro a ha
    have h2 := World.rowIs_alloc (w.alloc (.cells #[.int .u64 (U s), .int .u64 (U b), .int .u64 (U d)] 24)) #[.int .i64 (f 0), .int .i64 (f 1), .int .i64 (f 2), .int .i64 (f 3), .int .i64 (f 4), .int .i64 (f 5), .int .i64 (f 6), .int .i64 (f 7)] 57 (fun j => iv (f j)) (eight f)
    have e2 : (w.alloc (.cells #[.int .u64 (U s), .int .u64 (U b), .int .u64 (U d)] 24)).heap.size = w.heap.size + 1 := by simp
    rw [e2] at h2
    rw [hw1]
    exact h2.cell ha)
  rw [← hw1]
  clear hw1
  obtain ⟨vc, hvc⟩ : ∃ v : Int, (f c : Int) = v := ⟨_, rfl⟩
  have v3 : 0 ≤ vc := by omega
  have v4 : vc ≤ 9000 := by have := Hb.out c; omega
  have Hvc := Lib.hid hvc
  have HF0 := Lib.hid (show FA w w.heap.size d f w1 from ⟨HN.out, cd, Hb1.out⟩)
  clear hvc hfc cd HN Hb1
  go_loopg [10] 8 (fun g i wr => ∃ k y, k ≤ kf ∧ y = 8 * c + k ∧ g = 8 - k ∧ i = .int .i64 (y : Nat) ∧ FA w w.heap.size d f wr)
  case atStart => exact ⟨0, 8 * c, by omega, by omega, rfl, by go_num, HF0.out⟩
  case round =>
    obtain ⟨k, y, hk, hy, hg, rfl, hF⟩ := hrel
    have Hg := Lib.hid hg
    have HF := Lib.hid hF
    clear hg hF
    have hy64 : y < 64 := by omega
    have hyc : decide ((y : Int) < 8 * (c : Int) + 8) = true := by simp; omega
    have dk : (y : Int) % 8 = (k : Int) := by omega
    have hk8 : k < 8 := by omega
    have HON := Lib.hid (show k = kf → tb on y = true from fun h => by rw [hy, h]; exact Hyes.out.1)
    have Hy := Lib.hid hy
    have Hk := Lib.hid hk
    clear hy hk
    go_wp2
    simp only [dk]
    go_loopg [11] 8 (fun g i wr => ∃ a t, a ≤ 8 ∧ (k = kf → a ≤ af) ∧ t = 8 * a + k ∧ g = 8 - a ∧ i = .int .i64 (t : Nat) ∧ FA w w.heap.size d f wr)
    case atStart => exact ⟨0, k, by omega, fun _ => by omega, by omega, rfl, rfl, HF.out⟩
    case round =>
      obtain ⟨a, t, ha, haa, ht, hg, rfl, hF⟩ := hrel
      have Hga := Lib.hid hg
      have HF := Lib.hid hF
      have cd := hF.f
      have cc := hF.c c hc
      rw [Hvc.out] at cc
      have Ht := Lib.hid ht
      have Haa := Lib.hid haa
      have ht100 : t < 100 := by omega
      clear hg haa hF
      cases hS : tb on y with
      | false =>
        have HS := Lib.hid hS
        clear ht
        go_wp2_with (go_at_call 38; refine (refHas_any on y (by omega) _).mono ?_; rintro e w2 ⟨rfl, rfl⟩)
        go_roundg (8 - (k + 1))
        case measure => have := Hg.out; omega
        case rel => exact ⟨k + 1, y + 1, by have h1 := HON.out; have h2 := HS.out; have h3 := Hk.out; have h4 : k ≠ kf := fun h => by { rw [h1 h] at h2; exact Bool.noConfusion h2 }; omega, by have := Hy.out; omega, rfl, by go_num, HF.out⟩
      | true =>
      by_cases ha8 : a < 8
      · have ht64 : decide ((t : Int) < 64) = true := by simp; omega
        have dy : (t : Int) / 8 = (a : Int) := by omega
        have wa : IntKind.i64.wrap (a : Int) = (a : Int) := IntWalk.i64_in _ (by omega)
        have wc : IntKind.i64.wrap (c : Int) = (c : Int) := IntWalk.i64_in _ (by omega)
        have ca := HF.out.c a ha8
        obtain ⟨va, hva⟩ : ∃ v : Int, (f a : Int) = v := ⟨_, rfl⟩
        rw [hva] at ca
        have v1 : 0 ≤ va := by omega
        have v2 : va ≤ 9000 := by have := Hb.out a; omega
        have Hva := Lib.hid hva
        have HS := Lib.hid hS
        clear hva ht
        have HGo := Lib.hid (show ¬ (tb on t = true ∧ tb d t = true ∧ va = vc - 2) → k = kf → a + 1 ≤ af from fun h he => by
          have h1 := Haa.out he
          refine Classical.byContradiction fun h2 => h ?_
          have h3 : a = af := by omega
          have h4 := Hyes.out
          rw [Ht.out, h3, he]
          exact ⟨h4.2.1, h4.2.2.1, by have := Hva.out; have := Hvc.out; have := Hfc.out; have := h4.2.2.2; rw [h3] at *; omega⟩)
        cases hb : tb on t with
        | false =>
          have HR := Lib.hid (HGo.out (fun h => by rw [hb] at h; exact Bool.false_ne_true h.1))
          go_wp2_with (go_at_call 38; refine (refHas_any on y (by omega) _).mono ?_; rintro e w2 ⟨rfl, rfl⟩)
          go_quiet ((go_at_call 38; exact Calls.quiet_of_same (refHas_v _ t _ (by omega) (by assumption) _)))
          go_wp2
          go_roundg (8 - (a + 1))
          case measure => have := Hga.out; omega
          case rel => exact ⟨a + 1, t + 8, by omega, HR.out, by have := Ht.out; omega, rfl, by go_num, HF.out.drewN nq⟩
        | true =>
        cases hdi : tb d t with
        | false =>
          have HR := Lib.hid (HGo.out (fun h => by rw [hdi] at h; exact Bool.false_ne_true h.2.1))
          go_wp2_with (go_at_call 38; refine (refHas_any on y (by omega) _).mono ?_; rintro e w2 ⟨rfl, rfl⟩)
          go_quiet ((go_at_call 38; exact Calls.quiet_of_same (refHas_v _ t _ (by omega) (by assumption) _)))
          go_wp2
          go_roundg (8 - (a + 1))
          case measure => have := Hga.out; omega
          case rel => exact ⟨a + 1, t + 8, by omega, HR.out, by have := Ht.out; omega, rfl, by go_num, HF.out.drewN nq⟩
        | true =>
        by_cases h0 : 0 < va
        · have e0 : decide (0 < va) = true := by simp; omega
          by_cases h1 : va = vc - 2
          · have e1 : (va == vc - 2) = true := by rw [beq_iff_eq]; omega
            have HE := Lib.hid (show k = kf ∧ a = af by
              have h3 := Hva.out; have h4 := Hvc.out; have h5 := Hfc.out; have h6 := Hk.out
              refine Classical.byContradiction fun hn => Hno.out k a h6 ha8 (fun he => ?_) (by rw [← Hy.out]; exact HS.out) (by rw [← Ht.out]; exact hb) (by rw [← Ht.out]; exact hdi) (by omega)
              have := Haa.out he
              omega)
            clear h1 h0
            go_wp2_with (go_at_call 38; refine (refHas_any on y (by omega) _).mono ?_; rintro e w2 ⟨rfl, rfl⟩)
            go_quiet ((go_at_call 38; exact Calls.quiet_of_same (refHas_v _ t _ (by omega) (by assumption) _)))
            go_wp2
            go_ret2
            refine ⟨?_, ?_⟩
            · rw [Hy.out, Ht.out, HE.out.1, HE.out.2]; rfl
            · exact below_drewN HF.out.b _
          · have e1 : (va == vc - 2) = false := by rw [beq_eq_false_iff_ne]; omega
            have HR := Lib.hid (HGo.out (fun h => h1 h.2.2))
            clear h1 h0
            go_wp2_with (go_at_call 38; refine (refHas_any on y (by omega) _).mono ?_; rintro e w2 ⟨rfl, rfl⟩)
            go_quiet ((go_at_call 38; exact Calls.quiet_of_same (refHas_v _ t _ (by omega) (by assumption) _)))
            go_wp2
            go_roundg (8 - (a + 1))
            case measure => have := Hga.out; omega
            case rel => exact ⟨a + 1, t + 8, by omega, HR.out, by have := Ht.out; omega, rfl, by go_num, HF.out.drewN nq⟩
        · have e0 : decide (0 < va) = false := by simp; omega
          have HR := Lib.hid (HGo.out (fun h => by have := Hvc.out; have := Hfc.out; omega))
          clear h0
          go_wp2_with (go_at_call 38; refine (refHas_any on y (by omega) _).mono ?_; rintro e w2 ⟨rfl, rfl⟩)
          go_quiet ((go_at_call 38; exact Calls.quiet_of_same (refHas_v _ t _ (by omega) (by assumption) _)))
          go_wp2
          go_roundg (8 - (a + 1))
          case measure => have := Hga.out; omega
          case rel => exact ⟨a + 1, t + 8, by omega, HR.out, by have := Ht.out; omega, rfl, by go_num, HF.out.drewN nq⟩
      · have ht64 : decide ((t : Int) < 64) = false := by simp; omega
        clear ht
        go_wp2_with (go_at_call 38; refine (refHas_any on y (by omega) _).mono ?_; rintro e w2 ⟨rfl, rfl⟩)
        go_roundg (8 - (k + 1))
        case measure => have := Hg.out; omega
        case rel => exact ⟨k + 1, y + 1, by have h1 := Haa.out; have h3 := Hk.out; have h4 : k ≠ kf := fun h => by { have := h1 h; omega }; omega, by have := Hy.out; omega, rfl, by go_num, HF.out⟩
theorem follow_any (s b d on : BitVec 64) (r c m : Nat) (hr : r < 8) (hd : Dist on (on &&& d) r c (m + 1)) (w : World) :
    Calls Try.prog 37 #[.agg #[.int .u64 (U s), .int .u64 (U b), .int .u64 (U d)], .int .u64 (U on), aggN (Af on d r), .int .i64 c] w fun e w' =>
      e = .returned (.tuple #[.int .i64 ((8 * c + nextK on (on &&& d) r c m : Nat) : Int), .int .i64 ((8 * nextA on (on &&& d) r (nextK on (on &&& d) r c m) m + nextK on (on &&& d) r c m : Nat) : Int)]) ∧ Below w.heap.size w w' := by
  obtain ⟨h1, h2, h3, h4⟩ := nextK_spec hd
  obtain ⟨g1, g2, g3, g4⟩ := nextA_spec h3
  refine follow_at s b d on (Af on d r) c m _ _ hd.lt (by rw [Af_dist hr hd]; omega) (fun j => by have := Af_bound on d r j; omega) h1 g1 ?_ ?_ w
  · rw [BitVec.getLsbD_and, Bool.and_eq_true] at g2
    exact ⟨h2, g2.1, g2.2, Af_dist hr g3⟩
  · intro k a hk ha hka ho hoa hda hf
    have hb : (on &&& d).getLsbD (8 * a + k) = true := by rw [BitVec.getLsbD_and, Bool.and_eq_true]; exact ⟨hoa, hda⟩
    have hD := (Af_eq hr ha).1 hf
    by_cases he : k = nextK on (on &&& d) r c m
    · have := hka he
      rw [he] at hb
      exact g4 a this ⟨hb, hD⟩
    · exact h4 k (by omega) ⟨ho, a, ha, hb, hD⟩
end Go.Proofs.Ytpboblanjngeeaa
