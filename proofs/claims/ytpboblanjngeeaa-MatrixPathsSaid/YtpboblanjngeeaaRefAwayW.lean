/-
  The reference's 'away': it hands back the values of the eight rounds. No condition but r below 8.
-/
import Derived.Test.YtpboblanjngeeaaDistW
import Derived.Test.YtpboblanjngeeaaRefDist
import Derived.Deep.LoopGhost
import Derived.Deep.RegionHeld3
namespace Go.Proofs.Ytpboblanjngeeaa
open Go.RowKit
attribute [local go_sem] shr_min64 shr_min8 shl_min64 U_shr U_shr' U_shl U_shl' U_shl1 U_and U_or U_andNot U_and1 U_bit U_bit0 U_to8 B8_to64 B8_shr B8_shr' B8_shl B8_shl' B8_shl1 B8_pow U_pow B8_and B8_or B8_andNot B8_and1 B8_bit B8_bit0 Later.cell

theorem refHas_v (x : BitVec 64) (s : Nat) (v : Bool) (hs : s ≤ 1000) (hv : tb x s = v) (w : World) :
    Calls Try.prog 38 #[.int .u64 (U x), .int .i64 s] w fun e w' => e = .returned (.bool v) ∧ w' = w :=
  (refHas_any x s hs w).mono fun _ _ ⟨h1, h2⟩ => ⟨by rw [← hv]; exact h1, h2.symm⟩
/-- What the loops of 'away' carry. -/
structure WA (w0 : World) (B : Nat) (d : BitVec 64) (n : Nat → Nat) (w : World) : Prop where
  c : w.rowIs (B + 1 + 1) 57 8 (fun j => iv (n j))
  e : w.rowIs (B + 1) 57 8 (fun _ => iv 0)
  f : w.cell? ⟨B, 2, none⟩ = some (.int .u64 (U d))
  b : Below B w0 w
theorem WA.set {w0 w : World} {B : Nat} {d : BitVec 64} {n : Nat → Nat} (h : WA w0 B d n w) (i v : Nat) : WA w0 B d (upd n i v) (w.setCell ⟨B + 1 + 1, i, none⟩ (iv v)) where
  c := (h.c.set i (iv v)).congr fun j _ => by
    show (if j = i then iv v else iv (n j)) = iv (upd n i v j)
    unfold upd; split <;> rfl
  e := h.e.setOther (by simp) _
  f := by rw [World.cell?_setCell_other _ _ _ _ (fun h => by have := congrArg Addr.block h; simp at this; omega)]; exact h.f
  b := h.b.setCell (by show B ≤ B + 1 + 1; omega) _
theorem WA.drew {w0 w : World} {B : Nat} {d : BitVec 64} {n : Nat → Nat} (h : WA w0 B d n w) : WA w0 B d n w.drew := ⟨h.c, h.e, h.f, h.b.drew⟩
theorem WA.drewN {w0 w : World} {B : Nat} {d : BitVec 64} {n : Nat → Nat} (h : WA w0 B d n w) (k : Nat) : WA w0 B d n (w.drewN k) := ⟨h.c, h.e, h.f, below_drewN h.b k⟩
theorem WA.start (w : World) (f0 f1 : Value) (d : BitVec 64) : WA w w.heap.size d (fun _ => 0) (((w.alloc (.cells #[f0, f1, .int .u64 (U d)] 24)).alloc
    (.cells #[.int .i64 0, .int .i64 0, .int .i64 0, .int .i64 0, .int .i64 0, .int .i64 0, .int .i64 0, .int .i64 0] 57)).alloc
    (.cells #[.int .i64 0, .int .i64 0, .int .i64 0, .int .i64 0, .int .i64 0, .int .i64 0, .int .i64 0, .int .i64 0] 57)) :=
  have h := DA.start w f0 f1 d
  ⟨h.r, h.c, h.f, h.b⟩

theorem a_off (on d : BitVec 64) (r n s : Nat) (hs : s < 64) (h : tb on s = false) : aTo on d r (64 * n + s + 1) = aTo on d r (64 * n + s) := by
  show aSw on d r ((64 * n + s) % 64) _ = _
  rw [show (64 * n + s) % 64 = s by omega]
  unfold aSw
  unfold tb at h
  rw [if_neg (by rw [h]; exact Bool.false_ne_true)]
theorem a_end (on d : BitVec 64) (r n s c : Nat) (hs : s < 64) (h : tb on s = true) (hr : s % 8 = r) (hc : s / 8 = c) : aTo on d r (64 * n + s + 1) = upd (aTo on d r (64 * n + s)) c 1 := by
  show aSw on d r ((64 * n + s) % 64) _ = _
  rw [show (64 * n + s) % 64 = s by omega]
  unfold aSw
  unfold tb at h
  rw [if_pos h, if_pos hr, hc]
theorem a_row (on d : BitVec 64) (r n s c k : Nat) (hs : s < 64) (h : tb on s = true) (hr : ¬ k = r) (hk : s % 8 = k) (hc : s / 8 = c) : aTo on d r (64 * n + s + 1) = aRow on d c k 8 (aTo on d r (64 * n + s)) := by
  show aSw on d r ((64 * n + s) % 64) _ = _
  rw [show (64 * n + s) % 64 = s by omega]
  unfold aSw
  unfold tb at h
  rw [if_pos h, hk, if_neg hr, hc]
theorem sub_no (on d : BitVec 64) (c k a t : Nat) (ht : t = 8 * a + k) (n : Nat → Nat) (h : ¬ (tb on t = true ∧ tb d t = true ∧ 0 < n a ∧ (n c = 0 ∨ n a + 2 < n c))) : aSub on d c k a n = n := by
  unfold aSub; unfold tb at h; rw [← ht, if_neg h]
theorem sub_yes (on d : BitVec 64) (c k a t : Nat) (ht : t = 8 * a + k) (n : Nat → Nat) (h : tb on t = true ∧ tb d t = true ∧ 0 < n a ∧ (n c = 0 ∨ n a + 2 < n c)) : aSub on d c k a n = upd n c (n a + 2) := by
  unfold aSub; unfold tb at h; rw [← ht, if_pos h]

set_option maxRecDepth 100000 in
set_option maxHeartbeats 6400000 in
theorem away_any (s b d on : BitVec 64) (r : Nat) (_hr : r < 8) (w : World) :
    Calls Try.prog 36 #[.agg #[.int .u64 (U s), .int .u64 (U b), .int .u64 (U d)], .int .u64 (U on), .int .i64 r] w fun e w' =>
      e = .returned (aggN (Af on d r)) ∧ Below w.heap.size w w' := by
  go_enter Try.func36, Try.ntmps36
  go_wp2
  go_loopg [8] 8 (fun g i wr => ∃ n, n ≤ 8 ∧ g = 8 - n ∧ i = .int .i64 n ∧ WA w w.heap.size d (aTo on d r (64 * n)) wr)
  case atStart => exact ⟨0, by omega, rfl, rfl, WA.start w _ _ d⟩
  case round =>
    obtain ⟨n, hn, hg, rfl, hD⟩ := hrel
    have HD := Lib.hid hD
    have Hg := Lib.hid hg
    clear hg
    by_cases hn8 : n < 8
    · clear hD
      have hn8' : decide ((n : Int) < 8) = true := by simp; omega
      go_wp2
      go_loopg [9] 64 (fun g i wr => ∃ t, t ≤ 64 ∧ g = 64 - t ∧ i = .int .i64 t ∧ WA w w.heap.size d (aTo on d r (64 * n + t)) wr)
      case atStart => exact ⟨0, by omega, rfl, rfl, HD.out⟩
      case round =>
        clear HD
        obtain ⟨t, ht, hg, rfl, hD⟩ := hrel
        have HD := Lib.hid hD
        have Hgt := Lib.hid hg
        clear hg
        by_cases ht64 : t < 64
        · have ht64' : decide ((t : Int) < 64) = true := by simp; omega
          cases hp : tb on t with
          | false =>
            clear hD
            have Hp := Lib.hid hp
            go_wp2_with (go_at_call 38; refine (refHas_any on t (by omega) _).mono ?_; rintro e w2 ⟨rfl, rfl⟩)
            go_roundg (64 - (t + 1))
            case measure => have := Hgt.out; omega
            case rel => exact ⟨t + 1, by omega, rfl, by go_num, by rw [← Nat.add_assoc, a_off _ _ _ _ _ ht64 Hp.out]; exact HD.out⟩
          | true =>
            obtain ⟨c, k, hc, hk, htc, htk, dc, dk⟩ : ∃ c k, c < 8 ∧ k < 8 ∧ t / 8 = c ∧ t % 8 = k ∧ (t : Int) / 8 = (c : Int) ∧ (t : Int) % 8 = (k : Int) := ⟨t / 8, t % 8, by omega, by omega, rfl, rfl, by omega, by omega⟩
            by_cases hkr : k = r
            · have HE := Lib.hid (a_end on d r n t c ht64 hp (by omega) htc)
              have q1 : ((k : Int) == (r : Int)) = true := by rw [beq_iff_eq]; omega
              have fc := hD.c.frozen c
              have cc := hD.c.cell hc
              simp only [iv] at cc
              clear hD hkr htc htk
              go_wp2_with (go_at_call 38; refine (refHas_any on t (by omega) _).mono ?_; rintro e w2 ⟨rfl, rfl⟩)
              go_roundg (64 - (t + 1))
              case measure => have := Hgt.out; omega
              case rel => exact ⟨t + 1, by omega, rfl, by go_num, by rw [← Nat.add_assoc, HE.out]; exact HD.out.set c 1⟩
            · have HE := Lib.hid (a_row on d r n t c k ht64 hp hkr htk htc)
              have q1 : ((k : Int) == (r : Int)) = false := by rw [beq_eq_false_iff_ne]; omega
              have HB := Lib.hid (show ∀ a j, a ≤ 8 → aRow on d c k a (aTo on d r (64 * n + t)) j ≤ 9000 from fun a j ha => by
                have := aRow_bound (on := on) (dio := d) (c := c) (k := k) (aTo_bound on d r (64 * n + t)) a j
                omega)
              generalize aTo on d r (64 * n + t) = N at *
              clear hD hkr htc htk
              go_wp2_with (go_at_call 38; refine (refHas_any on t (by omega) _).mono ?_; rintro e w2 ⟨rfl, rfl⟩)
              simp only [dk]
              go_loopg [10] 8 (fun g i wr => ∃ a y, a ≤ 8 ∧ y = 8 * a + k ∧ g = 8 - a ∧ i = .int .i64 (y : Nat) ∧ WA w w.heap.size d (aRow on d c k a N) wr)
              case atStart => exact ⟨0, k, by omega, by omega, rfl, rfl, HD.out⟩
              case round =>
                clear HD
                obtain ⟨a, y, ha, hy, hg, rfl, hD⟩ := hrel
                have HD := Lib.hid hD
                have Hga := Lib.hid hg
                clear hg
                by_cases ha8 : a < 8
                · have b1 := HB.out a a ha
                  have b2 := HB.out a c ha
                  have hy64 : y < 64 := by omega
                  have hy64' : decide ((y : Int) < 64) = true := by simp; omega
                  have dy : (y : Int) / 8 = (a : Int) := by omega
                  have wa : IntKind.i64.wrap (a : Int) = (a : Int) := IntWalk.i64_in _ (by omega)
                  have HS := Lib.hid (show aRow on d c k (a + 1) N = aSub on d c k a (aRow on d c k a N) from rfl)
                  have Hno := Lib.hid (sub_no on d c k a y hy (aRow on d c k a N))
                  have Hyes := Lib.hid (sub_yes on d c k a y hy (aRow on d c k a N))
                  generalize aRow on d c k a N = M at *
                  have fa := hD.c.frozen a
                  have fc := hD.c.frozen c
                  have ca := hD.c.cell ha8
                  have cc := hD.c.cell hc
                  have cd := hD.f
                  simp only [iv] at ca cc
                  have Hy := Lib.hid hy
                  obtain ⟨va, hva⟩ : ∃ v : Int, (M a : Int) = v := ⟨_, rfl⟩
                  obtain ⟨vc, hvc⟩ : ∃ v : Int, (M c : Int) = v := ⟨_, rfl⟩
                  have HX := Lib.hid (show iv (M a + 2) = .int .i64 (va + 2) by unfold iv; congr 1; omega)
                  rw [hva] at ca
                  rw [hvc] at cc
                  have v1 : 0 ≤ va := by omega
                  have v2 : va ≤ 9000 := by omega
                  have v3 : 0 ≤ vc := by omega
                  have v4 : vc ≤ 9000 := by omega
                  have Hva := Lib.hid hva
                  have Hvc := Lib.hid hvc
                  clear hD hy b1 b2 hva hvc
                  cases hb : tb on y with
                  | false =>
                    have HR := Lib.hid (Hno.out (fun h => by rw [hb] at h; exact Bool.false_ne_true h.1))
                    go_wp2_with fail
                    go_quiet ((go_at_call 38; exact Calls.quiet_of_same (refHas_v _ y _ (by omega) (by assumption) _)))
                    go_wp2
                    go_roundg (8 - (a + 1))
                    case measure => have := Hga.out; omega
                    case rel => exact ⟨a + 1, y + 8, by omega, by have := Hy.out; omega, rfl, by go_num, by rw [HS.out, HR.out]; exact HD.out.drewN nq⟩
                  | true =>
                  cases hdi : tb d y with
                  | false =>
                    have HR := Lib.hid (Hno.out (fun h => by rw [hdi] at h; exact Bool.false_ne_true h.2.1))
                    go_wp2_with fail
                    go_quiet ((go_at_call 38; exact Calls.quiet_of_same (refHas_v _ y _ (by omega) (by assumption) _)))
                    go_wp2
                    go_roundg (8 - (a + 1))
                    case measure => have := Hga.out; omega
                    case rel => exact ⟨a + 1, y + 8, by omega, by have := Hy.out; omega, rfl, by go_num, by rw [HS.out, HR.out]; exact HD.out.drewN nq⟩
                  | true =>
                  by_cases h0 : 0 < va
                  · have e0 : decide (0 < va) = true := by simp; omega
                    by_cases h1 : vc = 0
                    · have e1 : (vc == 0) = true := by rw [beq_iff_eq]; omega
                      have HR := Lib.hid (Hyes.out ⟨hb, hdi, by have := Hva.out; omega, .inl (by have := Hvc.out; omega)⟩)
                      go_wp2_with fail
                      go_quiet ((go_at_call 38; exact Calls.quiet_of_same (refHas_v _ y _ (by omega) (by assumption) _)))
                      go_wp2
                      go_roundg (8 - (a + 1))
                      case measure => have := Hga.out; omega
                      case rel => exact ⟨a + 1, y + 8, by omega, by have := Hy.out; omega, rfl, by go_num, by rw [HS.out, HR.out]; have h := (HD.out.drewN nq).set c (M a + 2); rw [HX.out] at h; exact h⟩
                    · have e1 : (vc == 0) = false := by rw [beq_eq_false_iff_ne]; omega
                      by_cases h2 : va + 2 < vc
                      · have e2 : decide (va + 2 < vc) = true := by simp; omega
                        have HR := Lib.hid (Hyes.out ⟨hb, hdi, by have := Hva.out; omega, .inr (by have := Hva.out; have := Hvc.out; omega)⟩)
                        go_wp2_with fail
                        go_quiet ((go_at_call 38; exact Calls.quiet_of_same (refHas_v _ y _ (by omega) (by assumption) _)))
                        go_wp2
                        go_roundg (8 - (a + 1))
                        case measure => have := Hga.out; omega
                        case rel => exact ⟨a + 1, y + 8, by omega, by have := Hy.out; omega, rfl, by go_num, by rw [HS.out, HR.out]; have h := (HD.out.drewN nq).set c (M a + 2); rw [HX.out] at h; exact h⟩
                      · have e2 : decide (va + 2 < vc) = false := by simp; omega
                        have HR := Lib.hid (Hno.out (fun h => by have := Hva.out; have := Hvc.out; omega))
                        go_wp2_with fail
                        go_quiet ((go_at_call 38; exact Calls.quiet_of_same (refHas_v _ y _ (by omega) (by assumption) _)))
                        go_wp2
                        go_roundg (8 - (a + 1))
                        case measure => have := Hga.out; omega
                        case rel => exact ⟨a + 1, y + 8, by omega, by have := Hy.out; omega, rfl, by go_num, by rw [HS.out, HR.out]; exact HD.out.drewN nq⟩
                  · have e0 : decide (0 < va) = false := by simp; omega
                    have HR := Lib.hid (Hno.out (fun h => by have := Hva.out; omega))
                    go_wp2_with fail
                    go_quiet ((go_at_call 38; exact Calls.quiet_of_same (refHas_v _ y _ (by omega) (by assumption) _)))
                    go_wp2
                    go_roundg (8 - (a + 1))
                    case measure => have := Hga.out; omega
                    case rel => exact ⟨a + 1, y + 8, by omega, by have := Hy.out; omega, rfl, by go_num, by rw [HS.out, HR.out]; exact HD.out.drewN nq⟩
                · have hy64' : decide ((y : Int) < 64) = false := by simp; omega
                  clear hD
                  go_wp2
                  go_roundg (64 - (t + 1))
                  case measure => have := Hgt.out; omega
                  case rel => exact ⟨t + 1, by omega, rfl, by go_num, by rw [← Nat.add_assoc, HE.out]; have := HD.out; rwa [show a = 8 by omega] at this⟩
        · have ht64' : decide ((t : Int) < 64) = false := by simp; omega
          clear hD
          go_wp2
          go_roundg (8 - (n + 1))
          case measure => have := Hg.out; omega
          case rel => exact ⟨n + 1, by omega, rfl, by go_num, by have := HD.out; rwa [show 64 * n + t = 64 * (n + 1) by omega] at this⟩
    · have Hn := Lib.hid (show n = 8 by omega)
      have p0 := hD.c.cell (i := 0) (by omega)
      have p1 := hD.c.cell (i := 1) (by omega)
      have p2 := hD.c.cell (i := 2) (by omega)
      have p3 := hD.c.cell (i := 3) (by omega)
      have p4 := hD.c.cell (i := 4) (by omega)
      have p5 := hD.c.cell (i := 5) (by omega)
      have p6 := hD.c.cell (i := 6) (by omega)
      have p7 := hD.c.cell (i := 7) (by omega)
      have fc : ∀ j, wr.frozen? ⟨w.heap.size + 1, j, none⟩ = false := hD.e.frozen
      have u0 := hD.e.cell (i := 0) (by omega)
      have u1 := hD.e.cell (i := 1) (by omega)
      have u2 := hD.e.cell (i := 2) (by omega)
      have u3 := hD.e.cell (i := 3) (by omega)
      have u4 := hD.e.cell (i := 4) (by omega)
      have u5 := hD.e.cell (i := 5) (by omega)
      have u6 := hD.e.cell (i := 6) (by omega)
      have u7 := hD.e.cell (i := 7) (by omega)
      simp only [iv] at p0 p1 p2 p3 p4 p5 p6 p7 u0 u1 u2 u3 u4 u5 u6 u7
      have Hb := Lib.hid hD.b
      have HSt := Lib.hid (show aTo on d r (64 * n) = Af on d r by rw [Hn.out]; rfl)
      generalize aTo on d r (64 * n) = S at *
      clear hD HD
      go_wp2
      refine bodyPost_ret (v := aggN S) (by simp [results, Try.results36, go_sem, aggN, iv, u0, u1, u2, u3, u4, u5, u6, u7]) rfl ⟨by rw [HSt.out], ?_⟩
      repeat (refine Below.setCell ?_ (show w.heap.size ≤ w.heap.size + 1 from Nat.le_add_right _ 1) _)
      exact Hb.out
end Go.Proofs.Ytpboblanjngeeaa
