/-
  The walk of the law DriverDuty: for all arguments it hands back true, and nothing that was there turns.
-/
import Derived.Test.YtfgkljfoalgkaaaSolo
import Derived.Test.YtfgkljfoalgkaaaDSane2
import Derived.Deep.RegionHeld3
namespace Go.Proofs.Ytfgkljfoalgkaaa
open Go.RowKit Go.Deep
attribute [local go_sem] shr_min32 shl_min32 W_shr W_shr' W_shl W_shl' W_shl1 W_shl1n W_pow W_and W_or W_andNot W_and1 W_bit W_bit0

theorem w_cellU {w : World} {g off n : Nat} {E : Nat → BitVec 32} (h : ∀ j, j < n → ∀ k u, (wcells (E j))[k]? = some u → w.cell? ⟨g, off + j * 1 + k, none⟩ = some u) {j : Nat} (hj : j < n) : w.cell? ⟨g, off + j, none⟩ = some (.int .u32 (W (E j))) := by
  have := h j hj 0 _ rfl
  rwa [Nat.mul_one, Nat.add_zero] at this
theorem HoldsC.one' (c : Coil) (w : World) (b : Nat) (hb : b = w.heap.size) : HoldsC (w.alloc (.cells #[.int .i64 c.pulse, .int .i64 c.on, .int .i64 c.off, .int .i64 c.rest, .int .i64 c.fuse, .int .i64 c.cur] 25)) (.slice (some ⟨b, 0, none⟩) 1 1) 1 (fun _ => c) := by
  subst hb; exact HoldsC.one c w
theorem HoldsD.one' (x : Drive) (w : World) (b : Nat) (hb : b = w.heap.size) : HoldsD (w.alloc (.cells #[.int .i64 x.phase, .int .i64 x.left, .bool x.held] 34)) (.slice (some ⟨b, 0, none⟩) 1 1) 1 (fun _ => x) := by
  subst hb; exact HoldsD.one x w
theorem HoldsD.idle' (w : World) (b : Nat) (hb : b = w.heap.size) : HoldsD (w.alloc (.cells #[.int .i64 0, .int .i64 0, .bool false] 34)) (.slice (some ⟨b, 0, none⟩) 1 1) 1 (fun _ => idle) := HoldsD.one' idle w b hb
theorem Holds.al {α : Type} {cells : α → List Value} {size : Nat} {w : World} {v : Value} {n : Nat} {f : Nat → α} (h : Holds cells size w v n f) (o : Obj) : Holds cells size (w.alloc o) v n f :=
  h.below ((Below.refl _ _).alloc (Nat.le_refl _) o) (Nat.le_refl _)
theorem Holds.dr {α : Type} {cells : α → List Value} {size : Nat} {w : World} {v : Value} {n : Nat} {f : Nat → α} (h : Holds cells size w v n f) : Holds cells size w.drew v n f := h
theorem HoldsL.al {w : World} {v : Value} {n : Nat} {f : Nat → OL} (h : HoldsL w v n f) (o : Obj) : HoldsL (w.alloc o) v n f :=
  h.below ((Below.refl _ _).alloc (Nat.le_refl _) o) (Nat.le_refl _)
theorem HoldsL.dr {w : World} {v : Value} {n : Nat} {f : Nat → OL} (h : HoldsL w v n f) : HoldsL w.drew v n f := h
set_option maxRecDepth 100000 in
set_option maxHeartbeats 12800000 in
theorem driverDuty_walk (p on off : Int) (w : World) (p0 : 0 ≤ p) (p1 : p ≤ 255) (o0 : 0 ≤ on) (o1 : on ≤ 255) (f0 : 0 ≤ off) (f1 : off ≤ 255) :
    Calls Try.prog 11 #[.int .u8 p, .int .u8 on, .int .u8 off] w fun e w' => e = .returned (.bool true) ∧ Below w.heap.size w w' := by
  go_enter Try.func11, Try.ntmps11
  try simp only [List.append_eq, List.cons_append, List.nil_append]
  go_wp2_with fail
  refine (coil_any p on off 5 _ p0 p1 o0 o1 f0 f1 (by decide) (by decide)).mono ?_
  rintro e w1 ⟨rfl, hb1⟩
  have hgood : goodB (coilF p on off 5) = true := coilF_good _ _ _ _
  obtain ⟨c, hc⟩ : ∃ c, coilF p on off 5 = c := ⟨_, rfl⟩
  have hcp : c.pulse = p % 40 + 1 := by rw [← hc]; rfl
  have hco : c.on = on % 9 := by rw [← hc]; rfl
  have hcf : c.off = if on % 9 = 0 then 0 else off % 9 := by rw [← hc]; rfl
  rw [hc] at hgood ⊢
  have HG := Lib.hid (coil1_valid c hgood)
  have hp1 : 1 ≤ c.pulse := by omega
  have hp2 : c.pulse ≤ 40 := by omega
  have ho1 : 0 ≤ c.on := by omega
  have ho2 : c.on ≤ 8 := by omega
  have hf1 : 0 ≤ c.off := by rw [hcf]; split <;> omega
  have hf2 : c.off ≤ 8 := by rw [hcf]; split <;> omega
  have hbx1 : Below w1.heap.size w1 (w1.alloc (.cells #[.int .i64 c.pulse, .int .i64 c.on, .int .i64 c.off, .int .i64 c.rest, .int .i64 c.fuse, .int .i64 c.cur] 25)) := (Below.refl _ _).alloc (Nat.le_refl _) _
  have hs1 := hb1.size
  have HB1 := Lib.hid hb1
  have HB2 := Lib.hid (hb1.trans (hbx1.mono hs1))
  have HCB := Lib.hid (show (w1.alloc (.cells #[.int .i64 c.pulse, .int .i64 c.on, .int .i64 c.off, .int .i64 c.rest, .int .i64 c.fuse, .int .i64 c.cur] 25)).cell? ⟨w1.heap.size, 0, none⟩ = some (.int .i64 c.pulse) ∧ (w1.alloc (.cells #[.int .i64 c.pulse, .int .i64 c.on, .int .i64 c.off, .int .i64 c.rest, .int .i64 c.fuse, .int .i64 c.cur] 25)).cell? ⟨w1.heap.size, 1, none⟩ = some (.int .i64 c.on) ∧ (w1.alloc (.cells #[.int .i64 c.pulse, .int .i64 c.on, .int .i64 c.off, .int .i64 c.rest, .int .i64 c.fuse, .int .i64 c.cur] 25)).cell? ⟨w1.heap.size, 2, none⟩ = some (.int .i64 c.off) ∧ (w1.alloc (.cells #[.int .i64 c.pulse, .int .i64 c.on, .int .i64 c.off, .int .i64 c.rest, .int .i64 c.fuse, .int .i64 c.cur] 25)).cell? ⟨w1.heap.size, 3, none⟩ = some (.int .i64 c.rest) ∧ (w1.alloc (.cells #[.int .i64 c.pulse, .int .i64 c.on, .int .i64 c.off, .int .i64 c.rest, .int .i64 c.fuse, .int .i64 c.cur] 25)).cell? ⟨w1.heap.size, 4, none⟩ = some (.int .i64 c.fuse) ∧ (w1.alloc (.cells #[.int .i64 c.pulse, .int .i64 c.on, .int .i64 c.off, .int .i64 c.rest, .int .i64 c.fuse, .int .i64 c.cur] 25)).cell? ⟨w1.heap.size, 5, none⟩ = some (.int .i64 c.cur) ∧ w1.heap.size < (w1.alloc (.cells #[.int .i64 c.pulse, .int .i64 c.on, .int .i64 c.off, .int .i64 c.rest, .int .i64 c.fuse, .int .i64 c.cur] 25)).heap.size from by simp [go_sem])
  clear hb1 hc hgood hcp hco hcf hbx1 hs1
  by_cases hon : c.on = 0
  · have t1 : (c.on == 0) = true := by rw [beq_iff_eq]; exact hon
    have HON := Lib.hid hon
    clear hon
    have hC := (HoldsC.one' c (w1.alloc (.cells #[.int .i64 c.pulse, .int .i64 c.on, .int .i64 c.off, .int .i64 c.rest, .int .i64 c.fuse, .int .i64 c.cur] 25)) (w1.heap.size + 1) (by simp)).al (.cells #[.int .i64 0, .int .i64 0, .bool false] 34)
    have hD := HoldsD.one' idle ((w1.alloc (.cells #[.int .i64 c.pulse, .int .i64 c.on, .int .i64 c.off, .int .i64 c.rest, .int .i64 c.fuse, .int .i64 c.cur] 25)).alloc (.cells #[.int .i64 c.pulse, .int .i64 c.on, .int .i64 c.off, .int .i64 c.rest, .int .i64 c.fuse, .int .i64 c.cur] 25)) (w1.heap.size + 1 + 1) (by simp)
    have hE : applyE 1 (fun _ => c) (fun _ => idle) ⟨2, 0⟩ = 46 := by
      unfold applyE
      simp [HON.out]
    have HC := Lib.hid hC
    have HD := Lib.hid hD
    have HE := Lib.hid hE
    have HBX := Lib.hid (show Below w1.heap.size w1 (((w1.alloc (.cells #[.int .i64 c.pulse, .int .i64 c.on, .int .i64 c.off, .int .i64 c.rest, .int .i64 c.fuse, .int .i64 c.cur] 25)).alloc (.cells #[.int .i64 c.pulse, .int .i64 c.on, .int .i64 c.off, .int .i64 c.rest, .int .i64 c.fuse, .int .i64 c.cur] 25)).alloc (.cells #[.int .i64 0, .int .i64 0, .bool false] 34)) from (((Below.refl _ _).alloc (Nat.le_refl _) _).alloc (by simp) _).alloc (by simp; omega) _)
    clear hC hD hE
    go_wp2_with fail
    refine (apply_err _ _ 1 1 (fun _ => c) (fun _ => idle) ⟨2, 0⟩ _ (idle_state HG.out) HC.out HD.out (by rw [HE.out]; decide)).mono ?_
    rintro e w3 ⟨rfl, hb3⟩
    rw [HE.out]
    have HB3 := Lib.hid (HB1.out.trans ((HBX.out.trans (hb3.mono HBX.out.size)).mono HB1.out.size))
    clear hb3
    go_wp2_with fail
    refine (dsane _).mono ?_
    rintro e w9 ⟨rfl, hb9⟩
    have HB9 := Lib.hid (HB3.out.trans (hb9.mono HB3.out.size))
    clear hb9
    go_wp2
    go_ret
    exact ⟨rfl, HB9.out⟩
  · have t1 : (c.on == 0) = false := by rw [beq_eq_false_iff_ne]; exact hon
    have hon1 : 0 < c.on := by omega
    clear hon
    obtain ⟨N, hN⟩ : ∃ N : Nat, (N : Int) = c.pulse + 10 * (c.on + c.off) := ⟨(c.pulse + 10 * (c.on + c.off)).toNat, by omega⟩
    have hN1 : 1 ≤ N := by omega
    have hN2 : N ≤ 300 := by omega
    have q1 : IntKind.i64.wrap (c.on + c.off) = c.on + c.off := by rw [IntKind.wrap_i64]; omega
    have q2 : IntKind.i64.wrap (10 * (c.on + c.off)) = 10 * (c.on + c.off) := by rw [IntKind.wrap_i64]; omega
    have q3 : IntKind.i64.wrap (c.pulse + 10 * (c.on + c.off)) = (N : Int) := by rw [IntKind.wrap_i64]; omega
    have HTK := Lib.hid (fun W => ticks_any 2 0 N W hN1 (by omega))
    have HNN := Lib.hid hN
    clear hN
    have HLN := Lib.hid (show ∀ gb i, i < N → (tickL gb 2 0 i).n ≤ 4096 from fun gb i _ => by
      unfold tickL
      by_cases e : i = 0
      · rw [if_pos e]; show 1 ≤ 4096; omega
      · rw [if_neg e]; exact Nat.zero_le _)
    go_wp2_with fail
    generalize w1.alloc (.cells #[.int .i64 c.pulse, .int .i64 c.on, .int .i64 c.off, .int .i64 c.rest, .int .i64 c.fuse, .int .i64 c.cur] 25) = w2 at *
    generalize w1.heap.size = cb at *
    have HCB2 := Lib.hid (fun w' (hb : Below w2.heap.size w2 w') => show w'.cell? ⟨cb, 0, none⟩ = some (.int .i64 c.pulse) ∧ w'.cell? ⟨cb, 1, none⟩ = some (.int .i64 c.on) ∧ w'.cell? ⟨cb, 2, none⟩ = some (.int .i64 c.off) ∧ w'.cell? ⟨cb, 3, none⟩ = some (.int .i64 c.rest) ∧ w'.cell? ⟨cb, 4, none⟩ = some (.int .i64 c.fuse) ∧ w'.cell? ⟨cb, 5, none⟩ = some (.int .i64 c.cur) from by
      obtain ⟨z0, z1, z2, z3, z4, z5, zl⟩ := HCB.out
      exact ⟨by rw [hb.cell (p := ⟨cb, 0, none⟩) zl]; exact z0, by rw [hb.cell (p := ⟨cb, 1, none⟩) zl]; exact z1, by rw [hb.cell (p := ⟨cb, 2, none⟩) zl]; exact z2, by rw [hb.cell (p := ⟨cb, 3, none⟩) zl]; exact z3, by rw [hb.cell (p := ⟨cb, 4, none⟩) zl]; exact z4, by rw [hb.cell (p := ⟨cb, 5, none⟩) zl]; exact z5⟩)
    obtain ⟨x0, x1, x2, x3, x4, x5, xl⟩ := HCB.out
    go_region_held3 (fun w' => w'.cell? ⟨cb, 0, none⟩ = some (.int .i64 c.pulse) ∧ w'.cell? ⟨cb, 1, none⟩ = some (.int .i64 c.on) ∧ w'.cell? ⟨cb, 2, none⟩ = some (.int .i64 c.off) ∧ w'.cell? ⟨cb, 3, none⟩ = some (.int .i64 c.rest) ∧ w'.cell? ⟨cb, 4, none⟩ = some (.int .i64 c.fuse) ∧ w'.cell? ⟨cb, 5, none⟩ = some (.int .i64 c.cur)) (go_keep)
      (first
        | (go_at_call 41; refine (HTK.out _).mono ?_; rintro e w5 ⟨vl, gb, rfl, hgb, hrow, hO, hb5⟩
           have hbW : Below w2.heap.size w2 w5 := by
             refine Below.trans ?_ (hb5.mono (by first | exact Nat.le_refl _ | omega | (simp; done) | (simp; omega)))
             (repeat (first | exact Below.refl _ _ | (with_reducible refine Below.drew ?_) | (with_reducible refine Below.alloc ?_ (by first | exact Nat.le_refl _ | omega | (simp; done) | (simp; omega)) _) | fail "b"))
           have hs5 := hbW.size
           obtain ⟨x0, x1, x2, x3, x4, x5⟩ := HCB2.out w5 hbW
           have HL5 := tickL_holds hrow hO)
        | (go_at_call 24; refine (run_ok tickC _ _ _ 1 1 N (fun _ => c) (fun _ => idle) (tickL gb 2 0) _ (idle_state HG.out)
             (by repeat (first | (with_reducible refine HoldsC.one' c _ _ ?_; first | rfl | (simp; done)) | (with_reducible refine Holds.al ?_ _) | (with_reducible refine Holds.dr ?_) | (refine Holds.below ?_ hb5 (Nat.le_refl _)) | fail "c"))
             (by repeat (first | (with_reducible refine HoldsD.idle' _ _ ?_; first | rfl | (simp; done)) | (with_reducible refine Holds.al ?_ _) | (with_reducible refine Holds.dr ?_) | (refine Holds.below ?_ hb5 (Nat.le_refl _)) | fail "d"))
             (by repeat (first | exact HL5 | (with_reducible refine HoldsL.al ?_ _) | (with_reducible refine HoldsL.dr ?_) | fail "l"))
             (by omega) (HLN.out gb)).mono ?_
           rintro e w6 ⟨vd, vw, rfl, _, hW, hb6⟩
           have hbZ : Below w2.heap.size w2 w6 := by
             refine Below.trans ?_ (hb6.mono (by first | exact Nat.le_refl _ | omega | (simp; done) | (simp; omega)))
             refine Below.trans hbW ?_
             (repeat (first | exact Below.refl _ _ | (with_reducible refine Below.drew ?_) | (with_reducible refine Below.alloc ?_ (by first | exact Nat.le_refl _ | omega | (simp; done) | (simp; omega)) _) | fail "b"))
           obtain ⟨x0, x1, x2, x3, x4, x5⟩ := HCB2.out w6 hbZ))
    -- TAIL
    all_goals
      have HB6 := Lib.hid hbZ
      have HW6 := Lib.hid hW
      have HDU := Lib.hid (fun t => duty_on c gb hp1 hon1 hf1 t)
      obtain ⟨aW, kW, rfl, _⟩ := id hW
      rename_i hHeld
      clear hHeld hbZ hW hb6 hb5 hbW HL5 hrow hO hs5 hgb HTK HLN HCB
      go_wp2
      clear x0 x1 x2 x3 x4 x5 xl
      go_loopg [13] N (fun gg i wx => ∃ t : Nat, t ≤ N ∧ gg = N - t ∧ i = .int .i64 t ∧ Below w6.heap.size w6 wx)
      case atStart => exact ⟨0, by omega, rfl, rfl, Below.refl _ _⟩
      case round =>
        obtain ⟨t, ht, hgt, rfl, hbt⟩ := hrel
        have Hgt := Lib.hid hgt
        have Hbt := Lib.hid hbt
        clear hgt hbt
        by_cases htN : t < N
        · obtain ⟨gw, ow, rfl, lw, hcw⟩ := HW6.out.open2 htN
          have d0 := w_cellU (hcw _ Hbt.out) htN
          obtain ⟨x0, x1, x2, _⟩ := HCB2.out _ (HB6.out.trans (Hbt.out.mono HB6.out.size))
          have b6 : (0 : Int) ≤ (t : Int) := by omega
          have b7 : (t : Int) < (N : Int) := by omega
          have b8 : decide ((t : Int) < (N : Int)) = true := by simp; omega
          have hon := HDU.out t
          obtain ⟨X, hX⟩ : ∃ X, setAt 1 (fun _ => c) (fun _ => idle) (tickL gb 2 0) t = X := ⟨_, rfl⟩
          rw [hX] at hon d0
          clear hX hcw
          by_cases hq : (t : Int) < c.pulse
          · have hqd := decide_eq_true hq
            rw [hqd, Bool.true_or] at hon
            clear hq
            go_wp2_with fail
            go_quiet (fail)
            go_wp2
            go_roundg (N - (t + 1))
            case measure => have := Hgt.out; omega
            case rel => exact ⟨t + 1, by omega, rfl, by go_num, below_drewN Hbt.out _⟩
          · have hqd := decide_eq_false hq
            rw [hqd, Bool.false_or] at hon
            have n0 : c.on + c.off ≠ 0 := by omega
            have n1 : 0 < c.on + c.off := by omega
            have n2 : 0 ≤ (t : Int) - c.pulse := by omega
            have n3 : IntKind.i64.wrap ((t : Int) - c.pulse) = (t : Int) - c.pulse := by rw [IntKind.wrap_i64]; omega
            have r0 := Int.emod_nonneg ((t : Int) - c.pulse) n0
            have r1 := Int.emod_lt_of_pos ((t : Int) - c.pulse) n1
            obtain ⟨r, hr⟩ : ∃ r, ((t : Int) - c.pulse) % (c.on + c.off) = r := ⟨_, rfl⟩
            rw [hr] at hon r0 r1
            have n4 : IntKind.i64.wrap r = r := by rw [IntKind.wrap_i64]; omega
            clear hq
            cases hb : decide (r < c.on) with
            | true =>
              rw [hb] at hon
              go_wp2_with fail
              go_quiet (fail)
              go_wp2
              go_roundg (N - (t + 1))
              case measure => have := Hgt.out; omega
              case rel => exact ⟨t + 1, by omega, rfl, by go_num, below_drewN Hbt.out _⟩
            | false =>
              rw [hb] at hon
              go_wp2_with fail
              go_quiet (fail)
              go_wp2
              go_roundg (N - (t + 1))
              case measure => have := Hgt.out; omega
              case rel => exact ⟨t + 1, by omega, rfl, by go_num, below_drewN Hbt.out _⟩
        · have b8 : decide ((t : Int) < (N : Int)) = false := by simp; omega
          have HBZ := Lib.hid (HB2.out.trans ((HB6.out.trans (Hbt.out.mono HB6.out.size)).mono HB2.out.size))
          go_wp2_with fail
          refine (dsane _).mono ?_
          rintro e w9 ⟨rfl, hb9⟩
          have HB9 := Lib.hid (HBZ.out.trans (hb9.mono HBZ.out.size))
          clear hb9
          go_wp2
          go_ret
          exact ⟨rfl, HB9.out⟩
end Go.Proofs.Ytfgkljfoalgkaaa
