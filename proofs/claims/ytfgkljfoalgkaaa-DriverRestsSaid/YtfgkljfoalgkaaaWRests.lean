/-
  The walk of the law DriverRests: for all arguments it hands back true, and nothing that was there turns.
-/
import Derived.Test.YtfgkljfoalgkaaaRestP
import Derived.Test.YtfgkljfoalgkaaaGuard
import Derived.Test.YtfgkljfoalgkaaaWRuns
namespace Go.Proofs.Ytfgkljfoalgkaaa
open Go.RowKit Go.Deep
attribute [local go_sem] shr_min32 shl_min32 W_shr W_shr' W_shl W_shl' W_shl1 W_shl1n W_pow W_and W_or W_andNot W_and1 W_bit W_bit0

theorem w_cellR {w : World} {g off n : Nat} {E : Nat → BitVec 32} (h : ∀ j, j < n → ∀ k u, (wcells (E j))[k]? = some u → w.cell? ⟨g, off + j * 1 + k, none⟩ = some u) {j : Nat} (hj : j < n) : w.cell? ⟨g, off + j, none⟩ = some (.int .u32 (W (E j))) := by
  have := h j hj 0 _ rfl
  rwa [Nat.mul_one, Nat.add_zero] at this
set_option maxRecDepth 100000 in
set_option maxHeartbeats 12800000 in
theorem driverRests_walk (a1 : Option Addr) (n k1 : Nat) (a2 : Option Addr) (nt k2 : Nat) (C : Nat → Coil) (L : Nat → OL) (w : World)
    (h1 : HoldsC w (.slice a1 n k1) n C) (h2 : HoldsL w (.slice a2 nt k2) nt L) (_ : n ≤ k1) (hnk : nt ≤ k2) (hk2 : k2 ≤ 9223372036854775807) :
    Calls Try.prog 12 #[.agg #[.slice a1 n k1, .slice a2 nt k2]] w fun e w' => e = .returned (.bool true) ∧ Below w.heap.size w w' := by
  have hal := (Below.refl w.heap.size w).alloc (Nat.le_refl _) (.cells #[.slice a1 n k1, .slice a2 nt k2] 50)
  have hls : w.heap.size < (w.alloc (.cells #[.slice a1 n k1, .slice a2 nt k2] 50)).heap.size := by simp
  have HAL := Lib.hid hal
  have H1 := Lib.hid (h1.below hal (Nat.le_refl _))
  have H2 := Lib.hid (h2.below hal (Nat.le_refl _))
  clear h1 h2 hal
  go_enter Try.func12, Try.ntmps12
  try simp only [List.append_eq, List.cons_append, List.nil_append]
  go_wp2_with fail
  refine (begun_any _ _ n nt C L _ (by omega) H1.out H2.out).mono ?_
  rintro e w1 ⟨vs, b, rfl, hf, hb1⟩
  obtain ⟨y0, y1, hlt, hBB⟩ := keep2 hb1
  have HB1 := Lib.hid hb1
  have HF := Lib.hid hf
  clear hb1 hf hnk hk2
  cases b with
  | false =>
    go_wp2_with fail
    refine (dsane _).mono ?_
    rintro e w9 ⟨rfl, hb9⟩
    have HB9 := Lib.hid (hBB.trans (hb9.mono hBB.size))
    clear hb9
    go_wp2
    go_ret
    exact ⟨rfl, HB9.out⟩
  | true =>
    clear hBB
    obtain ⟨hE, hD, hnt, hln⟩ := HF.out rfl
    have HC1 := Lib.hid (H1.out.below HB1.out (Nat.le_refl _))
    have HL1 := Lib.hid (H2.out.below HB1.out (Nat.le_refl _))
    have HD1 := Lib.hid hD
    have HLN := Lib.hid hln
    have HEE := Lib.hid hE
    have HBW := Lib.hid (HAL.out.trans (HB1.out.mono (Nat.le_of_lt hls)))
    have hn32 := (validE_zero hE).1
    have HY := Lib.hid (show w1.cell? ⟨w.heap.size, 0, none⟩ = some (.slice a1 n k1) ∧ w1.cell? ⟨w.heap.size, 1, none⟩ = some (.slice a2 nt k2) ∧ w.heap.size < w1.heap.size from ⟨y0, y1, hlt⟩)
    clear H1 H2 HB1 HAL hls HF hD hE hln
    go_wp2
    clear y0 y1 hlt
    go_loopg [5] nt (fun gg i wr => ∃ t : Nat, t ≤ nt ∧ gg = nt - t ∧ i = .int .i64 t ∧ (∀ j, j < t → ∀ q, q < (L j).n → ((L j).os q).kind ≠ 2) ∧ Below w1.heap.size w1 wr)
    case atStart => exact ⟨0, by omega, rfl, rfl, fun j hj => absurd hj (by omega), Below.refl _ _⟩
    case round =>
      obtain ⟨t, ht, hgg, rfl, hG, hb⟩ := hrel
      have Hg := Lib.hid hgg
      have HG := Lib.hid hG
      have Hb := Lib.hid hb
      clear hgg hG hb
      obtain ⟨y0, y1, hlt⟩ := keepB Hb.out HY.out
      by_cases htn : t < nt
      · obtain ⟨g3, o3, rfl, l3, hc3⟩ := HL1.out.1.open2 htn
        have c3 := list_cell (hc3 _ Hb.out) htn
        have b1 : (0 : Int) ≤ (t : Int) := by omega
        have b2 : (t : Int) < (nt : Int) := by omega
        have b3 : decide ((t : Int) < (nt : Int)) = true := by simp; omega
        have HO := Lib.hid (HL1.out.2 t htn)
        have HC3 := Lib.hid (fun w' (hb : Below w1.heap.size w1 w') => list_cell (hc3 w' hb) htn)
        have hlt20 := HLN.out t htn
        obtain ⟨al, nl, cl, ol, hL⟩ : ∃ al nl cl ol, L t = ⟨al, nl, cl, ol⟩ := ⟨_, _, _, _, rfl⟩
        rw [hL] at c3 HO HC3 hlt20
        have HLT := Lib.hid hL
        clear hc3 hL
        go_wp2
        clear y0 y1 hlt c3
        go_loopg [6] nl (fun gg i wx => ∃ k : Nat, k ≤ nl ∧ gg = nl - k ∧ i = .int .i64 k ∧ (∀ q, q < k → (ol q).kind ≠ 2) ∧ Below w1.heap.size w1 wx)
        case atStart => exact ⟨0, by omega, rfl, rfl, fun j hj => absurd hj (by omega), Hb.out⟩
        case round =>
          obtain ⟨k, hk, hgk, rfl, hGk, hbk⟩ := hrel
          have Hgk := Lib.hid hgk
          have HGk := Lib.hid hGk
          have Hbk := Lib.hid hbk
          clear hgk hGk hbk
          obtain ⟨y0, y1, hlt⟩ := keepB Hbk.out HY.out
          have c3 := HC3.out _ Hbk.out
          by_cases hkl : k < nl
          · obtain ⟨g4, o4, e4, l4, hc4⟩ := Holds.open2 HO.out hkl
            simp only at e4
            subst e4
            obtain ⟨d0, d1⟩ := order_cells (hc4 _ Hbk.out) hkl
            have b4 : (0 : Int) ≤ (k : Int) := by omega
            have b5 : (k : Int) < (nl : Int) := by omega
            have b6 : decide ((k : Int) < (nl : Int)) = true := by simp; omega
            clear hc4
            by_cases hkd : (ol k).kind = 2
            · rw [hkd] at d0
              clear hkd
              go_wp2_with fail
              refine (dsane _).mono ?_
              rintro e w9 ⟨rfl, hb9⟩
              have HB9 := Lib.hid (HBW.out.trans ((Hbk.out.trans (hb9.mono Hbk.out.size)).mono HBW.out.size))
              clear hb9
              go_wp2
              go_ret
              exact ⟨rfl, HB9.out⟩
            · have t2 : ((ol k).kind == 2) = false := by rw [beq_eq_false_iff_ne]; exact hkd
              have HK := Lib.hid hkd
              clear hkd
              go_wp2
              go_roundg (nl - (k + 1))
              case measure => have := Hgk.out; omega
              case rel => exact ⟨k + 1, by omega, rfl, by go_num, fun q hq => by
                by_cases e : q = k
                · rw [e]; exact HK.out
                · exact HGk.out q (by omega), Hbk.out⟩
          · have b6 : decide ((k : Int) < (nl : Int)) = false := by simp; omega
            go_wp2
            go_roundg (nt - (t + 1))
            case measure => have := Hg.out; omega
            case rel => exact ⟨t + 1, by omega, rfl, by go_num, fun j hj q hq => by
              by_cases e : j = t
              · subst e
                rw [HLT.out] at hq ⊢
                exact HGk.out q (by have : q < nl := hq; omega)
              · exact HG.out j (by omega) q hq, Hbk.out⟩
      · have b3 : decide ((t : Int) < (nt : Int)) = false := by simp; omega
        have htn' : t = nt := by omega
        have HNH := Lib.hid (show ∀ j, j < nt → ∀ q, q < (L j).n → ((L j).os q).kind ≠ 2 from by rw [← htn']; exact HG.out)
        clear HG htn'
        go_wp2_with fail
        refine (run_ok tickC _ _ _ n n nt C (fun _ => idle) L _ (idle_state HEE.out) (HC1.out.below Hb.out (Nat.le_refl _)) (HD1.out.below Hb.out (Nat.le_refl _)) (HL1.out.below Hb.out (Nat.le_refl _)) (by omega) (fun i hi => by have := HLN.out i hi; omega)).mono ?_
        rintro e w2 ⟨va, vb, rfl, _, hW, hb2⟩
        obtain ⟨y0', y1', hlt'⟩ := keepB hb2 ⟨y0, y1, hlt⟩
        obtain ⟨aw, kw, rfl, _⟩ := id hW
        have HB2 := Lib.hid (Hb.out.trans (hb2.mono Hb.out.size))
        have HW := Lib.hid hW
        have HC2 := Lib.hid (HC1.out.below HB2.out (Nat.le_refl _))
        have HY2 := Lib.hid (show w2.cell? ⟨w.heap.size, 0, none⟩ = some (.slice a1 n k1) ∧ w2.cell? ⟨w.heap.size, 1, none⟩ = some (.slice a2 nt k2) ∧ w.heap.size < w2.heap.size from ⟨y0', y1', hlt'⟩)
        clear hb2 hW y0 y1 hlt
        go_wp2
        clear y0' y1' hlt'
        go_loopg [10] n (fun gg i wr => ∃ c : Nat, c ≤ n ∧ gg = n - c ∧ i = .int .i64 c ∧ Below w2.heap.size w2 wr)
        case atStart => exact ⟨0, by omega, rfl, rfl, Below.refl _ _⟩
        case round =>
          obtain ⟨c, hcn, hgc, rfl, hbc⟩ := hrel
          have Hgc := Lib.hid hgc
          have Hbc := Lib.hid hbc
          clear hgc hbc
          obtain ⟨y0, y1, hlt⟩ := keepB Hbc.out HY2.out
          by_cases hc : c < n
          · obtain ⟨g1, o1, rfl, l1, hc1⟩ := HC2.out.open2 hc
            obtain ⟨e0, e1, e2, e3, e4, e5⟩ := coil_cells (hc1 _ Hbc.out) hc
            have HCC := Lib.hid (fun w' (hb : Below w2.heap.size w2 w') => coil_cells (hc1 w' hb) hc)
            have hg := (goodB_iff _).1 ((validE_zero HEE.out).2 c hc)
            have hp := hg.1
            have hr0 := hg.2.2.2.2.2.2.2.1
            have hr1 := hg.2.2.2.2.2.2.2.2.1
            have b4 : (0 : Int) ≤ (c : Int) := by omega
            have b5 : (c : Int) < (n : Int) := by omega
            have b6 : decide ((c : Int) < (n : Int)) = true := by simp; omega
            clear hg hc1
            go_wp2_with fail
            go_quiet (fail)
            have HBQ := Lib.hid (below_drewN Hbc.out nq)
            clear e0 e1 e2 e3 e4 e5 y0 y1 hlt Hbc
            generalize wr.drewN nq = wq at *
            go_wp2
            go_loopg [11, 12, 13] nt (fun gg q1 q2 i wx => ∃ (k : Nat) (on off : Int), k ≤ nt ∧ gg = nt - k ∧ i = .int .i64 k ∧ q1 = .int .i64 on ∧ q2 = .int .i64 off ∧ RestInv (C c) (run n C (fun _ => idle) L k c) on off ∧ on ≤ k ∧ off ≤ 1000 + k ∧ Below w2.heap.size w2 wx)
            case atStart => exact ⟨0, 0, (C c).rest, by omega, rfl, rfl, rfl, rfl, inv_start hr0, by omega, by omega, HBQ.out⟩
            case round =>
              clear HBQ
              obtain ⟨k, on, off, hk, hgk, rfl, rfl, rfl, hI, hon, hoff, hbk⟩ := hrel
              have Hgk := Lib.hid hgk
              have HI := Lib.hid hI
              have Hbk := Lib.hid hbk
              have i0 := hI.1
              have i1 := hI.2.1
              clear hgk hI hbk
              obtain ⟨y0, y1, hlt⟩ := keepB Hbk.out HY2.out
              obtain ⟨e0, e1, e2, e3, e4, e5⟩ := HCC.out _ Hbk.out
              by_cases hkn : k < nt
              · obtain ⟨gw, ow, rfl, lw, hcw⟩ := HW.out.open2 hkn
                have d0 := w_cellR (hcw _ Hbk.out) hkn
                have b7 : (0 : Int) ≤ (k : Int) := by omega
                have b8 : (k : Int) < (nt : Int) := by omega
                have b9 : decide ((k : Int) < (nt : Int)) = true := by simp; omega
                have w1' : IntKind.i64.wrap (on + 1) = on + 1 := by rw [IntKind.wrap_i64]; omega
                have w2' : IntKind.i64.wrap (off + 1) = off + 1 := by rw [IntKind.wrap_i64]; omega
                have hNHk := HNH.out k hkn
                clear hcw
                have hbit : tb (setAt n C (fun _ => idle) L k) c = onB (C c) (qAt n C (fun _ => idle) L k c) := by
                  rw [setAt_q, setTo_bit C _ n hn32, decide_eq_true hc]; rfl
                obtain ⟨X, hX⟩ : ∃ X, setAt n C (fun _ => idle) L k = X := ⟨_, rfl⟩
                rw [hX] at hbit d0
                clear hX
                cases hob : onB (C c) (qAt n C (fun _ => idle) L k c) with
                | false =>
                  rw [hob] at hbit
                  have HN := Lib.hid (inv_tick_off hp hNHk HI.out hob)
                  clear hob hNHk e0 e1 e2 e3 e4 e5
                  go_wp2
                  go_roundg (nt - (k + 1))
                  case measure => have := Hgk.out; omega
                  case rel => exact ⟨k + 1, 0, off + 1, by omega, rfl, by go_num, rfl, rfl, HN.out, by omega, by omega, Hbk.out⟩
                | true =>
                  rw [hob] at hbit
                  obtain ⟨hA, hB, hN⟩ := inv_tick_on hp hNHk HI.out hob
                  have HN := Lib.hid hN
                  clear hob hNHk hN
                  cases q0 : (on == 0) with
                  | true =>
                    have hon0 : on = 0 := eq_of_beq q0
                    have q1 : decide (off < (C c).rest) = false := by have := hA hon0; simp; omega
                    clear hon0
                    by_cases hr : 0 < (C c).rest
                    · have q2 : decide (0 < (C c).rest) = true := decide_eq_true hr
                      have q3 : decide ((C c).pulse < on + 1) = false := by have := hB hr; simp; omega
                      clear hA hB hr hp hr0 hr1
                      go_wp2
                      go_roundg (nt - (k + 1))
                      case measure => have := Hgk.out; omega
                      case rel => exact ⟨k + 1, on + 1, 0, by omega, rfl, by go_num, rfl, rfl, HN.out, by omega, by omega, Hbk.out⟩
                    · have q2 : decide (0 < (C c).rest) = false := decide_eq_false hr
                      clear hA hB hr hp hr0 hr1
                      go_wp2
                      go_roundg (nt - (k + 1))
                      case measure => have := Hgk.out; omega
                      case rel => exact ⟨k + 1, on + 1, 0, by omega, rfl, by go_num, rfl, rfl, HN.out, by omega, by omega, Hbk.out⟩
                  | false =>
                    by_cases hr : 0 < (C c).rest
                    · have q2 : decide (0 < (C c).rest) = true := decide_eq_true hr
                      have q3 : decide ((C c).pulse < on + 1) = false := by have := hB hr; simp; omega
                      clear hA hB hr hp hr0 hr1
                      go_wp2
                      go_roundg (nt - (k + 1))
                      case measure => have := Hgk.out; omega
                      case rel => exact ⟨k + 1, on + 1, 0, by omega, rfl, by go_num, rfl, rfl, HN.out, by omega, by omega, Hbk.out⟩
                    · have q2 : decide (0 < (C c).rest) = false := decide_eq_false hr
                      clear hA hB hr hp hr0 hr1
                      go_wp2
                      go_roundg (nt - (k + 1))
                      case measure => have := Hgk.out; omega
                      case rel => exact ⟨k + 1, on + 1, 0, by omega, rfl, by go_num, rfl, rfl, HN.out, by omega, by omega, Hbk.out⟩
              · have b9 : decide ((k : Int) < (nt : Int)) = false := by simp; omega
                go_wp2
                go_roundg (n - (c + 1))
                case measure => have := Hgc.out; omega
                case rel => exact ⟨c + 1, by omega, rfl, by go_num, Hbk.out⟩
          · have b6 : decide ((c : Int) < (n : Int)) = false := by simp; omega
            have HBZ := Lib.hid (HBW.out.trans ((HB2.out.trans (Hbc.out.mono HB2.out.size)).mono HBW.out.size))
            go_wp2_with fail
            refine (dsane _).mono ?_
            rintro e w9 ⟨rfl, hb9⟩
            have HB9 := Lib.hid (HBZ.out.trans (hb9.mono HBZ.out.size))
            clear hb9
            go_wp2
            go_ret
            exact ⟨rfl, HB9.out⟩
end Go.Proofs.Ytfgkljfoalgkaaa
