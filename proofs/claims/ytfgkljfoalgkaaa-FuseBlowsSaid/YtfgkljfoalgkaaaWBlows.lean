/-
  The walk of the law FuseBlows: for all arguments it hands back true, and nothing that was there turns.
-/
import Derived.Test.YtfgkljfoalgkaaaFMono
import Derived.Test.YtfgkljfoalgkaaaFSane
namespace Go.Proofs.Ytfgkljfoalgkaaa
open Go.RowKit Go.Deep
attribute [local go_sem] shr_min32 shl_min32 W_shr W_shr' W_shl W_shl' W_shl1 W_shl1n W_pow W_and W_or W_andNot W_and1 W_bit W_bit0

def bF (r l : Int) : Nat → Fuse := fun _ => ⟨r, l⟩
def bC (y : Int) : Nat → Coil := fun _ => ⟨1, 0, 0, 0, 0, y⟩
def bS (h : Int) : Nat → FS := fun _ => ⟨h, false⟩
theorem bF_valid {r l : Int} (r0 : 0 ≤ r) (r1 : r ≤ 255) (l0 : 0 ≤ l) (l1 : l ≤ 65535) : validFE 1 (bF r l) = 0 := by
  unfold validFE
  rw [if_neg (by decide), if_pos (fun _ _ => (goodF_iff _).2 (by show 0 ≤ r ∧ r ≤ 400 ∧ 0 ≤ l ∧ l ≤ 1000000000; omega))]
theorem bC_valid {y : Int} (y0 : 0 ≤ y) (y1 : y ≤ 200) : validE 1 (bC y) = 0 := by
  unfold validE
  rw [if_neg (by decide), if_pos (fun _ _ => (goodB_iff _).2 (by unfold bC; simp; omega))]
theorem bS_state {r l h : Int} (r0 : 0 ≤ r) (r1 : r ≤ 255) (l0 : 0 ≤ l) (l1 : l ≤ 65535) (h0 : 0 ≤ h) (h1 : h ≤ l) : StateF 1 (bF r l) 1 (bS h) :=
  ⟨bF_valid r0 r1 l0 l1, rfl, fun _ _ => (okFS_iff _ _).2 ⟨h0, h1, fun h => Bool.noConfusion h⟩⟩
theorem b_live {y : Int} (y0 : 0 ≤ y) (y1 : y ≤ 200) (h : Int) : liveF 1 (bC y) 1 (bS h) 1#32 = 1#32 := by
  unfold liveF
  rw [if_pos (bC_valid y0 y1)]
  show (if liveC (bC y 0) 1 (bS h) = true then liveTo (bC y) 1 (bS h) 1#32 0 ||| (1#32 &&& 1#32 <<< 0) else liveTo (bC y) 1 (bS h) 1#32 0) = 1#32
  rw [if_pos (by unfold liveC bS; simp)]
  show 0#32 ||| (1#32 &&& 1#32 <<< 0) = 1#32
  decide
theorem b_load {y : Int} (y0 : 0 ≤ y) (y1 : y ≤ 200) : loadF 1 (bC y) 1#32 0 = y := by
  unfold loadF
  rw [if_pos (bC_valid y0 y1)]
  show (if (tb 1#32 0 && ((0 : Int) == 0)) = true then 0 + y else 0) = y
  rw [if_pos (by decide), Int.zero_add]
theorem b_tick {r l y h : Int} (y0 : 0 ≤ y) (y1 : y ≤ 200) : tickF 1 (bF r l) 1 (bC y) (bS h) 1#32 0 = if l < max (h + y * y - r * r) 0 then ⟨0, true⟩ else ⟨max (h + y * y - r * r) 0, false⟩ := by
  unfold tickF
  rw [b_live y0 y1]
  show stepF ⟨r, l⟩ ⟨h, false⟩ (loadF 1 (bC y) 1#32 0) = _
  rw [b_load y0 y1]
  rfl
/-- What stands ahead of the tick q. -/
def Heats (ex l q h : Int) : Prop := 0 ≤ h ∧ h ≤ l ∧ ((ex ≤ 0 ∧ h = 0) ∨ (0 < ex ∧ h = ex * (q - 1)))
set_option maxRecDepth 100000 in
set_option maxHeartbeats 6400000 in
theorem fuseBlows_walk (r x l : Int) (w : World) (r0 : 0 ≤ r) (r1 : r ≤ 255) (x0 : 0 ≤ x) (x1 : x ≤ 255) (l0 : 0 ≤ l) (l1 : l ≤ 65535) :
    Calls Try.prog 19 #[.int .u8 r, .int .u8 x, .int .u16 l] w fun e w' => e = .returned (.bool true) ∧ Below w.heap.size w w' := by
  have rr := sq_le r0 r1
  go_enter Try.func19, Try.ntmps19
  go_wp2_with fail
  obtain ⟨y, hy⟩ : ∃ y, x % 201 = y := ⟨_, rfl⟩
  have y0 : 0 ≤ y := by omega
  have y1 : y ≤ 200 := by omega
  have yy := sq_le y0 y1
  rw [hy]
  have hF := Holds.one (cells := Fuse.cells) ⟨r, l⟩ #[.int .i64 r, .int .i64 l] 2 79 w rfl
  have hC := Holds.one (cells := Coil.cells) ⟨1, 0, 0, 0, 0, y⟩ #[.int .i64 1, .int .i64 0, .int .i64 0, .int .i64 0, .int .i64 0, .int .i64 y] 6 25 (w.alloc (.cells #[.int .i64 r, .int .i64 l] 79)) rfl
  rw [nblk_alloc] at hC
  have hb1 : Below w.heap.size w (w.alloc (.cells #[.int .i64 r, .int .i64 l] 79)) := (Below.refl _ _).alloc (Nat.le_refl _) _
  have hb2 : Below w.heap.size w ((w.alloc (.cells #[.int .i64 r, .int .i64 l] 79)).alloc (.cells #[.int .i64 1, .int .i64 0, .int .i64 0, .int .i64 0, .int .i64 0, .int .i64 y] 25)) := hb1.alloc (by simp) _
  have hF2 := hF.below ((Below.refl _ (w.alloc (.cells #[.int .i64 r, .int .i64 l] 79))).alloc (Nat.le_refl _) (.cells #[.int .i64 1, .int .i64 0, .int .i64 0, .int .i64 0, .int .i64 0, .int .i64 y] 25)) (Nat.le_refl _)
  have HF := Lib.hid (show HoldsF _ _ 1 (bF r l) from hF2)
  have HC := Lib.hid (show HoldsC _ _ 1 (bC y) from hC)
  have HB := Lib.hid hb2
  clear hF hC hb1 hb2 hF2
  have hs : w.heap.size + 1 < ((w.alloc (.cells #[.int .i64 r, .int .i64 l] 79)).alloc (.cells #[.int .i64 1, .int .i64 0, .int .i64 0, .int .i64 0, .int .i64 0, .int .i64 y] 25)).heap.size := by simp
  generalize (w.alloc (.cells #[.int .i64 r, .int .i64 l] 79)).alloc (.cells #[.int .i64 1, .int .i64 0, .int .i64 0, .int .i64 0, .int .i64 0, .int .i64 y] 25) = wb at *
  have hcF : ∀ w', Below wb.heap.size wb w' → w'.cell? ⟨w.heap.size, 0, none⟩ = some (.int .i64 r) ∧ w'.cell? ⟨w.heap.size, 1, none⟩ = some (.int .i64 l) := by
    obtain ⟨g, o, e, _, hc⟩ := Holds.open2 HF.out (i := 0) (by decide)
    intro w' hb
    have := fuse_cells (hc w' hb) (j := 0) (by decide)
    injection e with e
    injection e with e1 e2 e3
    subst e1 e2
    exact this
  have hcC : wb.cell? ⟨w.heap.size + 1, 5, none⟩ = some (.int .i64 y) := by
    obtain ⟨g, o, e, _, hc⟩ := Holds.open2 HC.out (i := 0) (by decide)
    have := coil_cells (hc wb (Below.refl _ _)) (j := 0) (by decide)
    injection e with e
    injection e with e1 e2 e3
    subst e1 e2
    exact this.2.2.2.2.2
  obtain ⟨cF0, cF1⟩ := hcF wb (Below.refl _ _)
  have HCF := Lib.hid hcF
  clear hcF
  obtain ⟨A, hA⟩ : ∃ A, y * y = A := ⟨_, rfl⟩
  obtain ⟨B, hB⟩ : ∃ B, r * r = B := ⟨_, rfl⟩
  rw [hA] at yy
  rw [hB] at rr
  obtain ⟨A0, A1⟩ := yy
  obtain ⟨B0, B1⟩ := rr
  have wA : IntKind.i64.wrap A = A := IntWalk.i64_in _ (by omega)
  have wB : IntKind.i64.wrap B = B := IntWalk.i64_in _ (by omega)
  go_quiet (fail)
  obtain ⟨ex, hex⟩ : ∃ ex, A - B = ex := ⟨_, rfl⟩
  have hx1 : ex ≤ 40000 := by omega
  have hx0 : -65025 ≤ ex := by omega
  have hnl : ∀ h : Int, h + y * y - r * r = h + ex := fun h => by rw [hA, hB]; omega
  have HNL := Lib.hid hnl
  clear hnl
  go_wp2_with fail
  rw [hex]
  have hbd : Below wb.heap.size wb (wb.drewN nq) := below_drewN (Below.refl _ _) _
  refine (fnew _ 1 (bF r l) _ (HF.out.below hbd (Nat.le_refl _))).mono ?_
  rintro e w3 ⟨v', rfl, hT, hb3⟩
  rw [bF_valid r0 r1 l0 l1]
  rw [bF_valid r0 r1 l0 l1, if_pos rfl] at hT
  have HT3 := Lib.hid (show HoldsT w3 v' 1 (bS 0) from hT)
  have HB3 := Lib.hid (hbd.trans (hb3.mono hbd.size))
  clear hT hb3 hbd wA wB hcC cF0 cF1 hA hB hex
  go_wp2
  go_loopg [10, 12] 40 (fun gg s i wr => ∃ q h : Int, 1 ≤ q ∧ q ≤ 41 ∧ gg = (41 - q).toNat ∧ i = .int .i64 q ∧ HoldsT wr s 1 (bS h) ∧ Heats ex l q h ∧ Below wb.heap.size wb wr)
  case atStart =>
    refine ⟨1, 0, by omega, by omega, by decide, rfl, HT3.out, ⟨by omega, l0, ?_⟩, HB3.out⟩
    by_cases h : ex ≤ 0
    · exact .inl ⟨h, rfl⟩
    · exact .inr ⟨by omega, by simp⟩
  case round =>
    clear HT3 HB3
    obtain ⟨q, h, q0, q1, hgg, rfl, hT, hH, hb⟩ := hrel
    have Hg := Lib.hid hgg
    have Hb := Lib.hid hb
    have HT := Lib.hid hT
    obtain ⟨h0, h1, hd⟩ := hH
    have HD := Lib.hid hd
    clear hgg hb hT hd
    by_cases hq : q ≤ 40
    · have b3 : decide (q ≤ 40) = true := decide_eq_true hq
      go_wp2_with fail
      refine (ftick_ok _ _ _ 1 1 (bF r l) (bC y) (bS h) 1#32 _ (bS_state r0 r1 l0 l1 h0 h1) (bC_valid y0 y1) (HF.out.below Hb.out (Nat.le_refl _)) (HC.out.below Hb.out (Nat.le_refl _)) HT.out).mono ?_
      rintro e w4 ⟨vt, rfl, hT4, hb4⟩
      obtain ⟨aT, kT, rfl, _⟩ := id hT4
      have HB4 := Lib.hid (Hb.out.trans (hb4.mono Hb.out.size))
      obtain ⟨cF0, cF1⟩ := HCF.out _ HB4.out
      obtain ⟨g4, o4, rfl, _, hc4⟩ := hT4.open2 (i := 0) (by decide)
      have d1 : w4.cell? ⟨g4, o4 + 1, none⟩ = some (.bool (tickF 1 (bF r l) 1 (bC y) (bS h) 1#32 0).blown) := (fs_cells (hc4 w4 (Below.refl _ _)) (j := 0) (by decide)).2
      have hT0 : tickF 1 (bF r l) 1 (bC y) (bS h) 1#32 0 = if l < max (h + ex) 0 then ⟨0, true⟩ else ⟨max (h + ex) 0, false⟩ := by rw [b_tick y0 y1, HNL.out]
      clear hb4 hc4
      rcases HD.out with ⟨hex, hh⟩ | ⟨hex, hh⟩
      · have hm : max (h + ex) 0 = 0 := by omega
        rw [hm, if_neg (by omega)] at hT0
        rw [hT0] at d1
        have t1 : decide (0 < ex) = false := by simp; omega
        have HT4 := Lib.hid (hT4.congr (f' := bS 0) fun i hi => by
          have : i = 0 := by omega
          rw [this]; exact hT0)
        clear hT4 hT0 hm
        go_wp2_with fail
        go_quiet (fail)
        go_wp2
        go_roundg (41 - (q + 1)).toNat
        case measure => have := Hg.out; omega
        case rel => exact ⟨q + 1, 0, by omega, by omega, rfl, by go_num, HT4.out, ⟨by omega, l0, .inl ⟨hex, rfl⟩⟩, below_drewN HB4.out _⟩
      · have hP : h + ex = ex * q := by rw [hh, Int.mul_sub, Int.mul_one]; omega
        obtain ⟨p, hp⟩ : ∃ p, ex * q = p := ⟨_, rfl⟩
        have p0 : 0 ≤ p := by rw [← hp]; exact Int.mul_nonneg (by omega) (by omega)
        have p1 : p ≤ 40000 * 40 := by rw [← hp]; exact Int.mul_le_mul hx1 hq (by omega) (by omega)
        have wp : IntKind.i64.wrap p = p := IntWalk.i64_in _ (by omega)
        have hm : max (h + ex) 0 = p := by omega
        have t1 : decide (0 < ex) = true := by simp; omega
        rw [hm] at hT0
        have HP := Lib.hid hp
        by_cases hpl : l < p
        · rw [if_pos hpl] at hT0
          rw [hT0] at d1
          have t2 : decide (l < p) = true := decide_eq_true hpl
          clear hT4 hT0 hm hP hh
          go_wp2_with fail
          go_quiet (fail)
          go_wp2_with fail
          refine (fsane _).mono ?_
          rintro e w6 ⟨rfl, hb6⟩
          have HB6 := Lib.hid (HB.out.trans (((below_drewN HB4.out _).trans (hb6.mono HB4.out.size)).mono HB.out.size))
          clear hb6
          go_wp2
          go_ret
          exact ⟨rfl, HB6.out⟩
        · rw [if_neg hpl] at hT0
          rw [hT0] at d1
          have t2 : decide (l < p) = false := decide_eq_false hpl
          have HT4 := Lib.hid (hT4.congr (f' := bS p) fun i hi => by
            have : i = 0 := by omega
            rw [this]; exact hT0)
          clear hT4 hT0 hm hP hh
          go_wp2_with fail
          go_quiet (fail)
          go_wp2
          go_roundg (41 - (q + 1)).toNat
          case measure => have := Hg.out; omega
          case rel => exact ⟨q + 1, p, by omega, by omega, rfl, by go_num, HT4.out, ⟨p0, by omega, .inr ⟨hex, by rw [show q + 1 - 1 = q by omega, HP.out]⟩⟩, below_drewN HB4.out _⟩
    · have b3 : decide (q ≤ 40) = false := decide_eq_false hq
      go_wp2_with fail
      refine (fsane _).mono ?_
      rintro e w6 ⟨rfl, hb6⟩
      have HB6 := Lib.hid (HB.out.trans ((Hb.out.trans (hb6.mono Hb.out.size)).mono HB.out.size))
      clear hb6
      go_wp2
      go_ret
      exact ⟨rfl, HB6.out⟩
end Go.Proofs.Ytfgkljfoalgkaaa
