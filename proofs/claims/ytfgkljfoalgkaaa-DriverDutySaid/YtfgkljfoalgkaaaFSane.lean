/-
  The sanity check of the fuse laws: it hands back true. No condition.
-/
import Derived.Test.YtfgkljfoalgkaaaFTick
import Derived.Test.YtfgkljfoalgkaaaFNew
namespace Go.Proofs.Ytfgkljfoalgkaaa
open Go.RowKit Go.Deep
attribute [local go_sem] shr_min32 shl_min32 W_shr W_shr' W_shl W_shl' W_shl1 W_shl1n W_pow W_and W_or W_andNot W_and1 W_bit W_bit0

/-- A slice just laid, of one element. -/
theorem Holds.one {α : Type} {cells : α → List Value} (x : α) (c : Array Value) (size : Nat) (t : TypeId) (w : World) (hc : c.toList = cells x) :
    Holds cells size (w.alloc (.cells c t)) (.slice (some ⟨w.heap.size, 0, none⟩) 1 1) 1 (fun _ => x) := by
  refine ⟨_, _, rfl, .inr ⟨w.heap.size, 0, rfl, by simp, fun j hj k u hu => ?_⟩⟩
  have : j = 0 := by omega
  subst this
  have h2 : c[k]? = some u := by rw [← hu, ← hc]; simp
  rw [show 0 + 0 * size + k = k by omega]
  have hb := blk_alloc_new w (.cells c t)
  unfold World.cell?
  simp only [hb]
  exact h2
def sF : Nat → Fuse := fun _ => ⟨10, 100⟩
def sC : Nat → Coil := fun _ => ⟨1, 0, 0, 0, 0, 12⟩
def s0 : Nat → FS := fun _ => coldFS
theorem sF_valid : validFE 1 sF = 0 := by
  unfold validFE
  rw [if_neg (by decide), if_pos (fun i _ => by show goodF ⟨10, 100⟩ = true; decide)]
theorem sC_valid : validE 1 sC = 0 := by
  unfold validE
  rw [if_neg (by decide), if_pos (fun i _ => by show goodB ⟨1, 0, 0, 0, 0, 12⟩ = true; decide)]
theorem s0_state : StateF 1 sF 1 s0 := ⟨sF_valid, rfl, fun i _ => by show okFS ⟨10, 100⟩ coldFS = true; decide⟩
def s1 : Nat → FS := tickF 1 sF 1 sC s0 1#32
def s2 : Nat → FS := tickF 1 sF 1 sC s1 1#32
def s3 : Nat → FS := tickF 1 sF 1 sC s2 1#32
theorem live_s (S : Nat → FS) (h : (S 0).blown = false) : liveF 1 sC 1 S 1#32 = 1#32 := by
  unfold liveF
  rw [if_pos sC_valid]
  show (if liveC (sC 0) 1 S = true then liveTo sC 1 S 1#32 0 ||| (1#32 &&& 1#32 <<< 0) else liveTo sC 1 S 1#32 0) = 1#32
  rw [if_pos (by unfold liveC; show (_ || !(S 0).blown) = true; rw [h]; simp)]
  show 0#32 ||| (1#32 &&& 1#32 <<< 0) = 1#32
  decide
theorem load_s : loadF 1 sC 1#32 0 = 12 := by
  unfold loadF
  rw [if_pos sC_valid]
  decide
theorem step_s (S : Nat → FS) (h : (S 0).blown = false) : tickF 1 sF 1 sC S 1#32 0 = stepF ⟨10, 100⟩ (S 0) 12 := by
  unfold tickF
  rw [live_s S h]
  show stepF _ _ (loadF 1 sC 1#32 0) = _
  rw [load_s]; rfl
theorem s1_at : s1 0 = ⟨44, false⟩ := by unfold s1; rw [step_s _ rfl]; rfl
theorem s2_at : s2 0 = ⟨88, false⟩ := by unfold s2; rw [step_s _ (by rw [s1_at]), s1_at]; rfl
theorem s3_at : s3 0 = ⟨0, true⟩ := by unfold s3; rw [step_s _ (by rw [s2_at]), s2_at]; rfl
theorem s1_state : StateF 1 sF 1 s1 := tickF_state _ s0_state
theorem s2_state : StateF 1 sF 1 s2 := tickF_state _ s1_state
theorem live_3 : liveF 1 sC 1 s3 1#32 = 0#32 := by
  unfold liveF
  rw [if_pos sC_valid]
  show (if liveC (sC 0) 1 s3 = true then liveTo sC 1 s3 1#32 0 ||| (1#32 &&& 1#32 <<< 0) else liveTo sC 1 s3 1#32 0) = 0#32
  rw [if_neg (by unfold liveC; show ¬ (_ || !(s3 0).blown) = true; rw [s3_at]; decide)]
  rfl
theorem tick_v {x y : BitVec 32} {S T : Nat → FS} (hS : StateF 1 sF 1 S) (hl : liveF 1 sC 1 S x = y) (hT : tickF 1 sF 1 sC S x = T) {w : World} {v1 v2 v3 : Value} (h1 : HoldsF w v1 1 sF) (h2 : HoldsC w v2 1 sC) (h3 : HoldsT w v3 1 S) :
    Calls Try.prog 55 #[v1, v2, v3, .int .u32 (W x)] w fun e w' => ∃ a g o c, e = .returned (.tuple #[.slice a 1 c, .int .u32 (W y), .int .i64 0]) ∧ a = some ⟨g, o, none⟩ ∧
      w'.cell? ⟨g, o, none⟩ = some (.int .i64 (T 0).heat) ∧ w'.cell? ⟨g, o + 1, none⟩ = some (.bool (T 0).blown) ∧ HoldsT w' (.slice a 1 c) 1 T ∧ Below w.heap.size w w' := by
  refine (ftick_ok v1 v2 v3 1 1 sF sC S x w hS sC_valid h1 h2 h3).mono ?_
  rintro e w' ⟨v', rfl, hH, hb⟩
  obtain ⟨a, c, rfl, _⟩ := id hH
  obtain ⟨g, o, rfl, _, hc⟩ := Holds.open2 hH (i := 0) (by decide)
  have := fs_cells (hc w' (Below.refl _ _)) (j := 0) (by decide)
  rw [Nat.zero_mul, Nat.add_zero] at this
  rw [hT] at this hH
  exact ⟨_, g, o, c, by rw [hl], rfl, this.1, this.2, hH, hb⟩
set_option maxRecDepth 100000 in
set_option maxHeartbeats 3200000 in
theorem fsane (w : World) : Calls Try.prog 43 #[] w fun e w' => e = .returned (.bool true) ∧ Below w.heap.size w w' := by
  go_enter Try.func43, Try.ntmps43
  go_wp2_with fail
  have hF := Holds.one (cells := Fuse.cells) ⟨10, 100⟩ #[.int .i64 10, .int .i64 100] 2 79 w rfl
  have hC := Holds.one (cells := Coil.cells) ⟨1, 0, 0, 0, 0, 12⟩ #[.int .i64 1, .int .i64 0, .int .i64 0, .int .i64 0, .int .i64 0, .int .i64 12] 6 25 (w.alloc (.cells #[.int .i64 10, .int .i64 100] 79)) rfl
  rw [nblk_alloc] at hC
  have hb1 : Below w.heap.size w (w.alloc (.cells #[.int .i64 10, .int .i64 100] 79)) := (Below.refl _ _).alloc (Nat.le_refl _) _
  have hb2 : Below w.heap.size w ((w.alloc (.cells #[.int .i64 10, .int .i64 100] 79)).alloc (.cells #[.int .i64 1, .int .i64 0, .int .i64 0, .int .i64 0, .int .i64 0, .int .i64 12] 25)) := hb1.alloc (by simp) _
  have hF2 := hF.below ((Below.refl _ (w.alloc (.cells #[.int .i64 10, .int .i64 100] 79))).alloc (Nat.le_refl _) (.cells #[.int .i64 1, .int .i64 0, .int .i64 0, .int .i64 0, .int .i64 0, .int .i64 12] 25)) (Nat.le_refl _)
  have HF := Lib.hid (show HoldsF _ _ 1 sF from hF2)
  have HC := Lib.hid (show HoldsC _ _ 1 sC from hC)
  have HB := Lib.hid hb2
  clear hF hC hb1 hb2 hF2
  generalize (w.alloc (.cells #[.int .i64 10, .int .i64 100] 79)).alloc (.cells #[.int .i64 1, .int .i64 0, .int .i64 0, .int .i64 0, .int .i64 0, .int .i64 12] 25) = wb at *
  refine (fnew _ 1 sF _ HF.out).mono ?_
  rintro e w3 ⟨v', rfl, hT, hb3⟩
  rw [sF_valid]
  rw [sF_valid, if_pos rfl] at hT
  have HF3 := Lib.hid (HF.out.below hb3 (Nat.le_refl _))
  have HC3 := Lib.hid (HC.out.below hb3 (Nat.le_refl _))
  have HT := Lib.hid (show HoldsT w3 v' 1 s0 from hT)
  have HB3 := Lib.hid (HB.out.trans (hb3.mono HB.out.size))
  clear hT hb3 HF HC HB
  go_wp2_with fail
  refine (tick_v (x := 1#32) s0_state (live_s _ rfl) rfl HF3.out HC3.out HT.out).mono ?_
  rintro e w4 ⟨a, g, o, c, rfl, rfl, _, _, hT, hb4⟩
  have HF4 := Lib.hid (HF3.out.below hb4 (Nat.le_refl _))
  have HC4 := Lib.hid (HC3.out.below hb4 (Nat.le_refl _))
  have HT := Lib.hid (show HoldsT w4 _ 1 s1 from hT)
  have HB4 := Lib.hid (HB3.out.trans (hb4.mono HB3.out.size))
  clear hT hb4 HF3 HC3 HB3
  go_wp2_with fail
  refine (tick_v (x := 1#32) s1_state (live_s _ (by rw [s1_at])) rfl HF4.out HC4.out HT.out).mono ?_
  rintro e w5 ⟨a, g5, o5, c5, rfl, rfl, d0, d1, hT, hb5⟩
  rw [show tickF 1 sF 1 sC s1 1#32 0 = _ from s2_at] at d0 d1
  have HF5 := Lib.hid (HF4.out.below hb5 (Nat.le_refl _))
  have HC5 := Lib.hid (HC4.out.below hb5 (Nat.le_refl _))
  have HT5 := Lib.hid (show HoldsT w5 _ 1 s2 from hT)
  have HB5 := Lib.hid (HB4.out.trans (hb5.mono HB4.out.size))
  clear hT hb5 HF4 HC4 HB4 HT
  go_wp2_with fail
  refine (tick_v (x := 1#32) s2_state (live_s _ (by rw [s2_at])) rfl HF5.out HC5.out HT5.out).mono ?_
  rintro e w6 ⟨a, g6, o6, c6, rfl, rfl, d0', d1', hT, hb6⟩
  rw [show tickF 1 sF 1 sC s2 1#32 0 = _ from s3_at] at d0' d1'
  have HC6 := Lib.hid (HC5.out.below hb6 (Nat.le_refl _))
  have HT6 := Lib.hid (show HoldsT w6 _ 1 s3 from hT)
  have HB6 := Lib.hid (HB5.out.trans (hb6.mono HB5.out.size))
  clear hT hb6 HF5 HC5 HB5 HT5 d0 d1
  go_wp2_with fail
  refine (flive _ _ 1 1 sC s3 1#32 _ HC6.out HT6.out).mono ?_
  rintro e w7 ⟨rfl, hb7⟩
  rw [live_3]
  have HB7 := Lib.hid (HB6.out.trans (hb7.mono HB6.out.size))
  clear hb7 HC6 HT6 HB6
  go_wp2
  go_ret
  exact ⟨rfl, HB7.out⟩
end Go.Proofs.Ytfgkljfoalgkaaa
