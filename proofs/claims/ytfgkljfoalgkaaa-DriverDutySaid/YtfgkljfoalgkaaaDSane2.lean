/-
  The sanity check of the driver laws walked: it hands back true. No condition.
-/
import Derived.Test.YtfgkljfoalgkaaaDSane
import Derived.Test.YtfgkljfoalgkaaaFSane
namespace Go.Proofs.Ytfgkljfoalgkaaa
open Go.RowKit Go.Deep
attribute [local go_sem] shr_min32 shl_min32 W_shr W_shr' W_shl W_shl' W_shl1 W_shl1n W_pow W_and W_or W_andNot W_and1 W_bit W_bit0

def dA (s : Nat) : Nat → Option Addr := fun t => if t = 0 then some ⟨s, 0, none⟩ else if t = 6 then some ⟨s + 1, 0, none⟩ else if t = 8 then some ⟨s + 1 + 1, 0, none⟩ else if t = 9 then some ⟨s + 1 + 1 + 1, 0, none⟩ else none
theorem dlist (w3 : World) : HoldsL (((((w3.alloc (.cells #[.int .i64 2, .int .i64 0] 43)).alloc (.cells #[.int .i64 3, .int .i64 0] 43)).alloc (.cells #[.int .i64 1, .int .i64 0] 43)).alloc (.cells #[.int .i64 1, .int .i64 0] 43)).alloc (.cells #[.slice (some ⟨w3.heap.size, 0, none⟩) 1 1, .slice none 0 0, .slice none 0 0, .slice none 0 0, .slice none 0 0, .slice none 0 0, .slice (some ⟨w3.heap.size + 1, 0, none⟩) 1 1, .slice none 0 0, .slice (some ⟨w3.heap.size + 1 + 1, 0, none⟩) 1 1, .slice (some ⟨w3.heap.size + 1 + 1 + 1, 0, none⟩) 1 1] 23)) (.slice (some ⟨w3.heap.size + 1 + 1 + 1 + 1, 0, none⟩) 10 10) 10 (dL (dA w3.heap.size)) := by
  have s1 : (w3.alloc (.cells #[.int .i64 2, .int .i64 0] 43)).heap.size = w3.heap.size + 1 := nblk_alloc _ _
  have s2 : ((w3.alloc (.cells #[.int .i64 2, .int .i64 0] 43)).alloc (.cells #[.int .i64 3, .int .i64 0] 43)).heap.size = w3.heap.size + 1 + 1 := by rw [nblk_alloc, s1]
  have s3 : (((w3.alloc (.cells #[.int .i64 2, .int .i64 0] 43)).alloc (.cells #[.int .i64 3, .int .i64 0] 43)).alloc (.cells #[.int .i64 1, .int .i64 0] 43)).heap.size = w3.heap.size + 1 + 1 + 1 := by rw [nblk_alloc, s2]
  have s4 : ((((w3.alloc (.cells #[.int .i64 2, .int .i64 0] 43)).alloc (.cells #[.int .i64 3, .int .i64 0] 43)).alloc (.cells #[.int .i64 1, .int .i64 0] 43)).alloc (.cells #[.int .i64 1, .int .i64 0] 43)).heap.size = w3.heap.size + 1 + 1 + 1 + 1 := by rw [nblk_alloc, s3]
  have q1 := HoldsO.one ⟨2, 0⟩ w3
  have q2 := HoldsO.one ⟨3, 0⟩ (w3.alloc (.cells #[.int .i64 2, .int .i64 0] 43))
  have q3 := HoldsO.one ⟨1, 0⟩ ((w3.alloc (.cells #[.int .i64 2, .int .i64 0] 43)).alloc (.cells #[.int .i64 3, .int .i64 0] 43))
  have q4 := HoldsO.one ⟨1, 0⟩ (((w3.alloc (.cells #[.int .i64 2, .int .i64 0] 43)).alloc (.cells #[.int .i64 3, .int .i64 0] 43)).alloc (.cells #[.int .i64 1, .int .i64 0] 43))
  rw [s1] at q2
  rw [s2] at q3
  rw [s3] at q4
  have hb := blk_alloc_new ((((w3.alloc (.cells #[.int .i64 2, .int .i64 0] 43)).alloc (.cells #[.int .i64 3, .int .i64 0] 43)).alloc (.cells #[.int .i64 1, .int .i64 0] 43)).alloc (.cells #[.int .i64 1, .int .i64 0] 43)) (.cells #[.slice (some ⟨w3.heap.size, 0, none⟩) 1 1, .slice none 0 0, .slice none 0 0, .slice none 0 0, .slice none 0 0, .slice none 0 0, .slice (some ⟨w3.heap.size + 1, 0, none⟩) 1 1, .slice none 0 0, .slice (some ⟨w3.heap.size + 1 + 1, 0, none⟩) 1 1, .slice (some ⟨w3.heap.size + 1 + 1 + 1, 0, none⟩) 1 1] 23)
  rw [s4] at hb
  have d45 := (Below.refl ((((w3.alloc (.cells #[.int .i64 2, .int .i64 0] 43)).alloc (.cells #[.int .i64 3, .int .i64 0] 43)).alloc (.cells #[.int .i64 1, .int .i64 0] 43)).alloc (.cells #[.int .i64 1, .int .i64 0] 43)).heap.size ((((w3.alloc (.cells #[.int .i64 2, .int .i64 0] 43)).alloc (.cells #[.int .i64 3, .int .i64 0] 43)).alloc (.cells #[.int .i64 1, .int .i64 0] 43)).alloc (.cells #[.int .i64 1, .int .i64 0] 43))).alloc (Nat.le_refl _) (.cells #[.slice (some ⟨w3.heap.size, 0, none⟩) 1 1, .slice none 0 0, .slice none 0 0, .slice none 0 0, .slice none 0 0, .slice none 0 0, .slice (some ⟨w3.heap.size + 1, 0, none⟩) 1 1, .slice none 0 0, .slice (some ⟨w3.heap.size + 1 + 1, 0, none⟩) 1 1, .slice (some ⟨w3.heap.size + 1 + 1 + 1, 0, none⟩) 1 1] 23)
  have d34 := (Below.refl (((w3.alloc (.cells #[.int .i64 2, .int .i64 0] 43)).alloc (.cells #[.int .i64 3, .int .i64 0] 43)).alloc (.cells #[.int .i64 1, .int .i64 0] 43)).heap.size (((w3.alloc (.cells #[.int .i64 2, .int .i64 0] 43)).alloc (.cells #[.int .i64 3, .int .i64 0] 43)).alloc (.cells #[.int .i64 1, .int .i64 0] 43))).alloc (Nat.le_refl _) (.cells #[.int .i64 1, .int .i64 0] 43)
  have d23 := (Below.refl ((w3.alloc (.cells #[.int .i64 2, .int .i64 0] 43)).alloc (.cells #[.int .i64 3, .int .i64 0] 43)).heap.size ((w3.alloc (.cells #[.int .i64 2, .int .i64 0] 43)).alloc (.cells #[.int .i64 3, .int .i64 0] 43))).alloc (Nat.le_refl _) (.cells #[.int .i64 1, .int .i64 0] 43)
  have d12 := (Below.refl (w3.alloc (.cells #[.int .i64 2, .int .i64 0] 43)).heap.size (w3.alloc (.cells #[.int .i64 2, .int .i64 0] 43))).alloc (Nat.le_refl _) (.cells #[.int .i64 3, .int .i64 0] 43)
  have d35 := d34.trans (d45.mono d34.size)
  have d25 := d23.trans (d35.mono d23.size)
  have d15 := d12.trans (d25.mono d12.size)
  have s5 : (((((w3.alloc (.cells #[.int .i64 2, .int .i64 0] 43)).alloc (.cells #[.int .i64 3, .int .i64 0] 43)).alloc (.cells #[.int .i64 1, .int .i64 0] 43)).alloc (.cells #[.int .i64 1, .int .i64 0] 43)).alloc (.cells #[.slice (some ⟨w3.heap.size, 0, none⟩) 1 1, .slice none 0 0, .slice none 0 0, .slice none 0 0, .slice none 0 0, .slice none 0 0, .slice (some ⟨w3.heap.size + 1, 0, none⟩) 1 1, .slice none 0 0, .slice (some ⟨w3.heap.size + 1 + 1, 0, none⟩) 1 1, .slice (some ⟨w3.heap.size + 1 + 1 + 1, 0, none⟩) 1 1] 23)).heap.size = w3.heap.size + 1 + 1 + 1 + 1 + 1 := by rw [nblk_alloc, s4]
  have e1 := q1.below d15 (Nat.le_refl _)
  have e2 := q2.below d25 (Nat.le_refl _)
  have e3 := q3.below d35 (Nat.le_refl _)
  have e4 := q4.below d45 (Nat.le_refl _)
  generalize (((((w3.alloc (.cells #[.int .i64 2, .int .i64 0] 43)).alloc (.cells #[.int .i64 3, .int .i64 0] 43)).alloc (.cells #[.int .i64 1, .int .i64 0] 43)).alloc (.cells #[.int .i64 1, .int .i64 0] 43)).alloc (.cells #[.slice (some ⟨w3.heap.size, 0, none⟩) 1 1, .slice none 0 0, .slice none 0 0, .slice none 0 0, .slice none 0 0, .slice none 0 0, .slice (some ⟨w3.heap.size + 1, 0, none⟩) 1 1, .slice none 0 0, .slice (some ⟨w3.heap.size + 1 + 1, 0, none⟩) 1 1, .slice (some ⟨w3.heap.size + 1 + 1 + 1, 0, none⟩) 1 1] 23)) = p5 at *
  clear q1 q2 q3 q4 d45 d34 d23 d12 d35 d25 d15 s1 s2 s3 s4
  refine ⟨⟨_, _, rfl, .inr ⟨_, _, rfl, by omega, fun j hj k u hu => ?_⟩⟩, fun j hj => ?_⟩
  · have hk : k = 0 := by
      have := (List.getElem?_eq_some_iff.1 hu).1
      simp at this
      exact this
    subst hk
    simp at hu
    rw [← hu, show 0 + j * 1 + 0 = j by omega]
    unfold World.cell?
    simp only [hb]
    match j, hj with
    | 0, _ => rfl
    | 1, _ => rfl
    | 2, _ => rfl
    | 3, _ => rfl
    | 4, _ => rfl
    | 5, _ => rfl
    | 6, _ => rfl
    | 7, _ => rfl
    | 8, _ => rfl
    | 9, _ => rfl
    | n + 10, h => omega
  · match j, hj with
    | 0, _ => exact e1
    | 1, _ => exact Holds.nil _ _ _ _
    | 2, _ => exact Holds.nil _ _ _ _
    | 3, _ => exact Holds.nil _ _ _ _
    | 4, _ => exact Holds.nil _ _ _ _
    | 5, _ => exact Holds.nil _ _ _ _
    | 6, _ => exact e2
    | 7, _ => exact Holds.nil _ _ _ _
    | 8, _ => exact e3
    | 9, _ => exact e4
    | n + 10, h => omega
theorem dsets (w : World) : HoldsW (w.alloc (.cells #[.int .u32 1, .int .u32 1, .int .u32 1, .int .u32 0, .int .u32 0, .int .u32 1, .int .u32 0, .int .u32 0, .int .u32 0, .int .u32 1] 46)) (.slice (some ⟨w.heap.size, 0, none⟩) 10 10) 10 dS := by
  have hb := blk_alloc_new w (.cells #[.int .u32 1, .int .u32 1, .int .u32 1, .int .u32 0, .int .u32 0, .int .u32 1, .int .u32 0, .int .u32 0, .int .u32 0, .int .u32 1] 46)
  refine ⟨_, _, rfl, .inr ⟨_, _, rfl, by simp, fun j hj k u hu => ?_⟩⟩
  have hk : k = 0 := by
    have := (List.getElem?_eq_some_iff.1 hu).1
    simp [wcells] at this
    exact this
  subst hk
  simp [wcells] at hu
  rw [← hu, show 0 + j * 1 + 0 = j by omega]
  unfold World.cell?
  simp only [hb]
  match j, hj with
  | 0, _ => rfl
  | 1, _ => rfl
  | 2, _ => rfl
  | 3, _ => rfl
  | 4, _ => rfl
  | 5, _ => rfl
  | 6, _ => rfl
  | 7, _ => rfl
  | 8, _ => rfl
  | 9, _ => rfl
  | n + 10, h => omega
set_option maxRecDepth 100000 in
set_option maxHeartbeats 6400000 in
theorem dsane (w : World) : Calls Try.prog 25 #[] w fun e w' => e = .returned (.bool true) ∧ Below w.heap.size w w' := by
  go_enter Try.func25, Try.ntmps25
  go_wp2_with fail
  have hC := HoldsC.one ⟨2, 1, 2, 3, -1, 0⟩ w
  have hb1 : Below w.heap.size w (w.alloc (.cells #[.int .i64 2, .int .i64 1, .int .i64 2, .int .i64 3, .int .i64 (-1), .int .i64 0] 25)) := (Below.refl _ _).alloc (Nat.le_refl _) _
  have HC := Lib.hid (show HoldsC _ _ 1 dC from hC)
  have HB := Lib.hid hb1
  clear hC hb1
  generalize w.alloc (.cells #[.int .i64 2, .int .i64 1, .int .i64 2, .int .i64 3, .int .i64 (-1), .int .i64 0] 25) = wb at *
  refine (dnew _ 1 dC _ HC.out).mono ?_
  rintro e w3 ⟨v', rfl, hT, hb3⟩
  rw [dC_valid]
  rw [dC_valid, if_pos rfl] at hT
  have HC3 := Lib.hid (HC.out.below hb3 (Nat.le_refl _))
  have HT := Lib.hid (show HoldsD w3 v' 1 (fun _ => idle) from hT)
  have HB3 := Lib.hid (HB.out.trans (hb3.mono HB.out.size))
  clear hT hb3 HC HB
  go_wp2_with fail
  have hL := dlist w3
  have hbx : Below w3.heap.size w3 (((((w3.alloc (.cells #[.int .i64 2, .int .i64 0] 43)).alloc (.cells #[.int .i64 3, .int .i64 0] 43)).alloc (.cells #[.int .i64 1, .int .i64 0] 43)).alloc (.cells #[.int .i64 1, .int .i64 0] 43)).alloc (.cells #[.slice (some ⟨w3.heap.size, 0, none⟩) 1 1, .slice none 0 0, .slice none 0 0, .slice none 0 0, .slice none 0 0, .slice none 0 0, .slice (some ⟨w3.heap.size + 1, 0, none⟩) 1 1, .slice none 0 0, .slice (some ⟨w3.heap.size + 1 + 1, 0, none⟩) 1 1, .slice (some ⟨w3.heap.size + 1 + 1 + 1, 0, none⟩) 1 1] 23)) := ((((((Below.refl w3.heap.size w3).alloc (Nat.le_refl _) _).alloc (by simp) _).alloc (by simp; omega) _).alloc (by simp; omega) _).alloc (by simp; omega) _)
  generalize (((((w3.alloc (.cells #[.int .i64 2, .int .i64 0] 43)).alloc (.cells #[.int .i64 3, .int .i64 0] 43)).alloc (.cells #[.int .i64 1, .int .i64 0] 43)).alloc (.cells #[.int .i64 1, .int .i64 0] 43)).alloc (.cells #[.slice (some ⟨w3.heap.size, 0, none⟩) 1 1, .slice none 0 0, .slice none 0 0, .slice none 0 0, .slice none 0 0, .slice none 0 0, .slice (some ⟨w3.heap.size + 1, 0, none⟩) 1 1, .slice none 0 0, .slice (some ⟨w3.heap.size + 1 + 1, 0, none⟩) 1 1, .slice (some ⟨w3.heap.size + 1 + 1 + 1, 0, none⟩) 1 1] 23)) = wl at *
  refine (run_ok tickC _ _ _ 1 1 10 dC (fun _ => idle) (dL (dA w3.heap.size)) wl (idle_state dC_valid) (HC3.out.below hbx (Nat.le_refl _)) (HT.out.below hbx (Nat.le_refl _)) hL (by decide) ?_).mono ?_
  · intro i _
    show dN i ≤ 4096
    unfold dN
    split <;> omega
  rintro e w4 ⟨vd, vs, rfl, _, hW, hb4⟩
  have HW := Lib.hid (hW.congr (f' := dS) fun i hi => sets_d _ i hi)
  have HB4 := Lib.hid (HB3.out.trans ((hbx.trans (hb4.mono hbx.size)).mono HB3.out.size))
  have hs4 := HB4.out.size
  clear hW hb4 hbx hL HT HC3 HB3
  go_wp2_with fail
  have HB5 := Lib.hid (HB4.out.alloc hs4 (.cells #[.int .u32 1, .int .u32 1, .int .u32 1, .int .u32 0, .int .u32 0, .int .u32 1, .int .u32 0, .int .u32 0, .int .u32 0, .int .u32 1] 46))
  refine (sameW _ _ 10 dS dS _ (by decide) (HW.out.below ((Below.refl _ _).alloc (Nat.le_refl _) _) (Nat.le_refl _)) (dsets w4) (fun _ _ => rfl)).mono ?_
  rintro e w5 ⟨rfl, hb5⟩
  have HB6 := Lib.hid (HB5.out.trans (hb5.mono HB5.out.size))
  clear hb5
  go_wp2_with fail
  have hb6 : Below w.heap.size w (w5.alloc (.cells #[.int .i64 0, .int .i64 0, .int .i64 0, .int .i64 0, .int .i64 0, .int .i64 0] 25)) := HB6.out.alloc HB6.out.size _
  have HB7 := Lib.hid hb6
  have HC7 := Lib.hid (HoldsC.one ⟨0, 0, 0, 0, 0, 0⟩ w5)
  clear hb6
  refine (valid_any _ 1 _ _ HC7.out).mono ?_
  rintro e w6 ⟨rfl, hb6⟩
  rw [d0_bad]
  have HB8 := Lib.hid (HB7.out.trans (hb6.mono HB7.out.size))
  clear hb6
  go_wp2
  go_ret
  exact ⟨rfl, HB8.out⟩
end Go.Proofs.Ytfgkljfoalgkaaa
