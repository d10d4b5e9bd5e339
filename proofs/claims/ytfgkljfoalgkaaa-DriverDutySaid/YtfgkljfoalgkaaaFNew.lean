/-
  fuse.New and its reference: what they hand back, for all fuses. No condition.
-/
import Derived.Test.YtfgkljfoalgkaaaFValid
import Derived.Test.YtfgkljfoalgkaaaFRow
namespace Go.Proofs.Ytfgkljfoalgkaaa
open Go.RowKit

set_option maxRecDepth 100000 in
set_option maxHeartbeats 800000 in
theorem fnew (v : Value) (n : Nat) (F : Nat → Fuse) (w : World) (hv : HoldsF w v n F) :
    Calls Try.prog 44 #[v] w fun e w' => ∃ v', e = .returned (.tuple #[v', .int .i64 (validFE n F)]) ∧ HoldsT w' v' (if validFE n F = 0 then n else 0) (fun _ => coldFS) ∧ Below w.heap.size w w' := by
  obtain ⟨a, cap, rfl, _⟩ := id hv
  have HV := Lib.hid hv
  clear hv
  obtain ⟨E, hEE⟩ : ∃ E, validFE n F = E := ⟨_, rfl⟩
  rw [hEE]
  by_cases hE : E = 0
  · subst hE
    have hn8 := (validFE_zero hEE).1
    have HEE := Lib.hid hEE
    clear hEE
    obtain ⟨i0, hi, hz0, hz1, hz2⟩ := info_parts Try.info83
    go_enter Try.func44, Try.ntmps44
    go_wp2_with fail
    refine (fvalid_any _ n F _ HV.out).mono ?_
    rintro e w1 ⟨rfl, hb1⟩
    rw [HEE.out]
    have Hb1 := Lib.hid hb1
    have hsz := hb1.size
    clear hb1
    go_wp2_with (refine wpList_make_rows _ rfl _ _ 64 rfl 83 i0 _ 2 Try.underlying64 hi hz0 hz1 .i64 .i64 n rfl rfl (by rw [hz2]; omega) (by omega) ?_)
    have HR := Lib.hid (made_rowT w1 n)
    have HB := Lib.hid (show Below w.heap.size w (w1.alloc (.cells (madeCells #[.int .i64 0, .bool false] (n * 2)) 83)) from Hb1.out.alloc hsz _)
    generalize w1.alloc (.cells (madeCells #[.int .i64 0, .bool false] (n * 2)) 83) = w2 at *
    go_wp2
    go_ret2
    exact ⟨_, rfl, HR.out.holds _, HB.out⟩
  · have t1 : (E != 0) = true := by rw [bne_iff_ne]; exact hE
    have HE := Lib.hid hE
    have HEE := Lib.hid hEE
    clear hE hEE
    go_enter Try.func44, Try.ntmps44
    go_wp2_with fail
    refine (fvalid_any _ n F _ HV.out).mono ?_
    rintro e w1 ⟨rfl, hb1⟩
    rw [HEE.out]
    have Hb1 := Lib.hid hb1
    clear hb1
    go_wp2
    go_ret2
    exact ⟨_, rfl, Holds.nil _ _ _ _, Hb1.out⟩
set_option maxRecDepth 100000 in
set_option maxHeartbeats 800000 in
theorem rfnew (v : Value) (n : Nat) (F : Nat → Fuse) (w : World) (hv : HoldsF w v n F) :
    Calls Try.prog 45 #[v] w fun e w' => ∃ v', e = .returned (.tuple #[v', .int .i64 (validFE n F)]) ∧ HoldsT w' v' (if validFE n F = 0 then n else 0) (fun _ => coldFS) ∧ Below w.heap.size w w' := by
  obtain ⟨a, cap, rfl, _⟩ := id hv
  have HV := Lib.hid hv
  clear hv
  obtain ⟨E, hEE⟩ : ∃ E, validFE n F = E := ⟨_, rfl⟩
  rw [hEE]
  by_cases hE : E = 0
  · subst hE
    have hn8 := (validFE_zero hEE).1
    have HEE := Lib.hid hEE
    clear hEE
    obtain ⟨i0, hi, hz0, hz1, hz2⟩ := info_parts Try.info83
    go_enter Try.func45, Try.ntmps45
    go_wp2_with fail
    refine (rfvalid_any _ n F _ HV.out).mono ?_
    rintro e w1 ⟨rfl, hb1⟩
    rw [HEE.out]
    have Hb1 := Lib.hid hb1
    have hsz := hb1.size
    clear hb1
    go_wp2_with (refine wpList_make_rows _ rfl _ _ 64 rfl 83 i0 _ 2 Try.underlying64 hi hz0 hz1 .i64 .i64 n rfl rfl (by rw [hz2]; omega) (by omega) ?_)
    have HR := Lib.hid (made_rowT w1 n)
    have HB := Lib.hid (show Below w.heap.size w (w1.alloc (.cells (madeCells #[.int .i64 0, .bool false] (n * 2)) 83)) from Hb1.out.alloc hsz _)
    generalize w1.alloc (.cells (madeCells #[.int .i64 0, .bool false] (n * 2)) 83) = w2 at *
    go_wp2
    go_ret2
    exact ⟨_, rfl, HR.out.holds _, HB.out⟩
  · have t1 : (E != 0) = true := by rw [bne_iff_ne]; exact hE
    have HE := Lib.hid hE
    have HEE := Lib.hid hEE
    clear hE hEE
    go_enter Try.func45, Try.ntmps45
    go_wp2_with fail
    refine (rfvalid_any _ n F _ HV.out).mono ?_
    rintro e w1 ⟨rfl, hb1⟩
    rw [HEE.out]
    have Hb1 := Lib.hid hb1
    clear hb1
    go_wp2
    go_ret2
    exact ⟨_, rfl, Holds.nil _ _ _ _, Hb1.out⟩
end Go.Proofs.Ytfgkljfoalgkaaa
