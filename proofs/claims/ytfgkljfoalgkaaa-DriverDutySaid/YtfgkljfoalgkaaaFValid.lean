/-
  fuse.Valid and its reference: what they hand back, for every list of fuses. No condition.
-/
import Derived.Test.YtfgkljfoalgkaaaFData
import Derived.Test.YtfgkljfoalgkaaaState
namespace Go.Proofs.Ytfgkljfoalgkaaa
open Go.RowKit

set_option maxHeartbeats 1600000 in
theorem fvalid_any (v : Value) (n : Nat) (F : Nat → Fuse) (w : World) (hv : HoldsF w v n F) :
    Calls Try.prog 46 #[v] w fun e w' => e = .returned (.int .i64 (validFE n F)) ∧ Below w.heap.size w w' := by
  obtain ⟨a, cap, rfl, _⟩ := id hv
  have HV := Lib.hid hv
  clear hv
  by_cases hn : 8 < n
  · have h1 : decide (8 < (n : Int)) = true := by simp; omega
    go_enter Try.func46, Try.ntmps46
    go_wp2
    go_ret
    exact ⟨by unfold validFE; rw [if_pos hn]; rfl, Below.refl _ _⟩
  · have h1 : decide (8 < (n : Int)) = false := by simp; omega
    have hn8 : n ≤ 8 := by omega
    go_enter Try.func46, Try.ntmps46
    go_wp2
    go_loopg [10] n (fun g i wr => ∃ k : Nat, k ≤ n ∧ g = n - k ∧ i = .int .i64 k ∧ (∀ j, j < k → goodF (F j) = true) ∧ Below w.heap.size w wr)
    case atStart => exact ⟨0, by omega, rfl, rfl, fun j hj => absurd hj (by omega), Below.refl _ _⟩
    case round =>
      obtain ⟨k, hk, hg, rfl, hG, hb⟩ := hrel
      have Hg := Lib.hid hg
      have HG := Lib.hid hG
      have Hb := Lib.hid hb
      have hsz := hb.size
      clear hg hG hb
      by_cases hkn : k < n
      · obtain ⟨g1, o1, rfl, l1, hc⟩ := HV.out.open2 hkn
        obtain ⟨e0, e1⟩ := fuse_cells (hc _ Hb.out) hkn
        have b1 : (0 : Int) ≤ (k : Int) := by omega
        have b2 : (k : Int) < (n : Int) := by omega
        have b3 : decide ((k : Int) < (n : Int)) = true := by simp; omega
        have lw1 : g1 < wr.heap.size := by omega
        clear hc
        have HB2 := Lib.hid ((Hb.out.alloc hsz (.cells #[.int .i64 (F k).rating, .int .i64 (F k).limit] 79)))
        rcases fuse_cases (F k) with ⟨t1, hf⟩ | ⟨t1, t2, hf⟩ | ⟨t1, t2, t3, hf⟩ | ⟨t1, t2, t3, t4, hf⟩ | ⟨t1, t2, t3, t4, hf⟩
        iterate 4
          focus
            have Hf := Lib.hid hf
            clear hf
            go_wp2
            go_ret
            exact ⟨by unfold validFE; rw [if_neg hn, if_neg (fun h => by have := h k hkn; rw [Hf.out] at this; exact Bool.noConfusion this)]; rfl, HB2.out⟩
        · have Hf := Lib.hid hf
          clear hf
          go_wp2
          go_roundg (n - (k + 1))
          case measure => have := Hg.out; omega
          case rel => exact ⟨k + 1, by omega, rfl, by go_num, fun j hj => by
            by_cases e : j = k
            · rw [e]; exact Hf.out
            · exact HG.out j (by omega), HB2.out⟩
      · have b3 : decide ((k : Int) < (n : Int)) = false := by simp; omega
        go_wp2
        go_ret
        exact ⟨by unfold validFE; rw [if_neg hn, if_pos (fun i hi => HG.out i (by omega))]; rfl, Hb.out⟩
set_option maxHeartbeats 1600000 in
theorem rfvalid_any (v : Value) (n : Nat) (F : Nat → Fuse) (w : World) (hv : HoldsF w v n F) :
    Calls Try.prog 47 #[v] w fun e w' => e = .returned (.int .i64 (validFE n F)) ∧ Below w.heap.size w w' := by
  obtain ⟨a, cap, rfl, _⟩ := id hv
  have HV := Lib.hid hv
  clear hv
  by_cases hn : 8 < n
  · have h1 : decide (8 < (n : Int)) = true := by simp; omega
    go_enter Try.func47, Try.ntmps47
    go_wp2
    go_ret
    exact ⟨by unfold validFE; rw [if_pos hn]; rfl, Below.refl _ _⟩
  · have h1 : decide (8 < (n : Int)) = false := by simp; omega
    have hn8 : n ≤ 8 := by omega
    go_enter Try.func47, Try.ntmps47
    go_wp2
    go_loopg [3] n (fun g i wr => ∃ k : Nat, k ≤ n ∧ g = n - k ∧ i = .int .i64 k ∧ (∀ j, j < k → goodF (F j) = true) ∧ Below w.heap.size w wr)
    case atStart => exact ⟨0, by omega, rfl, rfl, fun j hj => absurd hj (by omega), Below.refl _ _⟩
    case round =>
      obtain ⟨k, hk, hg, rfl, hG, hb⟩ := hrel
      have Hg := Lib.hid hg
      have HG := Lib.hid hG
      have Hb := Lib.hid hb
      have hsz := hb.size
      clear hg hG hb
      by_cases hkn : k < n
      · obtain ⟨g1, o1, rfl, l1, hc⟩ := HV.out.open2 hkn
        obtain ⟨e0, e1⟩ := fuse_cells (hc _ Hb.out) hkn
        have b1 : (0 : Int) ≤ (k : Int) := by omega
        have b2 : (k : Int) < (n : Int) := by omega
        have b3 : decide ((k : Int) < (n : Int)) = true := by simp; omega
        have lw1 : g1 < wr.heap.size := by omega
        clear hc
        have HB2 := Lib.hid (Hb.out)
        rcases fuse_cases (F k) with ⟨t1, hf⟩ | ⟨t1, t2, hf⟩ | ⟨t1, t2, t3, hf⟩ | ⟨t1, t2, t3, t4, hf⟩ | ⟨t1, t2, t3, t4, hf⟩
        iterate 4
          focus
            have Hf := Lib.hid hf
            clear hf
            go_wp2
            go_ret
            exact ⟨by unfold validFE; rw [if_neg hn, if_neg (fun h => by have := h k hkn; rw [Hf.out] at this; exact Bool.noConfusion this)]; rfl, HB2.out⟩
        · have Hf := Lib.hid hf
          clear hf
          go_wp2
          go_roundg (n - (k + 1))
          case measure => have := Hg.out; omega
          case rel => exact ⟨k + 1, by omega, rfl, by go_num, fun j hj => by
            by_cases e : j = k
            · rw [e]; exact Hf.out
            · exact HG.out j (by omega), HB2.out⟩
      · have b3 : decide ((k : Int) < (n : Int)) = false := by simp; omega
        go_wp2
        go_ret
        exact ⟨by unfold validFE; rw [if_neg hn, if_pos (fun i hi => HG.out i (by omega))]; rfl, Hb.out⟩
end Go.Proofs.Ytfgkljfoalgkaaa
