/-
  fuse.IsState: what it hands back, for all fuses and states. No condition.
-/
import Derived.Test.YtfgkljfoalgkaaaFValid
import Derived.Test.YtfgkljfoalgkaaaFRow
namespace Go.Proofs.Ytfgkljfoalgkaaa
open Go.RowKit

set_option maxHeartbeats 3200000 in
theorem fstate (v1 v2 : Value) (n m : Nat) (F : Nat → Fuse) (S : Nat → FS) (w : World) (h1 : HoldsF w v1 n F) (h2 : HoldsT w v2 m S) :
    Calls Try.prog 49 #[v1, v2] w fun e w' => ∃ b : Bool, e = .returned (.bool b) ∧ (b = true ↔ StateF n F m S) ∧ Below w.heap.size w w' := by
  obtain ⟨a1, cap1, rfl, _⟩ := id h1
  obtain ⟨a2, cap2, rfl, _⟩ := id h2
  have H1 := Lib.hid h1
  have H2 := Lib.hid h2
  clear h1 h2
  by_cases hE : validFE n F = 0
  · have HE := Lib.hid hE
    have hn8 := (validFE_zero hE).1
    clear hE
    go_enter Try.func49, Try.ntmps49
    go_wp2_with fail
    refine (fvalid_any _ n F _ H1.out).mono ?_
    rintro e w1 ⟨rfl, hb1⟩
    rw [HE.out]
    have Hb1 := Lib.hid hb1
    clear hb1
    by_cases hmn : m = n
    · subst hmn
      go_wp2
      go_loopg [19] m (fun g i wr => ∃ k : Nat, k ≤ m ∧ g = m - k ∧ i = .int .i64 k ∧ (∀ j, j < k → okFS (F j) (S j) = true) ∧ Below w.heap.size w wr)
      case atStart => exact ⟨0, by omega, rfl, rfl, fun j hj => absurd hj (by omega), Hb1.out⟩
      case round =>
        obtain ⟨k, hk, hg, rfl, hF, hb⟩ := hrel
        have Hg := Lib.hid hg
        have HF := Lib.hid hF
        have Hb := Lib.hid hb
        have hsz := hb.size
        clear hg hF hb
        by_cases hkm : k < m
        · obtain ⟨g1, o1, rfl, l1, hc1⟩ := H1.out.open2 hkm
          obtain ⟨g2, o2, rfl, l2, hc2⟩ := H2.out.open2 hkm
          obtain ⟨e0, e1⟩ := fuse_cells (hc1 _ Hb.out) hkm
          obtain ⟨d0, d1⟩ := fs_cells (hc2 _ Hb.out) hkm
          have b1 : (0 : Int) ≤ (k : Int) := by omega
          have b2 : (k : Int) < (m : Int) := by omega
          have b3 : decide ((k : Int) < (m : Int)) = true := by simp; omega
          have lw1 : g1 < wr.heap.size := by omega
          have lw2 : g1 < wr.heap.size + 1 := by omega
          have lw3 : g1 ≠ wr.heap.size := by omega
          clear hc1 hc2
          have HB2 := Lib.hid ((Hb.out.alloc hsz (.cells #[.int .i64 (S k).heat, .bool (S k).blown] 83)))
          rcases fs_cases (F k) (S k) with ⟨t1, hf⟩ | ⟨t1, t2, hf⟩ | ⟨t1, t2, t3, t4, hf⟩ | ⟨t1, t2, t3, t4, hf⟩ | ⟨t1, t2, t3, hf⟩
          iterate 3
            focus
              have Hf := Lib.hid hf
              clear hf
              go_wp2_with fail
              go_quiet (fail)
              go_wp2
              go_ret
              exact ⟨false, rfl, ⟨fun h => Bool.noConfusion h, fun h => by have := h.2.2 k hkm; rw [Hf.out] at this; exact Bool.noConfusion this⟩, by first | exact below_drewN HB2.out _ | exact below_drewN (Hb.out.alloc hsz _) _⟩
          iterate 2
            focus
              have Hf := Lib.hid hf
              clear hf
              go_wp2_with fail
              go_quiet (fail)
              go_wp2
              go_roundg (m - (k + 1))
              case measure => have := Hg.out; omega
              case rel => exact ⟨k + 1, by omega, rfl, by go_num, fun j hj => by
                by_cases e : j = k
                · rw [e]; exact Hf.out
                · exact HF.out j (by omega), by first | exact below_drewN HB2.out _ | exact below_drewN (Hb.out.alloc hsz _) _⟩
        · have b3 : decide ((k : Int) < (m : Int)) = false := by simp; omega
          go_wp2
          go_ret
          exact ⟨true, rfl, ⟨fun _ => ⟨HE.out, rfl, fun i hi => HF.out i (by omega)⟩, fun _ => rfl⟩, Hb.out⟩
    · have t1 : ((m : Int) != (n : Int)) = true := by rw [bne_iff_ne]; omega
      go_wp2
      go_ret
      exact ⟨false, rfl, ⟨fun h => Bool.noConfusion h, fun h => absurd h.2.1 hmn⟩, Hb1.out⟩
  · obtain ⟨E, hEE⟩ : ∃ E, validFE n F = E := ⟨_, rfl⟩
    have HE := Lib.hid hE
    have t1 : (E != 0) = true := by rw [bne_iff_ne, ← hEE]; exact hE
    have HEE := Lib.hid hEE
    clear hE hEE
    go_enter Try.func49, Try.ntmps49
    go_wp2_with fail
    refine (fvalid_any _ n F _ H1.out).mono ?_
    rintro e w1 ⟨rfl, hb1⟩
    rw [HEE.out]
    have Hb1 := Lib.hid hb1
    clear hb1
    go_wp2
    go_ret
    exact ⟨false, rfl, ⟨fun h => Bool.noConfusion h, fun h => absurd h.1 HE.out⟩, Hb1.out⟩
theorem fstate_yes {n m : Nat} {F : Nat → Fuse} {S : Nat → FS} (hS : StateF n F m S) (w : World) {v1 v2 : Value} (h1 : HoldsF w v1 n F) (h2 : HoldsT w v2 m S) :
    Calls Try.prog 49 #[v1, v2] w fun e w' => e = .returned (.bool true) ∧ Below w.heap.size w w' := by
  refine (fstate v1 v2 n m F S w h1 h2).mono ?_
  rintro e w' ⟨b, rfl, hb, h⟩
  exact ⟨by rw [hb.2 hS], h⟩
theorem fstate_no {n m : Nat} {F : Nat → Fuse} {S : Nat → FS} (hS : ¬ StateF n F m S) (w : World) {v1 v2 : Value} (h1 : HoldsF w v1 n F) (h2 : HoldsT w v2 m S) :
    Calls Try.prog 49 #[v1, v2] w fun e w' => e = .returned (.bool false) ∧ Below w.heap.size w w' := by
  refine (fstate v1 v2 n m F S w h1 h2).mono ?_
  rintro e w' ⟨b, rfl, hb, h⟩
  cases b with
  | true => exact absurd (hb.1 rfl) hS
  | false => exact ⟨rfl, h⟩
end Go.Proofs.Ytfgkljfoalgkaaa
