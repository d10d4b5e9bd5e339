/-
  The laws' few and begun: whether a scene is short and valid; its idle drives. For every scene of at most 1000000 ticks.
-/
import Derived.Test.YtfgkljfoalgkaaaDRef
import Derived.Test.YtfgkljfoalgkaaaFTick
namespace Go.Proofs.Ytfgkljfoalgkaaa
open Go.RowKit

set_option maxHeartbeats 1600000 in
theorem few_any (v : Value) (nt : Nat) (L : Nat → OL) (w : World) (hnt : nt ≤ 9223372036854775807) (hv : HoldsL w v nt L) :
    Calls Try.prog 37 #[v] w fun e w' => ∃ b : Bool, e = .returned (.bool b) ∧ (b = true → nt ≤ 300 ∧ ∀ i, i < nt → (L i).n ≤ 20) ∧ Below w.heap.size w w' := by
  obtain ⟨a, cap, rfl, _⟩ := id hv.1
  have HV := Lib.hid hv.1
  clear hv
  · go_enter Try.func37, Try.ntmps37
    go_wp2
    go_loopg [3] nt (fun g i wr => ∃ k : Nat, k ≤ nt ∧ g = nt - k ∧ i = .int .i64 k ∧ (∀ j, j < k → (L j).n ≤ 20) ∧ Below w.heap.size w wr)
    case atStart => exact ⟨0, by omega, rfl, rfl, fun j hj => absurd hj (by omega), Below.refl _ _⟩
    case round =>
      obtain ⟨k, hk, hg, rfl, hG, hb⟩ := hrel
      have Hg := Lib.hid hg
      have HG := Lib.hid hG
      have Hb := Lib.hid hb
      clear hg hG hb
      by_cases hkn : k < nt
      · obtain ⟨g1, o1, rfl, l1, hc⟩ := HV.out.open2 hkn
        have e0 := list_cell (hc _ Hb.out) hkn
        have b1 : (0 : Int) ≤ (k : Int) := by omega
        have b2 : (k : Int) < (nt : Int) := by omega
        have b3 : decide ((k : Int) < (nt : Int)) = true := by simp; omega
        clear hc
        by_cases hl : 20 < (L k).n
        · have t1 : decide (20 < ((L k).n : Int)) = true := by simp; omega
          clear hl
          go_wp2
          go_ret
          exact ⟨false, rfl, fun h => Bool.noConfusion h, Hb.out⟩
        · have t1 : decide (20 < ((L k).n : Int)) = false := by simp; omega
          have HL := Lib.hid hl
          clear hl
          go_wp2
          go_roundg (nt - (k + 1))
          case measure => have := Hg.out; omega
          case rel => exact ⟨k + 1, by omega, rfl, by go_num, fun j hj => by
            by_cases e : j = k
            · rw [e]; have := HL.out; omega
            · exact HG.out j (by omega), Hb.out⟩
      · have b3 : decide ((k : Int) < (nt : Int)) = false := by simp; omega
        have q0 : decide ((nt : Int) ≤ 300) = decide (nt ≤ 300) := by rw [Bool.eq_iff_iff, decide_eq_true_eq, decide_eq_true_eq]; omega
        go_wp2
        go_ret
        exact ⟨decide (nt ≤ 300), rfl, fun h => ⟨of_decide_eq_true h, fun i hi => HG.out i (by omega)⟩, Hb.out⟩
set_option maxRecDepth 100000 in
set_option maxHeartbeats 1600000 in
theorem begun_any (v1 v2 : Value) (n nt : Nat) (C : Nat → Coil) (L : Nat → OL) (w : World) (hnt : nt ≤ 9223372036854775807) (h1 : HoldsC w v1 n C) (h2 : HoldsL w v2 nt L) :
    Calls Try.prog 40 #[.agg #[v1, v2]] w fun e w' => ∃ vs b, e = .returned (.tuple #[vs, .bool b]) ∧ (b = true → validE n C = 0 ∧ HoldsD w' vs n (fun _ => idle) ∧ nt ≤ 300 ∧ ∀ i, i < nt → (L i).n ≤ 20) ∧ Below w.heap.size w w' := by
  obtain ⟨a1, k1, rfl, _⟩ := id h1
  obtain ⟨a2, k2, rfl, _⟩ := id h2.1
  have H1 := Lib.hid h1
  have H2 := Lib.hid h2
  have HNT := Lib.hid hnt
  clear h1 h2 hnt
  have hal := (Below.refl w.heap.size w).alloc (Nat.le_refl _) (.cells #[.slice a1 n k1, .slice a2 nt k2] 50)
  obtain ⟨E, hEE⟩ : ∃ E, validE n C = E := ⟨_, rfl⟩
  have HE := Lib.hid hEE
  clear hEE
  go_enter Try.func40, Try.ntmps40
  go_wp2_with fail
  refine (rdnew _ n C _ (H1.out.below hal (Nat.le_refl _))).mono ?_
  rintro e w1 ⟨vd, rfl, hD, hb1⟩
  rw [HE.out]
  rw [HE.out] at hD
  obtain ⟨y0, y1, hlt, hB1⟩ := keep2 hb1
  have HB1 := Lib.hid hB1
  have HD := Lib.hid hD
  clear hb1 hB1 hal hD
  by_cases hE : E = 0
  · subst hE
    go_wp2_with fail
    refine (few_any _ nt L _ HNT.out (H2.out.below HB1.out (Nat.le_refl _))).mono ?_
    rintro e w2 ⟨b, rfl, hf, hb2⟩
    have HF := Lib.hid hf
    have HB2 := Lib.hid (HB1.out.trans (hb2.mono HB1.out.size))
    have HD2 := Lib.hid (HD.out.below hb2 (Nat.le_refl _))
    clear hf hb2
    go_wp2
    go_ret2
    exact ⟨_, b, rfl, fun h => ⟨HE.out, by simpa using HD2.out, HF.out h⟩, HB2.out⟩
  · have t1 : (E == 0) = false := by rw [Bool.eq_false_iff]; intro h; exact hE (eq_of_beq h)
    go_wp2
    go_ret2
    exact ⟨_, false, rfl, fun h => Bool.noConfusion h, HB1.out⟩
end Go.Proofs.Ytfgkljfoalgkaaa
