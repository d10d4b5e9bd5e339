/-
  The reference's Valid (layer 23): what it hands back, for every list of coils. No condition.
-/
import Derived.Test.YtfgkljfoalgkaaaState
namespace Go.Proofs.Ytfgkljfoalgkaaa
open Go.RowKit

theorem of_bne_false {a b : Int} (h : (a != b) = false) : a = b := by simpa using h
theorem ne_of_beq {a b : Int} (h : (a == b) = false) : a ≠ b := by simpa using h
set_option maxRecDepth 100000 in
set_option maxHeartbeats 6400000 in
theorem rvalid_any (v : Value) (n : Nat) (C : Nat → Coil) (w : World) (hv : HoldsC w v n C) :
    Calls Try.prog 29 #[v] w fun e w' => e = .returned (.int .i64 (validE n C)) ∧ Below w.heap.size w w' := by
  obtain ⟨a, cap, rfl, _⟩ := id hv
  have HV := Lib.hid hv
  clear hv
  by_cases hn : 32 < n
  · have h1 : decide (32 < (n : Int)) = true := by simp; omega
    go_enter Try.func29, Try.ntmps29
    go_wp2
    go_ret
    exact ⟨by unfold validE; rw [if_pos hn]; rfl, Below.refl _ _⟩
  · have h1 : decide (32 < (n : Int)) = false := by simp; omega
    have hn32 : n ≤ 32 := by omega
    go_enter Try.func29, Try.ntmps29
    simp only [List.append_eq, List.cons_append, List.nil_append]
    go_wp2
    go_loopg [3] n (fun g i wr => ∃ k : Nat, k ≤ n ∧ g = n - k ∧ i = .int .i64 k ∧ (∀ j, j < k → goodB (C j) = true) ∧ Below w.heap.size w wr)
    case atStart => exact ⟨0, by omega, rfl, rfl, fun j hj => absurd hj (by omega), Below.refl _ _⟩
    case round =>
      obtain ⟨k, hk, hg, rfl, hG, hb⟩ := hrel
      have Hg := Lib.hid hg
      have HG := Lib.hid hG
      have Hb := Lib.hid hb
      have hsz := hb.size
      clear hg hG hb
      by_cases hkn : k < n
      · obtain ⟨g1, o1, rfl, l1, hc⟩ := HV.out.open2 hkn
        obtain ⟨e0, e1, e2, e3, e4, e5⟩ := coil_cells (hc _ Hb.out) hkn
        have b1 : (0 : Int) ≤ (k : Int) := by omega
        have b2 : (k : Int) < (n : Int) := by omega
        have b3 : decide ((k : Int) < (n : Int)) = true := by simp; omega
        have lw1 : g1 < wr.heap.size := by omega
        clear hc
        have HB2 := Lib.hid (Hb.out.alloc hsz (.cells #[.int .i64 (C k).pulse, .int .i64 (C k).on, .int .i64 (C k).off, .int .i64 (C k).rest, .int .i64 (C k).fuse, .int .i64 (C k).cur] 25))
        cases t0 : decide ((C k).pulse < 1) with
        | true =>
          have HF := Lib.hid (show goodB (C k) = false by
            rw [Bool.eq_false_iff]; intro h; have hh := (goodB_iff _).1 h; have h1 := of_decide_eq_true t0; omega)
          go_wp2
          go_ret
          exact ⟨by unfold validE; rw [if_neg hn, if_neg (fun h => by have := h k hkn; rw [HF.out] at this; exact Bool.noConfusion this)]; rfl, HB2.out⟩
        | false =>
          cases t1 : decide (255 < (C k).pulse) with
          | true =>
            have HF := Lib.hid (show goodB (C k) = false by
              rw [Bool.eq_false_iff]; intro h; have hh := (goodB_iff _).1 h; have h1 := of_decide_eq_true t1; omega)
            go_wp2
            go_ret
            exact ⟨by unfold validE; rw [if_neg hn, if_neg (fun h => by have := h k hkn; rw [HF.out] at this; exact Bool.noConfusion this)]; rfl, HB2.out⟩
          | false =>
            cases t2 : decide ((C k).on < 0) with
            | true =>
              have HF := Lib.hid (show goodB (C k) = false by
                rw [Bool.eq_false_iff]; intro h; have hh := (goodB_iff _).1 h; have h1 := of_decide_eq_true t2; omega)
              go_wp2
              go_ret
              exact ⟨by unfold validE; rw [if_neg hn, if_neg (fun h => by have := h k hkn; rw [HF.out] at this; exact Bool.noConfusion this)]; rfl, HB2.out⟩
            | false =>
              cases t3 : decide (16 < (C k).on) with
              | true =>
                have HF := Lib.hid (show goodB (C k) = false by
                  rw [Bool.eq_false_iff]; intro h; have hh := (goodB_iff _).1 h; have h1 := of_decide_eq_true t3; omega)
                go_wp2
                go_ret
                exact ⟨by unfold validE; rw [if_neg hn, if_neg (fun h => by have := h k hkn; rw [HF.out] at this; exact Bool.noConfusion this)]; rfl, HB2.out⟩
              | false =>
                cases t4 : decide ((C k).off < 0) with
                | true =>
                  have HF := Lib.hid (show goodB (C k) = false by
                    rw [Bool.eq_false_iff]; intro h; have hh := (goodB_iff _).1 h; have h1 := of_decide_eq_true t4; omega)
                  go_wp2
                  go_ret
                  exact ⟨by unfold validE; rw [if_neg hn, if_neg (fun h => by have := h k hkn; rw [HF.out] at this; exact Bool.noConfusion this)]; rfl, HB2.out⟩
                | false =>
                  cases t5 : decide (16 < (C k).off) with
                  | true =>
                    have HF := Lib.hid (show goodB (C k) = false by
                      rw [Bool.eq_false_iff]; intro h; have hh := (goodB_iff _).1 h; have h1 := of_decide_eq_true t5; omega)
                    go_wp2
                    go_ret
                    exact ⟨by unfold validE; rw [if_neg hn, if_neg (fun h => by have := h k hkn; rw [HF.out] at this; exact Bool.noConfusion this)]; rfl, HB2.out⟩
                  | false =>
                    cases t6 : ((C k).on == 0) with
                    | true =>
                      cases t6b : ((C k).off != 0) with
                      | true =>
                        have HF := Lib.hid (show goodB (C k) = false by
                          rw [Bool.eq_false_iff]; intro h; have hh := (goodB_iff _).1 h; have h1 := eq_of_beq t6; rw [bne_iff_ne] at t6b; omega)
                        go_wp2
                        go_ret
                        exact ⟨by unfold validE; rw [if_neg hn, if_neg (fun h => by have := h k hkn; rw [HF.out] at this; exact Bool.noConfusion this)]; rfl, HB2.out⟩
                      | false =>
                        cases t7 : decide ((C k).rest < 0) with
                        | true =>
                          have HF := Lib.hid (show goodB (C k) = false by
                            rw [Bool.eq_false_iff]; intro h; have hh := (goodB_iff _).1 h; have h1 := of_decide_eq_true t7; omega)
                          go_wp2
                          go_ret
                          exact ⟨by unfold validE; rw [if_neg hn, if_neg (fun h => by have := h k hkn; rw [HF.out] at this; exact Bool.noConfusion this)]; rfl, HB2.out⟩
                        | false =>
                          cases t8 : decide (1000 < (C k).rest) with
                          | true =>
                            have HF := Lib.hid (show goodB (C k) = false by
                              rw [Bool.eq_false_iff]; intro h; have hh := (goodB_iff _).1 h; have h1 := of_decide_eq_true t8; omega)
                            go_wp2
                            go_ret
                            exact ⟨by unfold validE; rw [if_neg hn, if_neg (fun h => by have := h k hkn; rw [HF.out] at this; exact Bool.noConfusion this)]; rfl, HB2.out⟩
                          | false =>
                            cases t9 : decide ((C k).fuse < -1) with
                            | true =>
                              have HF := Lib.hid (show goodB (C k) = false by
                                rw [Bool.eq_false_iff]; intro h; have hh := (goodB_iff _).1 h; have h1 := of_decide_eq_true t9; omega)
                              go_wp2
                              go_ret
                              exact ⟨by unfold validE; rw [if_neg hn, if_neg (fun h => by have := h k hkn; rw [HF.out] at this; exact Bool.noConfusion this)]; rfl, HB2.out⟩
                            | false =>
                              cases t10 : decide (8 ≤ (C k).fuse) with
                              | true =>
                                have HF := Lib.hid (show goodB (C k) = false by
                                  rw [Bool.eq_false_iff]; intro h; have hh := (goodB_iff _).1 h; have h1 := of_decide_eq_true t10; omega)
                                go_wp2
                                go_ret
                                exact ⟨by unfold validE; rw [if_neg hn, if_neg (fun h => by have := h k hkn; rw [HF.out] at this; exact Bool.noConfusion this)]; rfl, HB2.out⟩
                              | false =>
                                cases t11 : decide ((C k).cur < 0) with
                                | true =>
                                  have HF := Lib.hid (show goodB (C k) = false by
                                    rw [Bool.eq_false_iff]; intro h; have hh := (goodB_iff _).1 h; have h1 := of_decide_eq_true t11; omega)
                                  go_wp2
                                  go_ret
                                  exact ⟨by unfold validE; rw [if_neg hn, if_neg (fun h => by have := h k hkn; rw [HF.out] at this; exact Bool.noConfusion this)]; rfl, HB2.out⟩
                                | false =>
                                  cases t12 : decide (200 < (C k).cur) with
                                  | true =>
                                    have HF := Lib.hid (show goodB (C k) = false by
                                      rw [Bool.eq_false_iff]; intro h; have hh := (goodB_iff _).1 h; have h1 := of_decide_eq_true t12; omega)
                                    go_wp2
                                    go_ret
                                    exact ⟨by unfold validE; rw [if_neg hn, if_neg (fun h => by have := h k hkn; rw [HF.out] at this; exact Bool.noConfusion this)]; rfl, HB2.out⟩
                                  | false =>
                                    have HF := Lib.hid (show goodB (C k) = true by
                                      rw [goodB_iff]
                                      have t0' := of_decide_eq_false t0
                                      have t1' := of_decide_eq_false t1
                                      have t2' := of_decide_eq_false t2
                                      have t3' := of_decide_eq_false t3
                                      have t4' := of_decide_eq_false t4
                                      have t5' := of_decide_eq_false t5
                                      have t6' := eq_of_beq t6
                                      have t6b' := of_bne_false t6b
                                      have t7' := of_decide_eq_false t7
                                      have t8' := of_decide_eq_false t8
                                      have t9' := of_decide_eq_false t9
                                      have t10' := of_decide_eq_false t10
                                      have t11' := of_decide_eq_false t11
                                      have t12' := of_decide_eq_false t12
                                      omega)
                                    go_wp2
                                    go_roundg (n - (k + 1))
                                    case measure => have := Hg.out; omega
                                    case rel => exact ⟨k + 1, by omega, rfl, by go_num, fun j hj => by
                                      by_cases e : j = k
                                      · rw [e]; exact HF.out
                                      · exact HG.out j (by omega), HB2.out⟩
                    | false =>
                      cases t7 : decide ((C k).rest < 0) with
                      | true =>
                        have HF := Lib.hid (show goodB (C k) = false by
                          rw [Bool.eq_false_iff]; intro h; have hh := (goodB_iff _).1 h; have h1 := of_decide_eq_true t7; omega)
                        go_wp2
                        go_ret
                        exact ⟨by unfold validE; rw [if_neg hn, if_neg (fun h => by have := h k hkn; rw [HF.out] at this; exact Bool.noConfusion this)]; rfl, HB2.out⟩
                      | false =>
                        cases t8 : decide (1000 < (C k).rest) with
                        | true =>
                          have HF := Lib.hid (show goodB (C k) = false by
                            rw [Bool.eq_false_iff]; intro h; have hh := (goodB_iff _).1 h; have h1 := of_decide_eq_true t8; omega)
                          go_wp2
                          go_ret
                          exact ⟨by unfold validE; rw [if_neg hn, if_neg (fun h => by have := h k hkn; rw [HF.out] at this; exact Bool.noConfusion this)]; rfl, HB2.out⟩
                        | false =>
                          cases t9 : decide ((C k).fuse < -1) with
                          | true =>
                            have HF := Lib.hid (show goodB (C k) = false by
                              rw [Bool.eq_false_iff]; intro h; have hh := (goodB_iff _).1 h; have h1 := of_decide_eq_true t9; omega)
                            go_wp2
                            go_ret
                            exact ⟨by unfold validE; rw [if_neg hn, if_neg (fun h => by have := h k hkn; rw [HF.out] at this; exact Bool.noConfusion this)]; rfl, HB2.out⟩
                          | false =>
                            cases t10 : decide (8 ≤ (C k).fuse) with
                            | true =>
                              have HF := Lib.hid (show goodB (C k) = false by
                                rw [Bool.eq_false_iff]; intro h; have hh := (goodB_iff _).1 h; have h1 := of_decide_eq_true t10; omega)
                              go_wp2
                              go_ret
                              exact ⟨by unfold validE; rw [if_neg hn, if_neg (fun h => by have := h k hkn; rw [HF.out] at this; exact Bool.noConfusion this)]; rfl, HB2.out⟩
                            | false =>
                              cases t11 : decide ((C k).cur < 0) with
                              | true =>
                                have HF := Lib.hid (show goodB (C k) = false by
                                  rw [Bool.eq_false_iff]; intro h; have hh := (goodB_iff _).1 h; have h1 := of_decide_eq_true t11; omega)
                                go_wp2
                                go_ret
                                exact ⟨by unfold validE; rw [if_neg hn, if_neg (fun h => by have := h k hkn; rw [HF.out] at this; exact Bool.noConfusion this)]; rfl, HB2.out⟩
                              | false =>
                                cases t12 : decide (200 < (C k).cur) with
                                | true =>
                                  have HF := Lib.hid (show goodB (C k) = false by
                                    rw [Bool.eq_false_iff]; intro h; have hh := (goodB_iff _).1 h; have h1 := of_decide_eq_true t12; omega)
                                  go_wp2
                                  go_ret
                                  exact ⟨by unfold validE; rw [if_neg hn, if_neg (fun h => by have := h k hkn; rw [HF.out] at this; exact Bool.noConfusion this)]; rfl, HB2.out⟩
                                | false =>
                                  have HF := Lib.hid (show goodB (C k) = true by
                                    rw [goodB_iff]
                                    have t0' := of_decide_eq_false t0
                                    have t1' := of_decide_eq_false t1
                                    have t2' := of_decide_eq_false t2
                                    have t3' := of_decide_eq_false t3
                                    have t4' := of_decide_eq_false t4
                                    have t5' := of_decide_eq_false t5
                                    have t6' := ne_of_beq t6
                                    have t7' := of_decide_eq_false t7
                                    have t8' := of_decide_eq_false t8
                                    have t9' := of_decide_eq_false t9
                                    have t10' := of_decide_eq_false t10
                                    have t11' := of_decide_eq_false t11
                                    have t12' := of_decide_eq_false t12
                                    omega)
                                  go_wp2
                                  go_roundg (n - (k + 1))
                                  case measure => have := Hg.out; omega
                                  case rel => exact ⟨k + 1, by omega, rfl, by go_num, fun j hj => by
                                    by_cases e : j = k
                                    · rw [e]; exact HF.out
                                    · exact HG.out j (by omega), HB2.out⟩
      · have b3 : decide ((k : Int) < (n : Int)) = false := by simp; omega
        go_wp2
        go_ret
        exact ⟨by unfold validE; rw [if_neg hn, if_pos (fun i hi => HG.out i (by omega))]; rfl, Hb.out⟩
end Go.Proofs.Ytfgkljfoalgkaaa
