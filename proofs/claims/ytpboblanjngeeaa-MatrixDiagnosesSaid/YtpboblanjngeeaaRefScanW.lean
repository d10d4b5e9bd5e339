/-
  The reference's Column, Scan, Ghosts: they hand back the sets that the program's own hand back. No condition.
-/
import Derived.Test.YtpboblanjngeeaaRefReachW
import Derived.Deep.DeepCutAuto
namespace Go.Proofs.Ytpboblanjngeeaa
open Go.RowKit
attribute [local go_sem] shr_min64 shr_min8 shl_min64 U_shr U_shr' U_shl U_shl' U_shl1 U_and U_or U_andNot U_and1 U_bit U_bit0 U_to8 B8_to64 B8_shr B8_shr' B8_shl B8_shl' B8_shl1 B8_pow U_pow B8_and B8_or B8_andNot B8_and1 B8_bit B8_bit0 Later.cell

def colTo (f : Nat → Bool) : Nat → BitVec 8
  | 0 => 0#8
  | r + 1 => if f r = true then colTo f r ||| 1#8 <<< r else colTo f r
theorem colTo_bit (f : Nat → Bool) : ∀ k, k ≤ 8 → ∀ n, (colTo f k).getLsbD n = (decide (n < k) && f n)
  | 0, _, n => by simp [colTo]
  | k + 1, hk, n => by
    have ih := colTo_bit f k (by omega) n
    rw [colTo]
    split
    · rename_i hf
      rw [BitVec.getLsbD_or, ih, one_bit, Bool.eq_iff_iff]
      simp only [Bool.or_eq_true, Bool.and_eq_true, decide_eq_true_eq]
      constructor
      · rintro (⟨h1, h2⟩ | ⟨h1, h2⟩)
        · exact ⟨by omega, h2⟩
        · rw [h2]; exact ⟨by omega, hf⟩
      · rintro ⟨h1, h2⟩
        by_cases h : n = k
        · exact .inr ⟨by omega, h⟩
        · exact .inl ⟨by omega, h2⟩
    · rename_i hf
      rw [ih, Bool.eq_iff_iff]
      simp only [Bool.and_eq_true, decide_eq_true_eq]
      refine ⟨fun ⟨h1, h2⟩ => ⟨by omega, h2⟩, fun ⟨h1, h2⟩ => ⟨?_, h2⟩⟩
      by_cases h : n = k
      · subst h; exact absurd h2 hf
      · omega
theorem colTo_eq (p d : BitVec 64) (c : Nat) (hc : c < 8) : colTo (rTo p d c 1024).2 8 = reachB p (p &&& d) c := by
  apply BitVec.eq_of_getLsbD_eq
  intro i hi
  rw [colTo_bit _ 8 (Nat.le_refl _), rTo_reachB p d c hc, decide_eq_true hi, Bool.true_and]

/-- The world with the two lists of bools laid. -/
def twoB (w : World) (C R : Nat → Bool) : World := (w.alloc (.cells #[.bool (C 0), .bool (C 1), .bool (C 2), .bool (C 3), .bool (C 4), .bool (C 5), .bool (C 6), .bool (C 7)] 54)).alloc
  (.cells #[.bool (R 0), .bool (R 1), .bool (R 2), .bool (R 3), .bool (R 4), .bool (R 5), .bool (R 6), .bool (R 7)] 54)
theorem eightB (f : Nat → Bool) : ∀ i, i < (#[.bool (f 0), .bool (f 1), .bool (f 2), .bool (f 3), .bool (f 4), .bool (f 5), .bool (f 6), .bool (f 7)] : Array Value).size →
    (#[.bool (f 0), .bool (f 1), .bool (f 2), .bool (f 3), .bool (f 4), .bool (f 5), .bool (f 6), .bool (f 7)] : Array Value)[i]? = some (.bool (f i)) := by
  intro i hi
  replace hi : i < 8 := hi
  match i, hi with
  | 0, _ => rfl | 1, _ => rfl | 2, _ => rfl | 3, _ => rfl | 4, _ => rfl | 5, _ => rfl | 6, _ => rfl | 7, _ => rfl
theorem twoB_facts (w : World) (C R : Nat → Bool) (w3 : World) (h : twoB w C R = w3) : (∀ k, k < 8 → w3.cell? ⟨w.heap.size + 1, k, none⟩ = some (.bool (R k))) ∧ Below w.heap.size w w3 := by
  subst h
  unfold twoB
  have h2 := World.rowIs_alloc (w.alloc (.cells #[.bool (C 0), .bool (C 1), .bool (C 2), .bool (C 3), .bool (C 4), .bool (C 5), .bool (C 6), .bool (C 7)] 54))
    #[.bool (R 0), .bool (R 1), .bool (R 2), .bool (R 3), .bool (R 4), .bool (R 5), .bool (R 6), .bool (R 7)] 54 (fun j => .bool (R j)) (eightB R)
  have e2 : (w.alloc (.cells #[.bool (C 0), .bool (C 1), .bool (C 2), .bool (C 3), .bool (C 4), .bool (C 5), .bool (C 6), .bool (C 7)] 54)).heap.size = w.heap.size + 1 := by simp
  rw [e2] at h2
  refine ⟨fun k hk => h2.cell hk, ((Below.refl _ w).alloc (Nat.le_refl _) _).alloc (by simp) _⟩

set_option maxHeartbeats 1600000 in
theorem refColumn_in (s b d x : BitVec 64) (c : Nat) (hc : c < 8) (w : World) :
    Calls Try.prog 16 #[.agg #[.int .u64 (U s), .int .u64 (U b), .int .u64 (U d)], .int .u64 (U x), .int .i64 c] w fun e w' => e = .returned (.tuple #[.int .u8 (B8 (colB s b d x c)), .int .i64 0]) ∧ Below w.heap.size w w' := by
  have h1 : ¬ (7 < (c : Int)) := by omega
  go_enter Try.func16, Try.ntmps16
  go_upto_region 4 with (go_at_call 33; refine (reached_any s b d x c hc _).mono ?_; rintro e w1 ⟨rfl, hb1⟩; obtain ⟨k0, k1, k2, k3, kb⟩ := keep3 hb1; clear hb1; simp only [aggB])
  change Code.wp _ _ _ _ (twoB w1 (rTo (phys s b x) d c 1024).1 (rTo (phys s b x) d c 1024).2)
  generalize hw3 : twoB w1 (rTo (phys s b x) d c 1024).1 (rTo (phys s b x) d c 1024).2 = w3
  obtain ⟨fr, fb⟩ := twoB_facts _ _ _ _ hw3
  have Hb := Lib.hid (kb.trans (fb.mono kb.size))
  have Hfr := Lib.hid fr
  have HE := Lib.hid (colTo_eq (phys s b x) d c hc)
  generalize (rTo (phys s b x) d c 1024).2 = f at *
  clear hw3 fr fb kb k0 k1 k2 k3
  go_wp2
  go_loopg [10, 11] 8 (fun g o i wr => ∃ k : Nat, k ≤ 8 ∧ g = 8 - k ∧ i = .int .i64 k ∧ o = .int .u8 (B8 (colTo f k)) ∧ w3 = wr)
  case atStart => exact ⟨0, by omega, rfl, rfl, rfl, rfl⟩
  case round =>
    obtain ⟨k, hk, hg, rfl, rfl, rfl⟩ := hrel
    have Hg := Lib.hid hg
    clear hg
    by_cases hk8 : k < 8
    · have cr := Hfr.out k hk8
      cases hf : f k with
      | false =>
        have HT := Lib.hid (show colTo f (k + 1) = colTo f k by rw [colTo, if_neg (by rw [hf]; exact Bool.false_ne_true)])
        rw [hf] at cr
        clear hf
        go_wp2
        go_roundg (8 - (k + 1))
        case measure => have := Hg.out; omega
        case rel => exact ⟨k + 1, by omega, rfl, by go_num, by rw [HT.out], rfl⟩
      | true =>
        have HT := Lib.hid (show colTo f (k + 1) = colTo f k ||| 1#8 <<< k by rw [colTo, if_pos hf])
        rw [hf] at cr
        clear hf
        go_wp2
        go_roundg (8 - (k + 1))
        case measure => have := Hg.out; omega
        case rel => exact ⟨k + 1, by omega, rfl, by go_num, by rw [HT.out], rfl⟩
    · have Hk := Lib.hid (show k = 8 by omega)
      go_wp2
      go_ret2
      exact ⟨by rw [Hk.out, HE.out]; rfl, Hb.out⟩
theorem refColumn_out (s b d x : BitVec 64) (c : Int) (hc : ¬ (0 ≤ c ∧ c ≤ 7)) (w : World) :
    Calls Try.prog 16 #[.agg #[.int .u64 (U s), .int .u64 (U b), .int .u64 (U d)], .int .u64 (U x), .int .i64 c] w fun e w' => e = .returned (.tuple #[.int .u8 0, .int .i64 5]) ∧ Below w.heap.size w w' := by
  by_cases h0 : c < 0
  · go_enter Try.func16, Try.ntmps16
    go_wp2
    go_ret2
    exact ⟨rfl, (Below.refl _ _).alloc (Nat.le_refl _) _⟩
  · have h1 : 7 < c := by omega
    clear hc
    go_enter Try.func16, Try.ntmps16
    go_wp2
    go_ret2
    exact ⟨rfl, (Below.refl _ _).alloc (Nat.le_refl _) _⟩

set_option maxHeartbeats 1600000 in
theorem refScan_any (s b d x : BitVec 64) (w : World) :
    Calls Try.prog 20 #[.agg #[.int .u64 (U s), .int .u64 (U b), .int .u64 (U d)], .int .u64 (U x)] w fun e w' => e = .returned (.int .u64 (U (scanB s b d x))) ∧ Below w.heap.size w w' := by
  go_enter Try.func20, Try.ntmps20
  go_wp2
  obtain ⟨w1, hw1⟩ : ∃ w1, w1 = w.alloc (.cells #[.int .u64 (U s), .int .u64 (U b), .int .u64 (U d)] 24) := ⟨_, rfl⟩
  have hf0 : w1.cell? ⟨w.heap.size, 0, none⟩ = some (.int .u64 (U s)) := by rw [hw1]; simp [go_sem]
  have hf1 : w1.cell? ⟨w.heap.size, 1, none⟩ = some (.int .u64 (U b)) := by rw [hw1]; simp [go_sem]
  have hf2 : w1.cell? ⟨w.heap.size, 2, none⟩ = some (.int .u64 (U d)) := by rw [hw1]; simp [go_sem]
  have hz : w.heap.size < w1.heap.size := by rw [hw1]; simp
  have Hb1 := Lib.hid (show Below w.heap.size w w1 by rw [hw1]; exact (Below.refl _ w).alloc (Nat.le_refl _) _)
  rw [← hw1]
  clear hw1
  go_loopg [5, 6] 8 (fun g r i wr => ∃ k, k ≤ 8 ∧ g = 8 - k ∧ i = .int .i64 k ∧ r = .int .u64 (U (scanTo (phys s b x) (phys s b x &&& d) k)) ∧ Below w1.heap.size w1 wr)
  case atStart => exact ⟨0, by omega, rfl, rfl, rfl, Below.refl _ _⟩
  case round =>
    obtain ⟨k, hk, hg, rfl, rfl, hb⟩ := hrel
    have Hb := Lib.hid hb
    have Hg := Lib.hid hg
    have g0 : wr.cell? ⟨w.heap.size, 0, none⟩ = some (.int .u64 (U s)) := by rw [hb.cell hz]; exact hf0
    have g1 : wr.cell? ⟨w.heap.size, 1, none⟩ = some (.int .u64 (U b)) := by rw [hb.cell hz]; exact hf1
    have g2 : wr.cell? ⟨w.heap.size, 2, none⟩ = some (.int .u64 (U d)) := by rw [hb.cell hz]; exact hf2
    clear hb hg
    by_cases hk8 : k < 8
    · go_wp2_with (go_at_call 16; refine (refColumn_in s b d x k hk8 _).mono ?_; rintro e w2 ⟨rfl, hb2⟩)
      have Hb2 := Lib.hid hb2
      clear hb2
      go_wp2
      go_roundg (8 - (k + 1))
      case measure => have := Hg.out; omega
      case rel => exact ⟨k + 1, by omega, rfl, by go_num, rfl, Hb.out.trans (Hb2.out.mono Hb.out.size)⟩
    · obtain rfl : k = 8 := by omega
      go_wp2
      go_ret
      exact ⟨rfl, Hb1.out.trans (Hb.out.mono Hb1.out.size)⟩
theorem refGhosts_any (s b d x : BitVec 64) (w : World) :
    Calls Try.prog 22 #[.agg #[.int .u64 (U s), .int .u64 (U b), .int .u64 (U d)], .int .u64 (U x)] w fun e w' => e = .returned (.int .u64 (U (ghostB s b d x))) ∧ Below w.heap.size w w' := by
  go_enter Try.func22, Try.ntmps22
  go_wp2
  refine wp_region_later (by kernel_rfl) (by kernel_rfl) ?_
  repeat (go_big_quiet_step ((first | (go_at_call 18; exact Later.of (refPhys_any s b d x _)) | (go_at_call 20; exact Later.of (refScan_any s b d x _)))))
  refine wpQuiet_nil ?_
  rintro _ ⟨z, rfl⟩
  go_wp2
  go_ret
  exact ⟨rfl, ((Below.refl _ _).alloc (Nat.le_refl _) _).trans (z.h.mono (by simp))⟩
end Go.Proofs.Ytpboblanjngeeaa
