/-
  The walk of the law MatrixConducts: for all arguments it hands back true, and nothing that was there turns.
-/
import Derived.Test.YtpboblanjngeeaaLawA
import Derived.Test.YtpboblanjngeeaaConduct
namespace Go.Proofs.Ytpboblanjngeeaa
open Go.RowKit
attribute [local go_sem] shr_min64 shr_min8 shl_min64 U_shr U_shr' U_shl U_shl' U_shl1 U_and U_or U_andNot U_and1 U_bit U_bit0 U_to8 B8_to64 B8_shr B8_shr' B8_shl B8_shl' B8_shl1 B8_pow U_pow B8_and B8_or B8_andNot B8_and1 B8_bit B8_bit0 Later.cell

/-- The boxed struct of the law's first parameter, as it reads in a later world. -/
structure BoxAt (w : World) (s b d : BitVec 64) (wr : World) : Prop where
  box : wr.cell? ⟨w.heap.size, 0, none⟩ = some (.int .u64 (U s)) ∧ wr.cell? ⟨w.heap.size, 1, none⟩ = some (.int .u64 (U b)) ∧ wr.cell? ⟨w.heap.size, 2, none⟩ = some (.int .u64 (U d)) ∧ w.heap.size < wr.heap.size
  below : Below w.heap.size w wr
theorem BoxAt.start (w : World) (s b d : BitVec 64) (t : TypeId) : BoxAt w s b d (w.alloc (.cells #[.int .u64 (U s), .int .u64 (U b), .int .u64 (U d)] t)) := by
  obtain ⟨h0, h1, h2, h3, h4⟩ := keep3 (w := w) (a := .int .u64 (U s)) (b := .int .u64 (U b)) (c := .int .u64 (U d)) (t := t) (Below.refl _ _)
  exact ⟨⟨h0, h1, h2, h3⟩, h4⟩
theorem BoxAt.call {w : World} {s b d : BitVec 64} {wr w' : World} (h : BoxAt w s b d wr) (hb : Below wr.heap.size wr w') : BoxAt w s b d w' :=
  ⟨keep3' hb h.box, h.below.trans (hb.mono h.below.size)⟩
/-- matrix.Path where there is one, its list's address written out. -/
theorem path_in2 (s b d x : BitVec 64) (c r m : Nat) (hr : r < 8) (hd : Dist (phys s b x) (phys s b x &&& d) r c m) (w : World) :
    Calls Try.prog 24 #[.agg #[.int .u64 (U s), .int .u64 (U b), .int .u64 (U d)], .int .u64 (U x), .int .i64 c, .int .i64 r] w fun e w' =>
      ∃ g off cap, e = .returned (.tuple #[.slice (some ⟨g, off, none⟩) (2 * m + 1) cap, .int .i64 0]) ∧ g < w'.heap.size ∧
        (∀ j, j < 2 * m + 1 → w'.cell? ⟨g, off + j, none⟩ = some (.int .i64 ((pathL (phys s b x) (phys s b x &&& d) r m c).getD j 0))) ∧ Below w.heap.size w w' :=
  (path_in s b d x c r m hr hd w).mono fun _ _ ⟨v, he, ho, hb⟩ => by
    obtain ⟨a, cap, rfl, h⟩ := HoldsI.of_owns ho
    rw [pathL_length] at *
    rcases h with h | ⟨g, off, rfl, hg, hc⟩
    · have := pathL_length (phys s b x) (phys s b x &&& d) r m c
      rw [h] at this; simp at this
    · exact ⟨g, off, cap, he, hg, hc, hb⟩

set_option maxRecDepth 100000 in
set_option maxHeartbeats 6400000 in
theorem matrixConducts_walk (s b d x : BitVec 64) (w : World) :
    Calls Try.prog 5 #[.agg #[.int .u64 (U s), .int .u64 (U b), .int .u64 (U d)], .int .u64 (U x)] w fun e w' => e = .returned (.bool true) ∧ Below w.heap.size w w' := by
  have hph : (x ||| s) &&& ~~~b = phys s b x := rfl
  go_enter Try.func5, Try.ntmps5
  go_wp2
  have HB0 := Lib.hid (BoxAt.start w s b d 24)
  go_loopg [6] 8 (fun g i wr => ∃ c : Nat, c ≤ 8 ∧ g = 8 - c ∧ i = .int .i64 c ∧ BoxAt w s b d wr)
  case atStart => exact ⟨0, by omega, rfl, rfl, HB0.out⟩
  case round =>
    clear HB0
    obtain ⟨c, hc, hg, rfl, hB⟩ := hrel
    have HB := Lib.hid hB
    have Hg := Lib.hid hg
    obtain ⟨k0, k1, k2, k3⟩ := hB.box
    clear hB hg
    by_cases hc8 : c < 8
    · have hcd : decide ((c : Int) < 8) = true := by simp; omega
      go_wp2_with fail
      refine (column_in s b d x c hc8 _).mono ?_
      rintro e w2 ⟨rfl, hb2⟩
      have HB2 := Lib.hid (HB.out.call hb2)
      clear hb2 k0 k1 k2 k3 HB
      go_wp2
      go_loopg [9] 8 (fun g i wr => ∃ r : Nat, r ≤ 8 ∧ g = 8 - r ∧ i = .int .i64 r ∧ BoxAt w s b d wr)
      case atStart => exact ⟨0, by omega, rfl, rfl, HB2.out⟩
      case round =>
        clear HB2
        obtain ⟨r, hr, hg, rfl, hB⟩ := hrel
        have HB := Lib.hid hB
        have Hgr := Lib.hid hg
        obtain ⟨k0, k1, k2, k3⟩ := hB.box
        clear hB hg
        by_cases hr8 : r < 8
        · have hrd : decide ((r : Int) < 8) = true := by simp; omega
          have hrb := read_bit (phys s b x) (phys s b x &&& d) c r hc8 hr8
          cases hl : (lev (phys s b x) (phys s b x &&& d) r 7).getLsbD c with
          | false =>
            have ht : tb (colB s b d x c) r = false := by rw [← hl, ← hrb]; rfl
            have Hl := Lib.hid hl
            clear hl hrb
            go_wp2_with fail
            refine (path_far s b d x c r hc8 hr8 Hl.out _).mono ?_
            rintro e w3 ⟨rfl, hb3⟩
            have HB3 := Lib.hid (HB.out.call hb3)
            clear hb3 k0 k1 k2 k3 HB
            go_wp2
            go_roundg (8 - (r + 1))
            case measure => have := Hgr.out; omega
            case rel => exact ⟨r + 1, by omega, rfl, by go_num, HB3.out⟩
          | true =>
            have ht : tb (colB s b d x c) r = true := by rw [← hl, ← hrb]; rfl
            obtain ⟨m, hm7, hm⟩ := Dist.exists hl
            have Hm := Lib.hid hm
            have HC := Lib.hid (pathL_conducts hr8 m c hm)
            have HLen := Lib.hid (pathL_length (phys s b x) (phys s b x &&& d) r m c)
            clear hl hrb hm
            go_wp2_with fail
            refine (path_in2 s b d x c r m hr8 Hm.out _).mono ?_
            rintro e w3 ⟨g, off, cap, rfl, hgl, hcell, hb3⟩
            have HB3 := Lib.hid (HB.out.call hb3)
            have Hcell := Lib.hid hcell
            clear hb3 k0 k1 k2 k3 HB hcell
            obtain ⟨k0, k1, k2, k3⟩ := HB3.out.box
            generalize pathL (phys s b x) (phys s b x &&& d) r m c = L at *
            have n1 : (2 * (m : Int) + 1) % 2 = 1 := by omega
            have n2 : ((2 * m + 1 : Nat) : Int) % 2 = 1 := by omega
            have c0 := Hcell.out 0 (by omega)
            rw [Nat.add_zero] at c0
            have cl := Hcell.out (2 * m) (by omega)
            have hh := HC.out.head
            have hla := HC.out.last
            rw [HLen.out, show 2 * m + 1 - 1 = 2 * m by omega] at hla
            have t1 : ((L.getD 0 0 : Nat) : Int) / 8 = (c : Int) := by omega
            have t2 : ((L.getD (2 * m) 0 : Nat) : Int) % 8 = (r : Int) := by omega
            clear hh hla
            generalize L.getD 0 0 = l0 at *
            generalize L.getD (2 * m) 0 = l9 at *
            go_wp2
            go_loopg [12] (2 * m + 1) (fun g i wr => ∃ n : Nat, n ≤ 2 * m + 1 ∧ g = 2 * m + 1 - n ∧ i = .int .i64 n ∧ ∃ q, wr = w3.drewN q)
            case atStart => exact ⟨0, by omega, rfl, rfl, 0, rfl⟩
            case round =>
              obtain ⟨i, hi, hg, rfl, q, rfl⟩ := hrel
              have Hgi := Lib.hid hg
              clear hg c0 cl t1 t2
              by_cases hin : i < 2 * m + 1
              · have e1 := Hcell.out i hin
                have l1 := HC.out.lt i (by rw [HLen.out]; exact hin)
                have l2 : tb (phys s b x) (L.getD i 0) = true := HC.out.closed i (by rw [HLen.out]; exact hin)
                have Hodd := Lib.hid (HC.out.odd i (by rw [HLen.out]; exact hin))
                have Heven := Lib.hid (HC.out.even i (by rw [HLen.out]; exact hin))
                have b0 : (0 : Int) ≤ (i : Int) := by omega
                have w1 : decide (((L.getD i 0 : Nat) : Int) < 0) = false := decide_eq_false (by omega)
                have w2 : decide (63 < ((L.getD i 0 : Nat) : Int)) = false := decide_eq_false (by omega)
                have b1 : (i : Int) < 2 * (m : Int) + 1 := by omega
                have b2 : (i : Int) < ((2 * m + 1 : Nat) : Int) := by omega
                by_cases ho : i % 2 = 1
                · have e2 := Hcell.out (i - 1) (by omega)
                  have o1 := (Hodd.out ho).1
                  rw [BitVec.getLsbD_and, Bool.and_eq_true] at o1
                  have o2 : tb d (L.getD i 0) = true := o1.2
                  have o3 := (Hodd.out ho).2
                  have q1 : ((i : Int) % 2 == 1) = true := by rw [beq_iff_eq]; omega
                  have q2 : ((i : Int) % 2 == 0) = false := by rw [beq_eq_false_iff_ne]; omega
                  have b3 : (0 : Int) ≤ (i : Int) - 1 := by omega
                  have b4 : (i : Int) - 1 < ((2 * m + 1 : Nat) : Int) := by omega
                  have b5 : (i : Int) - 1 < 2 * (m : Int) + 1 := by omega
                  have q3 : (((L.getD i 0 : Nat) : Int) % 8 != ((L.getD (i - 1) 0 : Nat) : Int) % 8) = false := by rw [bne_eq_false_iff_eq]; omega
                  clear ho o1 o3
                  generalize L.getD i 0 = li at *
                  generalize L.getD (i - 1) 0 = lp at *
                  go_wp2
                  simp only [List.append]
                  go_quiet (fail)
                  go_wp2
                  go_roundg (2 * m + 1 - (i + 1))
                  case measure => have := Hgi.out; omega
                  case rel => exact ⟨i + 1, by omega, rfl, by go_num, _, rfl⟩
                · by_cases hz : i = 0
                  · have q1 : ((i : Int) % 2 == 1) = false := by rw [beq_eq_false_iff_ne]; omega
                    have q2 : ((i : Int) % 2 == 0) = true := by rw [beq_iff_eq]; omega
                    have q3 : decide (0 < (i : Int)) = false := by simp; omega
                    have q4 : decide (0 < i) = false := by simp; omega
                    clear ho hz
                    generalize L.getD i 0 = li at *
                    go_wp2
                    simp only [List.append]
                    go_quiet (fail)
                    go_wp2
                    go_roundg (2 * m + 1 - (i + 1))
                    case measure => have := Hgi.out; omega
                    case rel => exact ⟨i + 1, by omega, rfl, by go_num, _, rfl⟩
                  · have e2 := Hcell.out (i - 1) (by omega)
                    have o3 := Heven.out (by omega) (by omega)
                    have l3 := HC.out.lt (i - 1) (by rw [HLen.out]; omega)
                    have q1 : ((i : Int) % 2 == 1) = false := by rw [beq_eq_false_iff_ne]; omega
                    have q2 : ((i : Int) % 2 == 0) = true := by rw [beq_iff_eq]; omega
                    have q0 : decide (0 < (i : Int)) = true := decide_eq_true (by omega)
                    have q4 : decide (0 < i) = true := decide_eq_true (by omega)
                    have b3 : (0 : Int) ≤ (i : Int) - 1 := by omega
                    have b4 : (i : Int) - 1 < ((2 * m + 1 : Nat) : Int) := by omega
                    have b5 : (i : Int) - 1 < 2 * (m : Int) + 1 := by omega
                    have q3 : (((L.getD i 0 : Nat) : Int) / 8 != ((L.getD (i - 1) 0 : Nat) : Int) / 8) = false := by rw [bne_eq_false_iff_eq]; omega
                    clear ho hz o3
                    generalize L.getD i 0 = li at *
                    generalize L.getD (i - 1) 0 = lp at *
                    go_wp2
                    simp only [List.append]
                    go_quiet (fail)
                    go_wp2
                    go_roundg (2 * m + 1 - (i + 1))
                    case measure => have := Hgi.out; omega
                    case rel => exact ⟨i + 1, by omega, rfl, by go_num, _, rfl⟩
              · go_wp2
                go_roundg (8 - (r + 1))
                case measure => have := Hgr.out; omega
                case rel => exact ⟨r + 1, by omega, rfl, by go_num, HB3.out.call (below_drewN (Below.refl _ _) _)⟩
        · go_wp2
          go_roundg (8 - (c + 1))
          case measure => have := Hg.out; omega
          case rel => exact ⟨c + 1, by omega, rfl, by go_num, HB.out⟩
    · go_wp2_with fail
      refine (sane_any _).mono ?_
      rintro e w3 ⟨rfl, hb3⟩
      have Hb3 := Lib.hid hb3
      clear hb3
      go_wp2
      go_ret
      exact ⟨rfl, HB.out.below.trans (Hb3.out.mono HB.out.below.size)⟩
end Go.Proofs.Ytpboblanjngeeaa
