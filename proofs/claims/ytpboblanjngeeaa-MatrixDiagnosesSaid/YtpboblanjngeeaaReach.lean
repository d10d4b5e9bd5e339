/-
  matrix.reach: it hands back the rows that are read when column c is driven. No condition but c below 8.
-/
import Derived.Test.YtpboblanjngeeaaRows
import Derived.Test.YtpboblanjngeeaaBits
import Derived.Test.YtpboblanjngeeaaQueue
import Derived.Test.YtpboblanjngeeaaGraph
import Derived.Deep.LoopGhost
namespace Go.Proofs.Ytpboblanjngeeaa
open Go.RowKit
theorem row_fold (x : BitVec 64) (a : Nat) : (x >>> (8 * a)).setWidth 8 = row x a := rfl
attribute [local go_sem] shr_min64 shr_min8 U_shr U_shr' U_shl U_shl1 U_and U_or U_andNot U_and1 U_bit U_to8 B8_to64 B8_shr B8_shr' B8_shl B8_shl1 B8_pow U_pow B8_and B8_or B8_andNot B8_and1 B8_bit B8_bit0 Later.cell row_fold

theorem Try.info3 : (Try.prog.info? 3).map (fun i => (i.zero, i.size, i.bytes)) = some (some (.int .i64 0), 1, 8) := by kernel_rfl

theorem size_one' (w : World) (o : Obj) (n : Nat) : ((w.alloc o).drewN n).heap.size = w.heap.size + 1 := by
  rw [World.heap_drewN]; simp
theorem size_one (w : World) (o : Obj) (n : Nat) : w.heap.size + 1 ≤ ((w.alloc o).drewN n).heap.size := Nat.le_of_eq (size_one' w o n).symm
def iv (n : Nat) : Value := .int .i64 n

/-- The search's relation, the slices and words with it. -/
def ReachAt (on bk : BitVec 64) (c : Nat) (base : Nat) (w0 : World) (g : Nat) (R S : BitVec 8) (q : List Nat) (v : Value) (w : World) : Prop :=
  BFS on bk c R S q ∧ QRow w base 3 v (q.map iv) ∧ Below base w0 w ∧ g = mu S q ∧ mu S q ≤ 17
def InnerAt (bk : BitVec 64) (F S : BitVec 8) (q : List Nat) (base : Nat) (w0 : World) (k : Nat) (T : BitVec 8) (v : Value) (w : World) : Prop :=
  T = (inner bk F S k).1 ∧ QRow w base 3 v ((q ++ (inner bk F S k).2).map iv) ∧ Below base w0 w

set_option maxHeartbeats 1600000 in
theorem reach_any (s b d on : BitVec 64) (c : Nat) (hc : c < 8) (w : World) :
    Calls Try.prog 32 #[.agg #[.int .u64 (U s), .int .u64 (U b), .int .u64 (U d)], .int .u64 (U on), .int .i64 c] w fun e w' =>
      e = .returned (.int .u8 (B8 (reachB on (on &&& d) c))) ∧ Below w.heap.size w w' := by
  obtain ⟨i0, hi, hz0, hz1, hz2⟩ := info_parts Try.info3
  have H1 := Lib.hid (BFS.init on (on &&& d) c hc)
  have H0 := Lib.hid (show mu (1#8 <<< c) [c] ≤ 17 by have := cnt_le (1#8 <<< c); unfold mu; simp; omega)
  go_enter Try.func32, Try.ntmps32
  go_wp2
  go_quiet (fail)
  simp only [B8_pow]
  go_wp2
  go_loopg [7, 8, 9] (mu (1#8 <<< c) [c]) (fun g r sn v wr => ∃ R S q, r = .int .u8 (B8 R) ∧ sn = .int .u8 (B8 S) ∧ ReachAt on (on &&& d) c (w.heap.size + 1) (w.alloc (.cells #[.int .u64 (U s), .int .u64 (U b), .int .u64 (U d)] 24)) g R S q v wr)
  case atStart =>
    refine ⟨0#8, 1#8 <<< c, [c], rfl, rfl, H1.out, ?_, ?_, rfl, H0.out⟩
    · have h := QRow.made ((w.alloc (.cells #[.int .u64 (U s), .int .u64 (U b), .int .u64 (U d)] 24)).drewN nq) (w.heap.size + 1) 3 (iv c) (size_one _ _ _)
      rw [size_one'] at h
      exact h
    · exact (below_drewN (Below.refl _ _) _).alloc (size_one _ _ _) _
  case round =>
    obtain ⟨R, S, q, rfl, rfl, hB, hQ, hb, hg, hm⟩ := hrel
    cases q with
    | nil =>
      obtain ⟨g, off, cap, cur, rfl, q1, q2, q3, q4, q5, q6⟩ := hQ
      have H2 := Lib.hid (eq_reachB hc hB.finish)
      have H3 := Lib.hid (show Below w.heap.size w wr from (((Below.refl _ _).alloc (Nat.le_refl _) _).trans (hb.mono (Nat.le_succ _))))
      clear hB q6 q2 hb hg
      go_wp2
      go_ret
      rw [H2.out]
      exact ⟨rfl, H3.out⟩
    | cons a q =>
      obtain ⟨g, off, cap, cur, rfl, q1, q2, q3, q4, q5, q6⟩ := id hQ
      have HB := Lib.hid hB
      have HM := Lib.hid (show mu S (a :: q) ≤ 17 from hm)
      have HG := Lib.hid hg
      simp only [List.map_cons, List.length_cons, List.length_map] at hQ q3
      have hat := (hB.qlt a (by simp)).1
      have hcell : wr.cell? ⟨g, off, none⟩ = some (.int .i64 a) := by
        rw [cell_of_row wr g off cur 3 (0, 0) q2]
        exact q6 0 (by simp)
      have hn : 0 < q.length + 1 := by omega
      simp only [List.map_cons, List.length_cons, List.length_map]
      generalize q.length + 1 = n at *
      have hsl := fun W => run_qtail (P := Try.prog) 32 3 i0 Try.underlying32 hi hz1 g off n cap hn W
      have HQ := Lib.hid hQ.tail
      have Hb := Lib.hid hb
      have hfl : wr.cell? ⟨w.heap.size, 2, none⟩ = some (.int .u64 (U d)) := by
        rw [hb.cell (p := ⟨w.heap.size, 2, none⟩) (by simp)]
        simp [go_sem]
      clear hB hQ hb hg q6 q2 hm
      go_wp2
      obtain ⟨wo, hwo⟩ : ∃ wo : World, wo = wr := ⟨_, rfl⟩
      subst hwo
      go_loopg [8, 9, 36] 8 (fun g2 sn v i wi => ∃ k T, k ≤ 8 ∧ g2 = 8 - k ∧ i = .int .i64 k ∧ sn = .int .u8 (B8 T) ∧
        InnerAt (on &&& d) (row on a &&& ~~~R) S q (w.heap.size + 1) (w.alloc (.cells #[.int .u64 (U s), .int .u64 (U b), .int .u64 (U d)] 24)) k T v wi)
      case atStart =>
        exact ⟨0, S, by omega, rfl, rfl, rfl, rfl, by simpa [inner] using HQ.out, Hb.out⟩
      case round =>
        obtain ⟨k, T, hk, hg2, rfl, rfl, hT, hQ, hb⟩ := hrel
        clear HQ Hb
        have HT := Lib.hid hT
        have HQ := Lib.hid hQ
        have Hb := Lib.hid hb
        have Hg := Lib.hid hg2
        clear hT hQ hb hg2 hfl
        by_cases hk8 : k < 8
        · have hfl : wr.cell? ⟨w.heap.size, 2, none⟩ = some (.int .u64 (U d)) := by
            rw [Hb.out.cell (p := ⟨w.heap.size, 2, none⟩) (by simp)]
            simp [go_sem]
          have hsz : w.heap.size + 1 ≤ wr.heap.size := by have := Hb.out.size; simpa using this
          have hlen := inner_len (on &&& d) (row on a &&& ~~~R) S k
          have hql : (a :: q).length ≤ 17 := Nat.le_trans (Nat.le_add_left _ _) HM.out
          have HL := Lib.hid (show ((q ++ (inner (on &&& d) (row on a &&& ~~~R) S k).2).map iv).length + 1 ≤ 30 by simp at hql ⊢; omega)
          clear hlen hql
          by_cases h1 : row (on &&& d) k &&& (row on a &&& ~~~R) = 0#8
          · have f1 : (B8 (row (on &&& d) k &&& (row on a &&& ~~~R)) != 0) = false := by rw [h1]; rfl
            have HI := Lib.hid (show inner (on &&& d) (row on a &&& ~~~R) S (k + 1) = inner (on &&& d) (row on a &&& ~~~R) S k by rw [inner, if_neg (by simp [h1])])
            clear h1
            go_wp2
            go_roundg (8 - (k + 1))
            case measure => have := Hg.out; omega
            case rel => exact ⟨k + 1, T, by omega, rfl, by go_num, rfl, by rw [HI.out]; exact HT.out, by rw [HI.out]; exact HQ.out, Hb.out⟩
          · have f1 : (B8 (row (on &&& d) k &&& (row on a &&& ~~~R)) != 0) = true := by rw [bne_iff_ne]; exact fun h => h1 ((B8_zero _).1 h)
            cases f2 : tb T k with
            | true =>
              have HI := Lib.hid (show inner (on &&& d) (row on a &&& ~~~R) S (k + 1) = inner (on &&& d) (row on a &&& ~~~R) S k by rw [inner, ← HT.out, if_neg (by unfold tb at f2; rw [f2]; simp)])
              clear h1
              go_wp2
              go_roundg (8 - (k + 1))
              case measure => have := Hg.out; omega
              case rel => exact ⟨k + 1, T, by omega, rfl, by go_num, rfl, by rw [HI.out]; exact HT.out, by rw [HI.out]; exact HQ.out, Hb.out⟩
            | false =>
              have HI := Lib.hid (show inner (on &&& d) (row on a &&& ~~~R) S (k + 1) = (T ||| 1#8 <<< k, (inner (on &&& d) (row on a &&& ~~~R) S k).2 ++ [k]) by
                rw [inner, ← HT.out, if_pos (by unfold tb at f2; rw [f2]; simpa using h1)])
              clear h1
              go_wp2_with (at_builtin; refine wpList_append_q _ rfl _ _ 32 rfl (w.heap.size + 1) 3 i0 (.int .i64 0) 8 Try.underlying32 hi hz0 hz1 hz2 rfl u9 _ rfl (HQ.out.alloc _) ⟨wr.heap.size, 0, none⟩ 1 (iv k) rfl (by simp [go_sem, iv]) rfl ?c1 ?c2 ?c3 ?c4)
              case c1 => have := HL.out; unfold maxLen; omega
              case c2 => have := HL.out; omega
              case c3 => simp; omega
              intro v' w' hq' hb'
              have HQ' := Lib.hid hq'
              have Hb' := Lib.hid ((Hb.out.alloc hsz _).trans hb')
              clear hq' hb'
              go_wp2
              go_roundg (8 - (k + 1))
              case measure => have := Hg.out; omega
              case rel => exact ⟨k + 1, T ||| 1#8 <<< k, by omega, rfl, by go_num, rfl, by rw [HI.out], by rw [HI.out]; simpa using HQ'.out, Hb'.out⟩
        · go_wp2
          obtain rfl : k = 8 := by omega
          have HT' := HT.out
          have HI := BFS.round HB.out
          have hmu := mu_round (on &&& d) (row on a &&& ~~~R) S a q
          go_roundg (mu T (q ++ (inner (on &&& d) (row on a &&& ~~~R) S 8).2))
          case measure => rw [HT', HG.out]; exact hmu
          case rel => exact ⟨R ||| (row on a &&& ~~~R), T, q ++ (inner (on &&& d) (row on a &&& ~~~R) S 8).2, rfl, rfl, by rw [HT']; exact HI, HQ.out, Hb.out, rfl, by have := HM.out; rw [HT']; omega⟩
end Go.Proofs.Ytpboblanjngeeaa
