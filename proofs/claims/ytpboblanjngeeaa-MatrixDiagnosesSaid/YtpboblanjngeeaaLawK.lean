/-
  The walk of the law MatrixLimits: for all arguments it hands back true, and nothing that was there turns.
-/
import Derived.Test.YtpboblanjngeeaaSuspect
import Derived.Test.YtpboblanjngeeaaLawA
import Derived.Deep.OwnRows
namespace Go.Proofs.Ytpboblanjngeeaa
open Go.RowKit
attribute [local go_sem] shr_min64 shr_min8 shl_min64 U_shr U_shr' U_shl U_shl' U_shl1 U_and U_or U_andNot U_and1 U_bit U_bit0 U_to8 B8_to64 B8_shr B8_shr' B8_shl B8_shl' B8_shl1 B8_pow U_pow B8_and B8_or B8_andNot B8_and1 B8_bit B8_bit0 Later.cell

theorem Try.info50 : (Try.prog.info? 50).map (fun i => (i.zero, i.size, i.bytes)) = some (some (.agg #[.int .u64 0, .int .u64 0]), 2, 16) := by kernel_rfl
/-- 'make([]Sample, n)', n a variable. -/
theorem wpList_make_pairs {P : Program} (w : World) {ops : Array Oper} {rest : List Oper} {o : Oper} {a : Act} {Q : Exit → Act → World → Prop}
    (hg : o.guard = none) (l c : Operand) (t : TypeId) (hop : o.op = Op.makeSlice t l c)
    (e : TypeId) (i : TypeInfo) (z : Value) (ht : P.underlying t = some (.slice e)) (hi : P.info? e = some i) (hz : i.zero = some z) (hsize : i.size = 2)
    (kl kc : IntKind) (n : Nat) (hl : a.eval l = .int kl (n : Int)) (hc : a.eval c = .int kc (n : Int)) (hbytes : i.bytes * n ≤ 281474976710656) (h63 : n ≤ 9223372036854775807)
    (hK : wpList P ops Q rest (a.put o.dst (.slice (some ⟨w.heap.size, 0, none⟩) n n)) (w.alloc (.cells (madeCells z.cells (n * 2)) e))) :
    wpList P ops Q (o :: rest) a w := by
  refine wpList_plain hg fun K hK' => ?_
  have hb' : (i.bytes : Int) * (n : Int) ≤ 281474976710656 := by
    have h : ((i.bytes * n : Nat) : Int) ≤ 281474976710656 := by omega
    rwa [Int.natCast_mul] at h
  have hrun := run_make (P := P) w t e i z ht hi hz kl kc n n (by omega) (Int.le_refl _) hb' (by omega)
  simp only [Int.toNat_natCast, hsize] at hrun
  unfold Oper.wp
  simp [execOp, hop, hl, hc, hrun, Result.andThen]
  exact hK' _ _ hK
def lim (x : BitVec 64) (k : Nat) (j : Nat) : Value := .int .u64 (U (if j % 2 = 1 ∧ j < k * 2 then x else 0#64))
theorem lim_made (w : World) (n : Nat) (x : BitVec 64) : (w.alloc (.cells (madeCells (Value.agg #[.int .u64 0, .int .u64 0]).cells (n * 2)) 50)).rowIs w.heap.size 50 (n * 2) (lim x 0) := by
  have h := World.rowIs_alloc w (madeCells (Value.agg #[.int .u64 0, .int .u64 0]).cells (n * 2)) 50 (lim x 0) (fun i hi => by
    rw [size_madeCells] at hi
    have h2 : (Value.agg #[.int .u64 0, .int .u64 0]).cells = #[.int .u64 0, .int .u64 0] := rfl
    rw [h2]
    unfold lim
    rw [if_neg (by omega)]
    rcases Nat.mod_two_eq_zero_or_one i with e | e
    · simp [madeCells, hi, e]; rfl
    · simp [madeCells, hi, e]; rfl)
  rw [size_madeCells] at h
  exact h
theorem lim_store {w : World} {g n k : Nat} {x : BitVec 64} (h : w.rowIs g 50 (n * 2) (lim x k)) :
    ((w.setCell ⟨g, k * 2, none⟩ (.int .u64 0)).setCell ⟨g, k * 2 + 1, none⟩ (.int .u64 (U x))).rowIs g 50 (n * 2) (lim x (k + 1)) := by
  refine ((h.set (k * 2) (.int .u64 0)).set (k * 2 + 1) (.int .u64 (U x))).congr fun j _ => ?_
  show (if j = k * 2 + 1 then (.int .u64 (U x) : Value) else if j = k * 2 then .int .u64 0 else lim x k j) = lim x (k + 1) j
  unfold lim
  by_cases e1 : j = k * 2 + 1
  · rw [if_pos e1, if_pos (by omega)]
  · rw [if_neg e1]
    by_cases e2 : j = k * 2
    · rw [if_pos e2, if_neg (by omega)]; rfl
    · rw [if_neg e2]
      by_cases e3 : j % 2 = 1 ∧ j < k * 2
      · rw [if_pos e3, if_pos (by omega)]
      · rw [if_neg e3, if_neg (by omega)]
theorem lim_holds {w : World} {g n cap : Nat} {x : BitVec 64} (h : w.rowIs g 50 (n * 2) (lim x n)) : HoldsS w (.slice (some ⟨g, 0, none⟩) n cap) n (fun _ => 0#64) (fun _ => x) := by
  refine ⟨_, _, rfl, .inr ⟨g, 0, rfl, h.lt, fun j hj => ⟨?_, ?_⟩⟩⟩
  · rw [Nat.zero_add, h.cell (by omega)]
    unfold lim
    rw [if_neg (by omega)]
  · rw [Nat.zero_add, h.cell (by omega)]
    unfold lim
    rw [if_pos (by omega)]
theorem AA_and (x : BitVec 64) : AA &&& x = x := BitVec.allOnes_and
theorem alw_const (x : BitVec 64) : ∀ n, alw (fun _ => x) (n + 1) = x
  | 0 => by rw [alw, alw, AA_and]
  | n + 1 => by rw [alw, alw_const x n, BitVec.and_self]
theorem opn_const : ∀ n, opn (fun _ => 0#64) (n + 1) = AA
  | 0 => by rw [opn, opn]; unfold AA; simp
  | n + 1 => by rw [opn, opn_const n]; unfold AA; simp
theorem som_const : ∀ n, som (fun _ => 0#64) n = 0#64
  | 0 => rfl
  | n + 1 => by rw [som, som_const n]; rfl
theorem suspects_const (v : Value) (n : Nat) (x : BitVec 64) (w : World) (hv : HoldsS w v (n + 1) (fun _ => 0#64) (fun _ => x)) (hn : n + 1 ≤ 1000) :
    Calls Try.prog 30 #[v] w fun e w' => e = .returned (.tuple #[.int .u64 (U x), .int .u64 0, .int .i64 0]) ∧ Below w.heap.size w w' := by
  have h := suspects_in v (n + 1) _ _ w hv hn
  rw [alw_const, opn_const, som_const, show x &&& AA = x from BitVec.and_allOnes, BitVec.zero_and] at h
  exact h

set_option maxHeartbeats 1600000 in
theorem matrixLimits_walk (y : BitVec 8) (x : BitVec 64) (w : World) :
    Calls Try.prog 14 #[.int .u8 (B8 y), .int .u64 (U x)] w fun e w' => e = .returned (.bool true) ∧ Below w.heap.size w w' := by
  obtain ⟨Y, hY⟩ : ∃ Y : Nat, B8 y = (Y : Int) ∧ Y < 256 := ⟨y.toNat, rfl, y.isLt⟩
  rw [hY.1]
  have hY2 := hY.2
  clear hY
  obtain ⟨d, hd⟩ : ∃ d : Nat, d = Y % 3 := ⟨_, rfl⟩
  have d1 : (Y : Int) % 3 = (d : Int) := by omega
  have d2 : d < 3 := by omega
  obtain ⟨L, hL⟩ : ∃ L : Nat, L = 998 + d := ⟨_, rfl⟩
  have d3 : (1000 : Int) + (d : Int) - 1 = ((L + 1 : Nat) : Int) := by omega
  have HL := Lib.hid hL
  have hL2 : L ≤ 1000 := by omega
  clear hd hL
  obtain ⟨i0, hi, hz0, hz1, hz2⟩ := info_parts Try.info50
  obtain ⟨N, hN⟩ : ∃ N : Nat, N = L + 1 := ⟨_, rfl⟩
  rw [← hN] at d3
  have HN := Lib.hid hN
  have n1 : N ≤ 1001 := by omega
  have n0 : 1 ≤ N := by omega
  clear hN
  go_enter Try.func14, Try.ntmps14
  go_wp2_with (refine wpList_make_pairs _ rfl _ _ 44 rfl 50 i0 _ Try.underlying44 hi hz0 hz1 .i64 .i64 N rfl rfl (by rw [hz2]; omega) (by omega) ?_)
  have HR := Lib.hid (show (w.alloc (.cells (madeCells #[.int .u64 0, .int .u64 0] (N * 2)) 50)).rowIs w.heap.size 50 (N * 2) (lim x 0) from lim_made w N x)
  have HB := Lib.hid (show Below w.heap.size w (w.alloc (.cells (madeCells #[.int .u64 0, .int .u64 0] (N * 2)) 50)) from (Below.refl _ w).alloc (Nat.le_refl _) _)
  generalize w.alloc (.cells (madeCells #[.int .u64 0, .int .u64 0] (N * 2)) 50) = w1 at *
  go_wp2
  go_loopg [6] N (fun g i wr => ∃ k : Nat, k ≤ N ∧ g = N - k ∧ i = .int .i64 k ∧ wr.rowIs w.heap.size 50 (N * 2) (lim x k) ∧ Below w.heap.size w wr)
  case atStart => exact ⟨0, by omega, rfl, rfl, HR.out, HB.out⟩
  case round =>
    clear HR HB
    obtain ⟨k, hk, hg, rfl, hR, hB⟩ := hrel
    have Hg := Lib.hid hg
    have HR := Lib.hid hR
    have HB := Lib.hid hB
    clear hg hB
    by_cases hkN : k < N
    · have f0 := hR.frozen (k * 2)
      have f1 := hR.frozen (k * 2 + 1)
      have c0 := hR.cell (i := k * 2) (by omega)
      have c1 := hR.cell (i := k * 2 + 1) (by omega)
      unfold lim at c0 c1
      have b1 : (0 : Int) ≤ (k : Int) := by omega
      have b2 : (k : Int) < (N : Int) := by omega
      have b3 : decide ((k : Int) < (N : Int)) = true := by simp; omega
      clear hR
      go_wp2
      go_roundg (N - (k + 1))
      case measure => have := Hg.out; omega
      case rel => exact ⟨k + 1, by omega, rfl, by go_num, lim_store HR.out, (HB.out.setCell (Nat.le_refl _) _).setCell (Nat.le_refl _) _⟩
    · have b3 : decide ((k : Int) < (N : Int)) = false := by simp; omega
      have HV := Lib.hid (show HoldsS wr (.slice (some ⟨w.heap.size, 0, none⟩) N N) N (fun _ => 0#64) (fun _ => x) by have := HR.out; rw [show k = N by omega] at this; exact lim_holds this)
      clear hR
      by_cases hN1 : 1000 < N
      · have b4 : decide (1000 < (N : Int)) = true := by simp; omega
        go_wp2_with fail
        refine (suspects_out _ N _ _ _ HV.out hN1).mono ?_
        rintro e w2 ⟨rfl, hb2⟩
        have Hb2 := Lib.hid hb2
        clear hb2
        go_wp2_with fail
        refine (sane_any _).mono ?_
        rintro e w3 ⟨rfl, hb3⟩
        have Hb3 := Lib.hid hb3
        clear hb3
        go_wp2
        go_ret
        exact ⟨rfl, HB.out.trans ((Hb2.out.trans (Hb3.out.mono Hb2.out.size)).mono HB.out.size)⟩
      · have b4 : decide (1000 < (N : Int)) = false := by simp; omega
        have HC := Lib.hid (show Calls Try.prog 30 #[.slice (some ⟨w.heap.size, 0, none⟩) N N] wr fun e w' => e = .returned (.tuple #[.int .u64 (U x), .int .u64 0, .int .i64 0]) ∧ Below wr.heap.size wr w' by
          have h := HV.out
          have h2 := HN.out
          subst h2
          exact suspects_const _ L x wr h (by omega))
        go_wp2_with fail
        refine HC.out.mono ?_
        rintro e w2 ⟨rfl, hb2⟩
        have Hb2 := Lib.hid hb2
        clear hb2
        go_wp2_with fail
        refine (sane_any _).mono ?_
        rintro e w3 ⟨rfl, hb3⟩
        have Hb3 := Lib.hid hb3
        clear hb3
        go_wp2
        go_ret
        exact ⟨rfl, HB.out.trans ((Hb2.out.trans (Hb3.out.mono Hb2.out.size)).mono HB.out.size)⟩
end Go.Proofs.Ytpboblanjngeeaa
