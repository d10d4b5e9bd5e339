/-
  matrix.Suspects and the reference's: both hand back the same sets, for every list of samples. No condition.
-/
import Derived.Test.YtpboblanjngeeaaRefSafeW
import Derived.Deep.LoopGhost
namespace Go.Proofs.Ytpboblanjngeeaa
open Go.RowKit
attribute [local go_sem] shr_min64 shr_min8 shl_min64 U_shr U_shr' U_shl U_shl' U_shl1 U_and U_or U_andNot U_and1 U_bit U_bit0 U_to8 B8_to64 B8_shr B8_shr' B8_shl B8_shl' B8_shl1 B8_pow U_pow B8_and B8_or B8_andNot B8_and1 B8_bit B8_bit0 Later.cell
attribute [local go_sem] U_not

/-- The slice value v has n samples: the closed sets C, the read ones R. -/
def HoldsS (w : World) (v : Value) (n : Nat) (C R : Nat → BitVec 64) : Prop :=
  ∃ a cap, v = .slice a n cap ∧ (n = 0 ∨ ∃ g off, a = some ⟨g, off, none⟩ ∧ g < w.heap.size ∧ ∀ j, j < n → w.cell? ⟨g, off + j * 2, none⟩ = some (.int .u64 (U (C j))) ∧ w.cell? ⟨g, off + j * 2 + 1, none⟩ = some (.int .u64 (U (R j))))
theorem HoldsS.below {w w' : World} {B : Nat} {v : Value} {n : Nat} {C R : Nat → BitVec 64} (h : HoldsS w v n C R) (hb : Below B w w') (hB : w.heap.size ≤ B) : HoldsS w' v n C R := by
  obtain ⟨a, cap, hv, h⟩ := h
  refine ⟨a, cap, hv, h.imp id fun ⟨g, off, h1, h2, h3⟩ => ⟨g, off, h1, Nat.lt_of_lt_of_le h2 hb.size, fun j hj => ⟨?_, ?_⟩⟩⟩
  · rw [hb.cell (p := ⟨g, off + j * 2, none⟩) (Nat.lt_of_lt_of_le h2 hB)]; exact (h3 j hj).1
  · rw [hb.cell (p := ⟨g, off + j * 2 + 1, none⟩) (Nat.lt_of_lt_of_le h2 hB)]; exact (h3 j hj).2
def alw (R : Nat → BitVec 64) : Nat → BitVec 64
  | 0 => AA
  | k + 1 => alw R k &&& R k
def som (R : Nat → BitVec 64) : Nat → BitVec 64
  | 0 => 0#64
  | k + 1 => som R k ||| R k
def opn (C : Nat → BitVec 64) : Nat → BitVec 64
  | 0 => 0#64
  | k + 1 => opn C k ||| ~~~C k
def non (R : Nat → BitVec 64) : Nat → BitVec 64
  | 0 => AA
  | k + 1 => non R k &&& ~~~R k
theorem non_som (R : Nat → BitVec 64) : ∀ k, non R k = ~~~som R k
  | 0 => by show AA = ~~~0#64; unfold AA; exact BitVec.not_zero.symm
  | k + 1 => by rw [non, som, non_som R k, BitVec.not_or]
theorem suspects_out (v : Value) (n : Nat) (C R : Nat → BitVec 64) (w : World) (hv : HoldsS w v n C R) (hn : 1000 < n) :
    Calls Try.prog 30 #[v] w fun e w' => e = .returned (.tuple #[.int .u64 0, .int .u64 0, .int .i64 9]) ∧ Below w.heap.size w w' := by
  obtain ⟨a, cap, rfl, _⟩ := hv
  have h1 : decide (1000 < (n : Int)) = true := by simp; omega
  go_enter Try.func30, Try.ntmps30
  go_wp2
  go_ret3
  exact ⟨rfl, Below.refl _ _⟩
theorem refSuspects_out (v : Value) (n : Nat) (C R : Nat → BitVec 64) (w : World) (hv : HoldsS w v n C R) (hn : 1000 < n) :
    Calls Try.prog 31 #[v] w fun e w' => e = .returned (.tuple #[.int .u64 0, .int .u64 0, .int .i64 9]) ∧ Below w.heap.size w w' := by
  obtain ⟨a, cap, rfl, _⟩ := hv
  have h1 : decide (1000 < (n : Int)) = true := by simp; omega
  go_enter Try.func31, Try.ntmps31
  go_wp2
  go_ret3
  exact ⟨rfl, Below.refl _ _⟩

set_option maxHeartbeats 1600000 in
theorem suspects_in (v : Value) (n : Nat) (C R : Nat → BitVec 64) (w : World) (hv : HoldsS w v n C R) (hn : n ≤ 1000) :
    Calls Try.prog 30 #[v] w fun e w' => e = .returned (.tuple #[.int .u64 (U (alw R n &&& opn C n)), .int .u64 (U (som C n &&& ~~~som R n)), .int .i64 0]) ∧ Below w.heap.size w w' := by
  obtain ⟨a, cap, rfl, hv⟩ := hv
  have HV := Lib.hid hv
  clear hv
  have h1 : decide (1000 < (n : Int)) = false := by simp; omega
  go_enter Try.func30, Try.ntmps30
  go_wp2
  go_loopg [5, 6, 7, 8, 16] n (fun g x5 x6 x7 x8 i wr => ∃ k : Nat, k ≤ n ∧ g = n - k ∧ i = .int .i64 k ∧ x5 = .int .u64 (U (alw R k)) ∧ x6 = .int .u64 (U (som R k)) ∧ x7 = .int .u64 (U (opn C k)) ∧ x8 = .int .u64 (U (som C k)) ∧ Below w.heap.size w wr)
  case atStart => exact ⟨0, by omega, rfl, rfl, by rw [alw, ← U_AA], rfl, rfl, rfl, Below.refl _ _⟩
  case round =>
    obtain ⟨k, hk, hg, rfl, rfl, rfl, rfl, rfl, hb⟩ := hrel
    have Hg := Lib.hid hg
    have Hb := Lib.hid hb
    clear hg
    by_cases hkn : k < n
    · obtain ⟨g1, o1, rfl, l1, d1⟩ := HV.out.resolve_left (by omega)
      have e1 := (d1 k hkn).1
      have e2 := (d1 k hkn).2
      rw [← hb.cell (p := ⟨g1, o1 + k * 2, none⟩) l1] at e1
      rw [← hb.cell (p := ⟨g1, o1 + k * 2 + 1, none⟩) l1] at e2
      have hsz := hb.size
      have b1 : (0 : Int) ≤ (k : Int) := by omega
      have b2 : (k : Int) < (n : Int) := by omega
      have b3 : decide ((k : Int) < (n : Int)) = true := by simp; omega
      have HA : alw R (k + 1) = alw R k &&& R k := rfl
      have HS : som R (k + 1) = som R k ||| R k := rfl
      have HO : opn C (k + 1) = opn C k ||| ~~~C k := rfl
      have HM : som C (k + 1) = som C k ||| C k := rfl
      have HA := Lib.hid HA
      have HS := Lib.hid HS
      have HO := Lib.hid HO
      have HM := Lib.hid HM
      clear d1 hb
      generalize C k = ck at *
      generalize R k = rk at *
      go_wp2_with fail
      go_quiet (fail)
      go_wp2_with fail
      go_quiet (fail)
      go_wp2
      go_roundg (n - (k + 1))
      case measure => have := Hg.out; omega
      case rel => exact ⟨k + 1, by omega, rfl, by go_num, by rw [HA.out], by rw [HS.out], by rw [HO.out], by rw [HM.out], below_drewN (Hb.out.alloc hsz _) _⟩
    · have b3 : decide ((k : Int) < (n : Int)) = false := by simp; omega
      have Hk := Lib.hid (show k = n by omega)
      clear hb
      go_wp2
      go_ret3
      exact ⟨by rw [Hk.out]; rfl, Hb.out⟩

set_option maxHeartbeats 1600000 in
theorem refSuspects_in (v : Value) (n : Nat) (C R : Nat → BitVec 64) (w : World) (hv : HoldsS w v n C R) (hn : n ≤ 1000) :
    Calls Try.prog 31 #[v] w fun e w' => e = .returned (.tuple #[.int .u64 (U (alw R n &&& opn C n)), .int .u64 (U (som C n &&& ~~~som R n)), .int .i64 0]) ∧ Below w.heap.size w w' := by
  obtain ⟨a, cap, rfl, hv⟩ := hv
  have HV := Lib.hid hv
  clear hv
  have h1 : decide (1000 < (n : Int)) = false := by simp; omega
  go_enter Try.func31, Try.ntmps31
  go_wp2
  go_loopg [5, 6, 7, 8, 9] n (fun g x5 x6 x7 x8 i wr => ∃ k : Nat, k ≤ n ∧ g = n - k ∧ i = .int .i64 k ∧ x5 = .int .u64 (U (alw R k)) ∧ x6 = .int .u64 (U (opn C k)) ∧ x7 = .int .u64 (U (non R k)) ∧ x8 = .int .u64 (U (som C k)) ∧ Below w.heap.size w wr)
  case atStart => exact ⟨0, by omega, rfl, rfl, by rw [alw, ← U_AA], rfl, by rw [non, ← U_AA], rfl, Below.refl _ _⟩
  case round =>
    obtain ⟨k, hk, hg, rfl, rfl, rfl, rfl, rfl, hb⟩ := hrel
    have Hg := Lib.hid hg
    have Hb := Lib.hid hb
    clear hg
    by_cases hkn : k < n
    · obtain ⟨g1, o1, rfl, l1, d1⟩ := HV.out.resolve_left (by omega)
      have e1 := (d1 k hkn).1
      have e2 := (d1 k hkn).2
      rw [← hb.cell (p := ⟨g1, o1 + k * 2, none⟩) l1] at e1
      rw [← hb.cell (p := ⟨g1, o1 + k * 2 + 1, none⟩) l1] at e2
      have b1 : (0 : Int) ≤ (k : Int) := by omega
      have b2 : (k : Int) < (n : Int) := by omega
      have b3 : decide ((k : Int) < (n : Int)) = true := by simp; omega
      have HA := Lib.hid (show alw R (k + 1) = alw R k &&& R k from rfl)
      have HS := Lib.hid (show non R (k + 1) = non R k &&& ~~~R k from rfl)
      have HO := Lib.hid (show opn C (k + 1) = opn C k ||| ~~~C k from rfl)
      have HM := Lib.hid (show som C (k + 1) = som C k ||| C k from rfl)
      clear d1 hb
      generalize C k = ck at *
      generalize R k = rk at *
      go_wp2
      go_roundg (n - (k + 1))
      case measure => have := Hg.out; omega
      case rel => exact ⟨k + 1, by omega, rfl, by go_num, by rw [HA.out], by rw [HO.out], by rw [HS.out], by rw [HM.out], Hb.out⟩
    · have b3 : decide ((k : Int) < (n : Int)) = false := by simp; omega
      have Hk := Lib.hid (show k = n by omega)
      have HE := Lib.hid (show non R k &&& som C k = som C k &&& ~~~som R k by rw [non_som, BitVec.and_comm])
      clear hb
      go_wp2
      go_ret3
      refine ⟨?_, Hb.out⟩
      show Ending.returned (.tuple #[.int .u64 (U (alw R k &&& opn C k)), .int .u64 (U (non R k &&& som C k)), .int .i64 0]) = _
      rw [HE.out, Hk.out]
end Go.Proofs.Ytpboblanjngeeaa
