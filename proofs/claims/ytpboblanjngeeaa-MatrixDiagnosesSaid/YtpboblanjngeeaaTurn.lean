/-
  Plain mathematics: the numbers of columns and rows do not matter: with all sets turned the readings, and what is safe, are turned. No program in sight.
-/
import Derived.Test.YtpboblanjngeeaaPlain
import Derived.Test.YtpboblanjngeeaaSafeW
namespace Go.Proofs.Ytpboblanjngeeaa
def sig (n m t : Nat) : Nat := (t / 8 + n) % 8 * 8 + (t % 8 + m) % 8
def turnTo (x : BitVec 64) (n m : Nat) : Nat → BitVec 64
  | 0 => 0#64
  | t + 1 => if tb x t = true then turnTo x n m t ||| 1#64 <<< sig n m t else turnTo x n m t
def turnB (x : BitVec 64) (n m : Nat) : BitVec 64 := turnTo x n m 64
theorem one_bit64 (c k : Nat) : (1#64 <<< c).getLsbD k = (decide (k < 64) && decide (k = c)) := by
  rw [BitVec.getLsbD_shiftLeft, BitVec.getLsbD_one, Bool.eq_iff_iff]
  simp
  omega
theorem sig_lt (n m t : Nat) : sig n m t < 64 := by unfold sig; omega
theorem turnTo_bit (x : BitVec 64) (n m : Nat) : ∀ t, ∀ u, (turnTo x n m t).getLsbD u = true ↔ ∃ s, s < t ∧ x.getLsbD s = true ∧ sig n m s = u
  | 0, u => by simp [turnTo]
  | t + 1, u => by
    have ih := turnTo_bit x n m t u
    unfold turnTo
    by_cases h : tb x t = true
    · rw [if_pos h, BitVec.getLsbD_or, Bool.or_eq_true, ih, one_bit64]
      constructor
      · rintro (⟨s, h1, h2⟩ | h1)
        · exact ⟨s, by omega, h2⟩
        · simp at h1; exact ⟨t, by omega, h, h1.2.symm⟩
      · rintro ⟨s, h1, h2, h3⟩
        by_cases e : s = t
        · subst e; right; rw [← h3]; simp [sig_lt]
        · exact .inl ⟨s, by omega, h2, h3⟩
    · rw [if_neg h, ih]
      constructor
      · rintro ⟨s, h1, h2⟩; exact ⟨s, by omega, h2⟩
      · rintro ⟨s, h1, h2, h3⟩
        by_cases e : s = t
        · subst e; exact absurd h2 h
        · exact ⟨s, by omega, h2, h3⟩
theorem sig_inj {n m s t : Nat} (hs : s < 64) (ht : t < 64) (h : sig n m s = sig n m t) : s = t := by
  unfold sig at h; omega
/-- The turn that undoes the turn. -/
def back (n : Nat) : Nat := (8 - n % 8) % 8
theorem sig_back {n m t : Nat} (ht : t < 64) : sig (back n) (back m) (sig n m t) = t := by
  unfold sig back; omega
theorem sig_forth {n m t : Nat} (ht : t < 64) : sig n m (sig (back n) (back m) t) = t := by
  unfold sig back; omega
theorem turn_bit (x : BitVec 64) (n m t : Nat) (ht : t < 64) : (turnB x n m).getLsbD (sig n m t) = x.getLsbD t := by
  unfold turnB
  rw [Bool.eq_iff_iff, turnTo_bit]
  constructor
  · rintro ⟨s, h1, h2, h3⟩
    rw [← sig_inj h1 ht h3]; exact h2
  · intro h; exact ⟨t, ht, h, rfl⟩
theorem turn_ext {a b : BitVec 64} (n m : Nat) (h : ∀ t, t < 64 → a.getLsbD (sig n m t) = b.getLsbD (sig n m t)) : a = b := by
  apply BitVec.eq_of_getLsbD_eq
  intro i hi
  have := h (sig (back n) (back m) i) (sig_lt _ _ _)
  rwa [sig_forth hi] at this
theorem turn_back (x : BitVec 64) (n m : Nat) : turnB (turnB x n m) (back n) (back m) = x := by
  apply BitVec.eq_of_getLsbD_eq
  intro i hi
  have h := turn_bit (turnB x n m) (back n) (back m) (sig n m i) (sig_lt _ _ _)
  rw [sig_back hi, turn_bit x n m i hi] at h
  exact h
theorem turn_and (x y : BitVec 64) (n m : Nat) : turnB (x &&& y) n m = turnB x n m &&& turnB y n m := turn_ext n m fun t ht => by
  rw [turn_bit _ _ _ _ ht, BitVec.getLsbD_and, BitVec.getLsbD_and, turn_bit _ _ _ _ ht, turn_bit _ _ _ _ ht]
theorem turn_or (x y : BitVec 64) (n m : Nat) : turnB (x ||| y) n m = turnB x n m ||| turnB y n m := turn_ext n m fun t ht => by
  rw [turn_bit _ _ _ _ ht, BitVec.getLsbD_or, BitVec.getLsbD_or, turn_bit _ _ _ _ ht, turn_bit _ _ _ _ ht]
theorem turn_not (x : BitVec 64) (n m : Nat) : turnB (~~~x) n m = ~~~turnB x n m := turn_ext n m fun t ht => by
  rw [turn_bit _ _ _ _ ht, BitVec.getLsbD_not, BitVec.getLsbD_not, turn_bit _ _ _ _ ht]
  simp [ht, sig_lt]
theorem turn_phys (s b x : BitVec 64) (n m : Nat) : phys (turnB s n m) (turnB b n m) (turnB x n m) = turnB (phys s b x) n m := by
  unfold phys; rw [turn_and, turn_or, turn_not]
theorem sig_at (n m c r : Nat) (hr : r < 8) : sig n m (8 * c + r) = 8 * ((c + n) % 8) + (r + m) % 8 := by
  unfold sig
  rw [show (8 * c + r) / 8 = c by omega, show (8 * c + r) % 8 = r by omega]
  omega
theorem turn_at (x : BitVec 64) (n m c r : Nat) (hc : c < 8) (hr : r < 8) : (turnB x n m).getLsbD (8 * ((c + n) % 8) + (r + m) % 8) = x.getLsbD (8 * c + r) := by
  rw [← sig_at n m c r hr, turn_bit _ _ _ _ (by omega)]
theorem RC.turn {on bk : BitVec 64} (n m : Nat) {c k : Nat} (hc : c < 8) (h : RC on bk c k) : RC (turnB on n m) (turnB bk n m) ((c + n) % 8) ((k + n) % 8) := by
  induction h with
  | refl => exact .refl
  | step ha hr hb ho hk ih =>
    exact .step ih (r := (_ + m) % 8) (by omega) (by omega) (by rw [turn_at _ _ _ _ _ (ha.lt hc) hr]; exact ho) (by rw [turn_at _ _ _ _ _ hb hr]; exact hk)
theorem RowR.turn {on bk : BitVec 64} (n m : Nat) {c r : Nat} (hc : c < 8) (h : RowR on bk c r) : RowR (turnB on n m) (turnB bk n m) ((c + n) % 8) ((r + m) % 8) := by
  obtain ⟨hr, a, ha, ho⟩ := h
  exact ⟨by omega, (a + n) % 8, ha.turn n m hc, by rw [turn_at _ _ _ _ _ (ha.lt hc) hr]; exact ho⟩
theorem RowR.turn_iff (on bk : BitVec 64) (n m c r : Nat) (hc : c < 8) (hr : r < 8) : RowR (turnB on n m) (turnB bk n m) ((c + n) % 8) ((r + m) % 8) ↔ RowR on bk c r := by
  refine ⟨fun h => ?_, fun h => h.turn n m hc⟩
  have := h.turn (back n) (back m) (by omega)
  rw [turn_back, turn_back] at this
  unfold back at this
  rw [show ((c + n) % 8 + (8 - n % 8) % 8) % 8 = c by omega, show ((r + m) % 8 + (8 - m % 8) % 8) % 8 = r by omega] at this
  exact this
theorem turn_scan (s b d x : BitVec 64) (n m : Nat) : scanB (turnB s n m) (turnB b n m) (turnB d n m) (turnB x n m) = turnB (scanB s b d x) n m := turn_ext n m fun t ht => by
  rw [turn_bit _ _ _ _ ht, Bool.eq_iff_iff, scanB_bit, scanB_bit, turn_phys, ← turn_and]
  have e1 : sig n m t / 8 = (t / 8 + n) % 8 := by unfold sig; omega
  have e2 : sig n m t % 8 = (t % 8 + m) % 8 := by unfold sig; omega
  rw [e1, e2, RowR.turn_iff _ _ _ _ _ _ (by omega) (by omega)]
  simp [ht, sig_lt]

/-! ### Safe -/
theorem safeB_iff (s b d : BitVec 64) : safeB s b d = true ↔ ∀ f r t e, f < 8 → r < 8 → t < 8 → e < 8 → pat s b d f r t e = false := by
  constructor
  · intro h f r t e hf hr ht he
    cases hp : pat s b d f r t e with
    | false => rfl
    | true =>
      rw [safeB_false s b d (8 * f + r) (8 * t + e) (by omega) (by omega) (by rw [patAt_at _ _ _ _ _ _ _ hr he]; exact hp)] at h
      exact Bool.noConfusion h
  · intro h
    exact safeB_true s b d fun k hk l hl => h _ _ _ _ (by omega) (by omega) (by omega) (by omega)
theorem pat_turn (s b d : BitVec 64) (n m f r t e : Nat) (hf : f < 8) (hr : r < 8) (ht : t < 8) (he : e < 8) :
    pat (turnB s n m) (turnB b n m) (turnB d n m) ((f + n) % 8) ((r + m) % 8) ((t + n) % 8) ((e + m) % 8) = pat s b d f r t e := by
  have e1 : ((f + n) % 8 == (t + n) % 8) = (f == t) := by rw [Bool.eq_iff_iff, beq_iff_eq, beq_iff_eq]; omega
  have e2 : ((r + m) % 8 == (e + m) % 8) = (r == e) := by rw [Bool.eq_iff_iff, beq_iff_eq, beq_iff_eq]; omega
  unfold pat tb
  rw [e1, e2, ← turn_not, ← turn_and, ← turn_and, turn_at _ _ _ _ _ hf he, turn_at _ _ _ _ _ hf hr, turn_at _ _ _ _ _ ht hr, turn_at _ _ _ _ _ ht he]
theorem turn_safe_of (s b d : BitVec 64) (n m : Nat) (h : safeB (turnB s n m) (turnB b n m) (turnB d n m) = true) : safeB s b d = true := by
  refine (safeB_iff _ _ _).2 fun f r t e hf hr ht he => ?_
  rw [← pat_turn s b d n m f r t e hf hr ht he]
  exact (safeB_iff _ _ _).1 h _ _ _ _ (by omega) (by omega) (by omega) (by omega)
theorem turn_safe (s b d : BitVec 64) (n m : Nat) : safeB (turnB s n m) (turnB b n m) (turnB d n m) = safeB s b d := by
  rw [Bool.eq_iff_iff]
  refine ⟨turn_safe_of s b d n m, fun h => turn_safe_of _ _ _ (back n) (back m) ?_⟩
  rw [turn_back, turn_back, turn_back]
  exact h
end Go.Proofs.Ytpboblanjngeeaa
