/-
  Plain mathematics: what the two searches of matrix.Path find.
-/
import Derived.Test.YtpboblanjngeeaaDist
namespace Go.Proofs.Ytpboblanjngeeaa
def kOf (on bk : BitVec 64) (r c : Nat) : Nat → Nat
  | 0 => r
  | m + 1 => nextK on bk r c m
theorem kstep {on dio : BitVec 64} {r c m : Nat} (hr : r < 8) (h : Dist on (on &&& dio) r c m) :
    kOf on (on &&& dio) r c m < 8 ∧ on.getLsbD (8 * c + kOf on (on &&& dio) r c m) = true ∧ Rf on dio r (kOf on (on &&& dio) r c m) = 2 * m ∧
      (∀ j, j < kOf on (on &&& dio) r c m → on.getLsbD (8 * c + j) = true → Rf on dio r j ≠ 2 * m) ∧ (m ≠ 0 → kOf on (on &&& dio) r c m ≠ r) := by
  cases m with
  | zero =>
    have h0 := (lev_zero _ _ _ _ hr).1 h.1
    refine ⟨hr, h0.2, (Rf_zero hr hr).2 rfl, fun j hj _ he => ?_, fun h => absurd rfl h⟩
    replace hj : j < r := hj
    have := (Rf_zero hr (by omega)).1 he
    omega
  | succ m =>
    obtain ⟨h1, h2, h3, h4⟩ := nextK_spec h
    have h5 := (Rf_succ hr h1 h h2).2 h3
    refine ⟨h1, h2, h5, fun j hj ho he => ?_, fun _ he => ?_⟩
    · replace hj : j < nextK on (on &&& dio) r c m := hj
      exact h4 j hj ⟨ho, (Rf_succ hr (by omega) h ho).1 he⟩
    · replace he : nextK on (on &&& dio) r c m = r := he
      have := (Rf_zero (on := on) (dio := dio) hr h1).2 he
      omega
theorem astep {on dio : BitVec 64} {r c m : Nat} (hr : r < 8) (h : Dist on (on &&& dio) r c (m + 1)) :
    nextA on (on &&& dio) r (nextK on (on &&& dio) r c m) m < 8 ∧ (on &&& dio).getLsbD (8 * nextA on (on &&& dio) r (nextK on (on &&& dio) r c m) m + nextK on (on &&& dio) r c m) = true ∧
    Dist on (on &&& dio) r (nextA on (on &&& dio) r (nextK on (on &&& dio) r c m) m) m ∧
    Cf on dio r (nextA on (on &&& dio) r (nextK on (on &&& dio) r c m) m) = 2 * m + 1 ∧
    (∀ j, j < nextA on (on &&& dio) r (nextK on (on &&& dio) r c m) m → (on &&& dio).getLsbD (8 * j + nextK on (on &&& dio) r c m) = true → Cf on dio r j ≠ 2 * m + 1) := by
  obtain ⟨h1, h2, h3, h4⟩ := nextK_spec h
  obtain ⟨g1, g2, g3, g4⟩ := nextA_spec h3
  refine ⟨g1, g2, g3, Cf_dist hr g3, fun j hj hb he => g4 j hj ⟨hb, (Cf_eq hr (by omega) g3.seven).1 he⟩⟩
theorem Rf_le (on dio : BitVec 64) (r : Nat) (hr : r < 8) (k : Nat) : Rf on dio r k ≤ 100 := (st_stands on dio r hr 1024).rle k
theorem Cf_le (on dio : BitVec 64) (r : Nat) (hr : r < 8) (k : Nat) : Cf on dio r k ≤ 100 := (st_stands on dio r hr 1024).cle k
end Go.Proofs.Ytpboblanjngeeaa
