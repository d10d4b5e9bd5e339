/-
  Plain laws of loads, live coils and heat: bits of the live set; more coils, more load; more load, not cooler. No program in sight.
-/
import Derived.Test.YtfgkljfoalgkaaaFTick
namespace Go.Proofs.Ytfgkljfoalgkaaa
open Go.RowKit

theorem tb_or (x y : BitVec 32) (i : Nat) : tb (x ||| y) i = (tb x i || tb y i) := by unfold tb; rw [BitVec.getLsbD_or]
theorem tb_and (x y : BitVec 32) (i : Nat) : tb (x &&& y) i = (tb x i && tb y i) := by unfold tb; rw [BitVec.getLsbD_and]
theorem tb_one (k i : Nat) (hk : k < 32) : tb (1#32 <<< k) i = decide (i = k) := by
  unfold tb
  rw [BitVec.getLsbD_shiftLeft, BitVec.getLsbD_one]
  by_cases e : i = k
  · subst e; simp [hk]
  · simp [e]
    omega
theorem tb_zero (i : Nat) : tb 0#32 i = false := by unfold tb; simp
theorem tb_ge (x : BitVec 32) {i : Nat} (h : 32 ≤ i) : tb x i = false := by unfold tb; exact BitVec.getLsbD_of_ge _ _ h
theorem tb_ext {x y : BitVec 32} (h : ∀ i, i < 32 → tb x i = tb y i) : x = y := BitVec.eq_of_getLsbD_eq h
theorem tb_andNot (x y : BitVec 32) (i : Nat) : tb (x &&& ~~~y) i = (tb x i && !tb y i) := by
  by_cases h : i < 32
  · unfold tb; rw [BitVec.getLsbD_and, BitVec.getLsbD_not]; simp [h]
  · rw [tb_ge _ (by omega), tb_ge x (by omega)]; rfl
theorem liveTo_bit (C : Nat → Coil) (m : Nat) (S : Nat → FS) (x : BitVec 32) : ∀ n, n ≤ 32 → ∀ i, tb (liveTo C m S x n) i = (decide (i < n) && liveC (C i) m S && tb x i)
  | 0, _, i => by rw [liveTo, tb_zero]; simp
  | n + 1, h, i => by
    have ih := liveTo_bit C m S x n (by omega) i
    rw [liveTo]
    by_cases e : i = n
    · subst e
      cases hl : liveC (C i) m S with
      | true => rw [if_pos rfl, tb_or, ih, tb_and, tb_one _ _ (by omega)]; simp
      | false => rw [if_neg Bool.false_ne_true, ih]; simp
    · have e1 : decide (i < n + 1) = decide (i < n) := by rw [Bool.eq_iff_iff, decide_eq_true_eq, decide_eq_true_eq]; omega
      rw [e1]
      split
      · rw [tb_or, ih, tb_and, tb_one _ _ (by omega)]; simp [e]
      · exact ih
theorem liveF_bit {c : Nat} {C : Nat → Coil} (hC : validE c C = 0) (m : Nat) (S : Nat → FS) (x : BitVec 32) (i : Nat) : tb (liveF c C m S x) i = (decide (i < c) && liveC (C i) m S && tb x i) := by
  unfold liveF
  rw [if_pos hC]
  exact liveTo_bit C m S x c (validE_zero hC).1 i
theorem loadTo_mono (C : Nat → Coil) {x y : BitVec 32} (q : Int) (hxy : ∀ i, tb x i = true → tb y i = true) : ∀ n, (∀ i, i < n → goodB (C i) = true) → loadTo C x q n ≤ loadTo C y q n
  | 0, _ => Int.le_refl _
  | n + 1, h => by
    have ih := loadTo_mono C q hxy n fun i hi => h i (by omega)
    have hg := (goodB_iff _).1 (h n (by omega))
    unfold loadTo
    cases hx : tb x n with
    | true => rw [hxy n hx]; split <;> omega
    | false =>
      rw [Bool.false_and, if_neg Bool.false_ne_true]
      split <;> omega
theorem loadF_mono {c : Nat} {C : Nat → Coil} (hC : validE c C = 0) {x y : BitVec 32} (q : Int) (hxy : ∀ i, tb x i = true → tb y i = true) : loadF c C x q ≤ loadF c C y q := by
  unfold loadF
  rw [if_pos hC, if_pos hC]
  exact loadTo_mono C q hxy c (validE_zero hC).2
theorem heat_mono (f : Fuse) (s : FS) {L L' : Int} (h0 : 0 ≤ L) (h : L ≤ L') : heatF f s L ≤ heatF f s L' := by
  have := (sq_le h0 h).2
  unfold heatF
  omega
theorem stepF_mono (f : Fuse) (s : FS) {L L' : Int} (h0 : 0 ≤ L) (h : L ≤ L') : (stepF f s L').blown = true ∨ ((stepF f s L).blown = false ∧ (stepF f s L).heat ≤ (stepF f s L').heat) := by
  have := heat_mono f s h0 h
  unfold stepF
  cases hb : s.blown with
  | true => left; rw [if_pos rfl]; exact hb
  | false =>
    rw [if_neg Bool.false_ne_true, if_neg Bool.false_ne_true]
    by_cases h1 : f.limit < heatF f s L'
    · left; rw [if_pos h1]
    · right
      rw [if_neg h1, if_neg (by omega)]
      exact ⟨rfl, this⟩
theorem live_sub {c : Nat} {C : Nat → Coil} (hC : validE c C = 0) (m : Nat) (S : Nat → FS) (a b : BitVec 32) (i : Nat) (h : tb (liveF c C m S (a &&& b)) i = true) : tb (liveF c C m S b) i = true := by
  rw [liveF_bit hC, tb_and] at h
  rw [liveF_bit hC]
  simp only [Bool.and_eq_true] at h ⊢
  exact ⟨h.1, h.2.2⟩
theorem live_diff {c : Nat} {C : Nat → Coil} (hC : validE c C = 0) (m : Nat) (S : Nat → FS) (a b : BitVec 32) : liveF c C m S (a &&& b) &&& ~~~ liveF c C m S b = 0#32 := by
  apply tb_ext
  intro i _
  rw [tb_andNot, tb_zero]
  cases h : tb (liveF c C m S (a &&& b)) i with
  | false => rfl
  | true => rw [live_sub hC m S a b i h]; rfl
theorem tick_mono {c : Nat} {C : Nat → Coil} (hC : validE c C = 0) (n : Nat) (F : Nat → Fuse) (S : Nat → FS) (a b : BitVec 32) (i : Nat) :
    (tickF n F c C S b i).blown = true ∨ ((tickF n F c C S (a &&& b) i).blown = false ∧ (tickF n F c C S (a &&& b) i).heat ≤ (tickF n F c C S b i).heat) :=
  stepF_mono (F i) (S i) (loadF_le c C _ i).1 (loadF_mono hC i (live_sub hC n S a b))
/-! What a good panel is. -/
end Go.Proofs.Ytfgkljfoalgkaaa
