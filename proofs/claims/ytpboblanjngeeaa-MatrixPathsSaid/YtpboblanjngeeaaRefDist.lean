/-
  Plain mathematics: the reference's eight rounds find the distances. No program in sight.
-/
import Derived.Test.YtpboblanjngeeaaSteps
namespace Go.Proofs.Ytpboblanjngeeaa
def aSub (on dio : BitVec 64) (c k a : Nat) (n : Nat → Nat) : Nat → Nat :=
  if on.getLsbD (8 * a + k) = true ∧ dio.getLsbD (8 * a + k) = true ∧ 0 < n a ∧ (n c = 0 ∨ n a + 2 < n c) then upd n c (n a + 2) else n
def aRow (on dio : BitVec 64) (c k : Nat) : Nat → (Nat → Nat) → Nat → Nat
  | 0, n => n
  | a + 1, n => aSub on dio c k a (aRow on dio c k a n)
def aSw (on dio : BitVec 64) (r s : Nat) (n : Nat → Nat) : Nat → Nat :=
  if on.getLsbD s = true then (if s % 8 = r then upd n (s / 8) 1 else aRow on dio (s / 8) (s % 8) 8 n) else n
def aTo (on dio : BitVec 64) (r : Nat) : Nat → Nat → Nat
  | 0 => fun _ => 0
  | t + 1 => aSw on dio r (t % 64) (aTo on dio r t)

/-- What is not 0 stays so and does not grow. -/
def Low (n n' : Nat → Nat) : Prop := ∀ j, n j ≠ 0 → n' j ≠ 0 ∧ n' j ≤ n j
theorem Low.refl (n : Nat → Nat) : Low n n := fun _ h => ⟨h, Nat.le_refl _⟩
theorem Low.trans {a b c : Nat → Nat} (h : Low a b) (k : Low b c) : Low a c := fun j hj => ⟨(k j (h j hj).1).1, Nat.le_trans (k j (h j hj).1).2 (h j hj).2⟩
theorem aSub_low (on dio : BitVec 64) (c k a : Nat) (n : Nat → Nat) : Low n (aSub on dio c k a n) := by
  unfold aSub
  split
  · rename_i h
    intro j hj
    unfold upd
    split
    · rename_i e; subst e; rcases h.2.2.2 with h | h
      · exact absurd h hj
      · exact ⟨by omega, by omega⟩
    · exact ⟨hj, Nat.le_refl _⟩
  · exact Low.refl n
theorem aRow_low (on dio : BitVec 64) (c k : Nat) (n : Nat → Nat) : ∀ a, Low n (aRow on dio c k a n)
  | 0 => Low.refl n
  | a + 1 => (aRow_low on dio c k n a).trans (aSub_low on dio c k a _)
theorem aRow_low2 (on dio : BitVec 64) (c k : Nat) (n : Nat → Nat) (a : Nat) : ∀ d, Low (aRow on dio c k a n) (aRow on dio c k (a + d) n)
  | 0 => Low.refl _
  | d + 1 => (aRow_low2 on dio c k n a d).trans (aSub_low on dio c k (a + d) _)
theorem aSw_low (on dio : BitVec 64) (r s : Nat) (n : Nat → Nat) : Low n (aSw on dio r s n) := by
  unfold aSw
  split
  · split
    · intro j hj
      unfold upd
      split
      · exact ⟨by omega, by omega⟩
      · exact ⟨hj, Nat.le_refl _⟩
    · exact aRow_low _ _ _ _ _ 8
  · exact Low.refl n
theorem aTo_low (on dio : BitVec 64) (r t : Nat) : ∀ d, Low (aTo on dio r t) (aTo on dio r (t + d))
  | 0 => Low.refl _
  | d + 1 => (aTo_low on dio r t d).trans (aSw_low _ _ _ _ _)

/-- What a value stands for. -/
def Sound (on bk : BitVec 64) (r : Nat) (n : Nat → Nat) : Prop := ∀ j, j < 8 → n j ≠ 0 → ∃ m, n j = 2 * m + 1 ∧ (lev on bk r m).getLsbD j = true
theorem aSub_sound {on dio : BitVec 64} {r c k a : Nat} (ha : a < 8) (hk : k < 8) (ho : on.getLsbD (8 * c + k) = true) {n : Nat → Nat} (h : Sound on (on &&& dio) r n) : Sound on (on &&& dio) r (aSub on dio c k a n) := by
  unfold aSub
  split
  · rename_i hh
    intro j hj
    unfold upd
    split
    · rename_i e
      subst e
      intro _
      obtain ⟨m, h1, h2⟩ := h a ha (by omega)
      refine ⟨m + 1, by omega, (lev_succ _ _ _ _ _).2 (.inr ⟨hj, k, hk, ho, a, ha, ?_, h2⟩)⟩
      rw [BitVec.getLsbD_and, hh.1, hh.2.1]; rfl
    · exact h j hj
  · exact h
theorem aRow_sound {on dio : BitVec 64} {r c k : Nat} (hk : k < 8) (ho : on.getLsbD (8 * c + k) = true) {n : Nat → Nat} (h : Sound on (on &&& dio) r n) : ∀ a, a ≤ 8 → Sound on (on &&& dio) r (aRow on dio c k a n)
  | 0, _ => h
  | a + 1, ha => aSub_sound (by omega) hk ho (aRow_sound hk ho h a (by omega))
theorem aTo_sound (on dio : BitVec 64) (r : Nat) (hr : r < 8) : ∀ t, Sound on (on &&& dio) r (aTo on dio r t)
  | 0 => fun j _ h => absurd rfl h
  | t + 1 => by
    have ih := aTo_sound on dio r hr t
    show Sound on (on &&& dio) r (aSw on dio r (t % 64) (aTo on dio r t))
    have hs : t % 64 < 64 := Nat.mod_lt _ (by decide)
    generalize t % 64 = s at *
    unfold aSw
    have e8 : 8 * (s / 8) + s % 8 = s := by omega
    split
    · rename_i ho
      split
      · rename_i hsr
        intro j hj
        unfold upd
        split
        · rename_i e
          intro _
          refine ⟨0, rfl, (lev_zero _ _ _ _ hr).2 ⟨hj, ?_⟩⟩
          rw [e, ← hsr, e8]; exact ho
        · exact ih j hj
      · exact aRow_sound (by omega) (by rw [e8]; exact ho) ih 8 (Nat.le_refl _)
    · exact ih

theorem aSub_bound {on dio : BitVec 64} {c k a B : Nat} {n : Nat → Nat} (h : ∀ j, n j ≤ B) (j : Nat) : aSub on dio c k a n j ≤ B + 2 := by
  unfold aSub
  have h1 := h a
  have h2 := h j
  split
  · unfold upd; split <;> omega
  · omega
theorem aRow_bound {on dio : BitVec 64} {c k B : Nat} {n : Nat → Nat} (h : ∀ j, n j ≤ B) : ∀ a j, aRow on dio c k a n j ≤ B + 2 * a
  | 0, j => h j
  | a + 1, j => by
    have := aSub_bound (on := on) (dio := dio) (c := c) (k := k) (a := a) (aRow_bound (on := on) (dio := dio) (c := c) (k := k) h a) j
    show aSub on dio c k a (aRow on dio c k a n) j ≤ _
    omega
theorem aTo_bound (on dio : BitVec 64) (r : Nat) : ∀ t j, aTo on dio r t j ≤ 16 * t + 1
  | 0, j => Nat.zero_le _
  | t + 1, j => by
    have ih := aTo_bound on dio r t
    show aSw on dio r (t % 64) (aTo on dio r t) j ≤ _
    have h2 := ih j
    unfold aSw
    split
    · split
      · unfold upd; split <;> omega
      · have := aRow_bound (on := on) (dio := dio) (c := t % 64 / 8) (k := t % 64 % 8) ih 8 j; omega
    · omega

theorem aSub_at {on dio : BitVec 64} {c k a : Nat} (hb : (on &&& dio).getLsbD (8 * a + k) = true) {n : Nat → Nat} (h0 : n a ≠ 0) : aSub on dio c k a n c ≠ 0 ∧ aSub on dio c k a n c ≤ n a + 2 := by
  rw [BitVec.getLsbD_and, Bool.and_eq_true] at hb
  unfold aSub
  split
  · unfold upd; rw [if_pos rfl]; exact ⟨by omega, by omega⟩
  · rename_i h
    have : ¬ (n c = 0 ∨ n a + 2 < n c) := fun hh => h ⟨hb.1, hb.2, by omega, hh⟩
    exact ⟨by omega, by omega⟩
/-- What a round's step at the switch (c, k) leaves. -/
theorem aTo_at {on dio : BitVec 64} {r x c k a : Nat} (hc : c < 8) (hk : k < 8) (ha : a < 8) (ho : on.getLsbD (8 * c + k) = true) (hb : (on &&& dio).getLsbD (8 * a + k) = true)
    (h0 : aTo on dio r (64 * x + (8 * c + k)) a ≠ 0) : aTo on dio r (64 * x + (8 * c + k) + 1) c ≠ 0 ∧ aTo on dio r (64 * x + (8 * c + k) + 1) c ≤ aTo on dio r (64 * x + (8 * c + k)) a + 2 := by
  show aSw on dio r ((64 * x + (8 * c + k)) % 64) _ c ≠ 0 ∧ aSw on dio r ((64 * x + (8 * c + k)) % 64) _ c ≤ _
  rw [show (64 * x + (8 * c + k)) % 64 = 8 * c + k by omega]
  generalize aTo on dio r (64 * x + (8 * c + k)) = n at *
  unfold aSw
  rw [if_pos ho, show (8 * c + k) / 8 = c by omega, show (8 * c + k) % 8 = k by omega]
  split
  · unfold upd; rw [if_pos rfl]; exact ⟨by omega, by omega⟩
  · have l1 := aRow_low on dio c k n a a h0
    have l2 := aSub_at (c := c) hb l1.1
    obtain ⟨d, hd⟩ : ∃ d, 8 = (a + 1) + d := ⟨8 - (a + 1), by omega⟩
    have l3 := aRow_low2 on dio c k n (a + 1) d c l2.1
    rw [← hd] at l3
    have l4 : aRow on dio c k (a + 1) n c ≤ aRow on dio c k a n a + 2 := l2.2
    exact ⟨l3.1, by omega⟩
theorem aTo_at0 {on dio : BitVec 64} {r x c : Nat} (hc : c < 8) (hr : r < 8) (ho : on.getLsbD (8 * c + r) = true) : aTo on dio r (64 * x + (8 * c + r) + 1) c = 1 := by
  show aSw on dio r ((64 * x + (8 * c + r)) % 64) _ c = 1
  rw [show (64 * x + (8 * c + r)) % 64 = 8 * c + r by omega]
  unfold aSw
  rw [if_pos ho, show (8 * c + r) / 8 = c by omega, if_pos (by omega)]
  unfold upd; rw [if_pos rfl]
theorem aTo_upper (on dio : BitVec 64) (r : Nat) (hr : r < 8) : ∀ m c, (lev on (on &&& dio) r m).getLsbD c = true → aTo on dio r (64 * (m + 1)) c ≠ 0 ∧ aTo on dio r (64 * (m + 1)) c ≤ 2 * m + 1
  | 0, c, h => by
    obtain ⟨hc, ho⟩ := (lev_zero _ _ _ _ hr).1 h
    have h1 := aTo_at0 (dio := dio) (x := 0) hc hr ho
    obtain ⟨d, hd⟩ : ∃ d, 64 * (0 + 1) = 64 * 0 + (8 * c + r) + 1 + d := ⟨64 - (8 * c + r + 1), by omega⟩
    have h2 := aTo_low on dio r (64 * 0 + (8 * c + r) + 1) d c (by omega)
    rw [← hd] at h2
    exact ⟨h2.1, by omega⟩
  | m + 1, c, h => by
    rcases (lev_succ _ _ _ _ _).1 h with h | ⟨hc, k, hk, ho, a, ha, hb, hl⟩
    · have h1 := aTo_upper on dio r hr m c h
      have h2 := aTo_low on dio r (64 * (m + 1)) 64 c h1.1
      rw [show 64 * (m + 1) + 64 = 64 * (m + 1 + 1) by omega] at h2
      exact ⟨h2.1, by omega⟩
    · have h1 := aTo_upper on dio r hr m a hl
      have h2 := aTo_low on dio r (64 * (m + 1)) (8 * c + k) a h1.1
      have h3 := aTo_at (r := r) (x := m + 1) hc hk ha ho hb h2.1
      obtain ⟨d, hd⟩ : ∃ d, 64 * (m + 1 + 1) = 64 * (m + 1) + (8 * c + k) + 1 + d := ⟨64 - (8 * c + k + 1), by omega⟩
      have h4 := aTo_low on dio r (64 * (m + 1) + (8 * c + k) + 1) d c h3.1
      rw [← hd] at h4
      exact ⟨h4.1, by omega⟩

def Af (on dio : BitVec 64) (r : Nat) : Nat → Nat := aTo on dio r 512
theorem Af_dist {on dio : BitVec 64} {r c m : Nat} (hr : r < 8) (h : Dist on (on &&& dio) r c m) : Af on dio r c = 2 * m + 1 := by
  have h7 := h.seven
  have h1 := aTo_upper on dio r hr m c h.1
  obtain ⟨d, hd⟩ : ∃ d, 512 = 64 * (m + 1) + d := ⟨512 - 64 * (m + 1), by omega⟩
  have h2 := aTo_low on dio r (64 * (m + 1)) d c h1.1
  rw [← hd] at h2
  obtain ⟨m', h3, h4⟩ := aTo_sound on dio r hr 512 c h.lt h2.1
  have h5 := h.le h4
  unfold Af
  omega
theorem Af_far {on dio : BitVec 64} {r c : Nat} (hr : r < 8) (hc : c < 8) (h : (lev on (on &&& dio) r 7).getLsbD c = false) : Af on dio r c = 0 := by
  refine Classical.byContradiction fun hn => ?_
  obtain ⟨m, _, h2⟩ := aTo_sound on dio r hr 512 c hc hn
  rw [lev_seven h2] at h
  exact Bool.noConfusion h
theorem Af_eq {on dio : BitVec 64} {r c m : Nat} (hr : r < 8) (hc : c < 8) : Af on dio r c = 2 * m + 1 ↔ Dist on (on &&& dio) r c m := by
  refine ⟨fun h => ?_, Af_dist hr⟩
  obtain ⟨m', h1, h2⟩ := aTo_sound on dio r hr 512 c hc (by show Af on dio r c ≠ 0; omega)
  obtain ⟨m2, _, h3⟩ := Dist.exists h2
  have h4 := Af_dist hr h3
  have : m2 = m := by omega
  subst this
  exact h3
theorem Af_bound (on dio : BitVec 64) (r j : Nat) : Af on dio r j ≤ 8193 := aTo_bound on dio r 512 j
end Go.Proofs.Ytpboblanjngeeaa
