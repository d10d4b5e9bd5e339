/-
  Plain mathematics: a matrix without the pattern has no ghosts; the reference's 64 trials find the pattern. No program in sight.
-/
import Derived.Test.YtpboblanjngeeaaTurn
namespace Go.Proofs.Ytpboblanjngeeaa
theorem phys_bit (s b x : BitVec 64) (n : Nat) (hn : n < 64) : (phys s b x).getLsbD n = ((x.getLsbD n || s.getLsbD n) && !b.getLsbD n) := by
  unfold phys
  rw [BitVec.getLsbD_and, BitVec.getLsbD_or, BitVec.getLsbD_not, decide_eq_true hn, Bool.true_and]
theorem tb_not (b : BitVec 64) (n : Nat) (hn : n < 64) : tb (~~~b) n = !b.getLsbD n := by
  unfold tb; rw [BitVec.getLsbD_not, decide_eq_true hn, Bool.true_and]
theorem pat_iff (s b d : BitVec 64) (f r t e : Nat) (hf : f < 8) (hr : r < 8) (ht : t < 8) (he : e < 8) : pat s b d f r t e = true ↔
    f ≠ t ∧ r ≠ e ∧ (s.getLsbD (8 * f + e) && !b.getLsbD (8 * f + e)) = false ∧ b.getLsbD (8 * f + r) = false ∧ b.getLsbD (8 * t + r) = false ∧ d.getLsbD (8 * t + r) = true ∧ b.getLsbD (8 * t + e) = false := by
  have h1 : tb (s &&& ~~~b) (8 * f + e) = (s.getLsbD (8 * f + e) && !b.getLsbD (8 * f + e)) := by
    unfold tb; rw [BitVec.getLsbD_and, BitVec.getLsbD_not, decide_eq_true (by omega), Bool.true_and]
  have h2 : tb (~~~b &&& d) (8 * t + r) = (!b.getLsbD (8 * t + r) && d.getLsbD (8 * t + r)) := by
    unfold tb; rw [BitVec.getLsbD_and, BitVec.getLsbD_not, decide_eq_true (by omega), Bool.true_and]
  unfold pat
  rw [h1, h2, tb_not _ _ (by omega), tb_not _ _ (by omega)]
  simp only [Bool.and_eq_true, Bool.not_eq_true', beq_eq_false_iff_ne, and_assoc]

theorem safe_row {s b d : BitVec 64} (hp : ∀ f r t e, f < 8 → r < 8 → t < 8 → e < 8 → pat s b d f r t e = false) (x : BitVec 64) {c k : Nat} (hc : c < 8) (h : RC (phys s b x) (phys s b x &&& d) c k) :
    ∀ e, e < 8 → (phys s b x).getLsbD (8 * k + e) = true → (phys s b x).getLsbD (8 * c + e) = true := by
  induction h with
  | refl => exact fun _ _ h => h
  | @step a t r h1 hr ht ho hb ih =>
    intro e he hoe
    have hcr := ih r hr ho
    by_cases hct : c = t
    · rw [hct]; exact hoe
    by_cases hre : r = e
    · rw [← hre]; exact hcr
    have hno := hp c r t e hc hr ht he
    rw [BitVec.getLsbD_and, Bool.and_eq_true] at hb
    have q1 := hcr
    have q2 := hb.1
    have q3 := hoe
    rw [phys_bit _ _ _ _ (by omega), Bool.and_eq_true, Bool.not_eq_true'] at q1 q2 q3
    rw [phys_bit _ _ _ _ (by omega)]
    cases hs : (s.getLsbD (8 * c + e) && !b.getLsbD (8 * c + e)) with
    | false =>
      rw [(pat_iff s b d c r t e hc hr ht he).2 ⟨hct, hre, hs, q1.2, q2.2, hb.2, q3.2⟩] at hno
      exact Bool.noConfusion hno
    | true =>
      rw [Bool.and_eq_true] at hs
      rw [hs.1, hs.2]; simp
theorem safe_scan {s b d : BitVec 64} (h : safeB s b d = true) (x : BitVec 64) : scanB s b d x = phys s b x := by
  have hp := (safeB_iff s b d).1 h
  apply BitVec.eq_of_getLsbD_eq
  intro i hi
  rw [Bool.eq_iff_iff]
  refine ⟨fun h => ?_, phys_scan s b d x i⟩
  obtain ⟨_, hr, a, ha, ho⟩ := (scanB_bit _ _ _ _ _).1 h
  have := safe_row hp x (by omega) ha _ hr ho
  rwa [show 8 * (i / 8) + i % 8 = i by omega] at this
theorem safe_ghost {s b d : BitVec 64} (h : safeB s b d = true) (x : BitVec 64) : ghostB s b d x = 0#64 := by
  unfold ghostB; rw [safe_scan h]; exact sub_zero fun _ h => h

/-- What the reference tries at a switch. -/
def safeT (s b d A : BitVec 64) (g : Nat) : Bool := tb (ghostB s b d (A &&& ~~~(1#64 <<< g))) g || (tb b g && tb (ghostB s b d A) g)
theorem safeT_no {s b d : BitVec 64} (h : safeB s b d = true) (A : BitVec 64) (g : Nat) : safeT s b d A g = false := by
  unfold safeT; rw [safe_ghost h, safe_ghost h]; unfold tb; simp
theorem ghost_of {s b d x : BitVec 64} {f r t e : Nat} (hf : f < 8) (hr : r < 8) (ht : t < 8) (he : e < 8) (h1 : (phys s b x).getLsbD (8 * f + r) = true) (h2 : (phys s b x).getLsbD (8 * t + r) = true) (hd : d.getLsbD (8 * t + r) = true)
    (h3 : (phys s b x).getLsbD (8 * t + e) = true) (h4 : (phys s b x).getLsbD (8 * f + e) = false) : (ghostB s b d x).getLsbD (8 * f + e) = true := by
  refine (ghost_bit s b d x _).2 ⟨by omega, ?_, h4⟩
  rw [show (8 * f + e) / 8 = f by omega, show (8 * f + e) % 8 = e by omega]
  refine ⟨he, t, .step .refl hr ht h1 ?_, h3⟩
  rw [BitVec.getLsbD_and, h2, hd]; rfl
theorem pat_safeT {s b d A : BitVec 64} (hA : ∀ n, n < 64 → A.getLsbD n = true) {f r t e : Nat} (hf : f < 8) (hr : r < 8) (ht : t < 8) (he : e < 8) (hp : pat s b d f r t e = true) : safeT s b d A (8 * f + e) = true := by
  obtain ⟨hft, hre, hs, p1, p2, hd, p3⟩ := (pat_iff s b d f r t e hf hr ht he).1 hp
  unfold safeT
  rw [Bool.or_eq_true]
  cases hb : b.getLsbD (8 * f + e) with
  | true =>
    right
    rw [Bool.and_eq_true]
    refine ⟨hb, ghost_of (r := r) (t := t) hf hr ht he ?_ ?_ hd ?_ ?_⟩
    · rw [phys_bit _ _ _ _ (by omega), hA _ (by omega), p1]; rfl
    · rw [phys_bit _ _ _ _ (by omega), hA _ (by omega), p2]; rfl
    · rw [phys_bit _ _ _ _ (by omega), hA _ (by omega), p3]; rfl
    · rw [phys_bit _ _ _ _ (by omega), hb]; simp
  | false =>
    left
    have hx : ∀ n, n < 64 → n ≠ 8 * f + e → (A &&& ~~~(1#64 <<< (8 * f + e))).getLsbD n = true := by
      intro n hn hne
      rw [BitVec.getLsbD_and, hA n hn, BitVec.getLsbD_not, decide_eq_true hn, BitVec.getLsbD_shiftLeft, BitVec.getLsbD_one]
      simp; omega
    have hg : (A &&& ~~~(1#64 <<< (8 * f + e))).getLsbD (8 * f + e) = false := by
      rw [BitVec.getLsbD_and, BitVec.getLsbD_not, BitVec.getLsbD_shiftLeft, BitVec.getLsbD_one]
      simp
    refine ghost_of (r := r) (t := t) hf hr ht he ?_ ?_ hd ?_ ?_
    · rw [phys_bit _ _ _ _ (by omega), hx _ (by omega) (by omega), p1]; rfl
    · rw [phys_bit _ _ _ _ (by omega), hx _ (by omega) (by omega), p2]; rfl
    · rw [phys_bit _ _ _ _ (by omega), hx _ (by omega) (by omega), p3]; rfl
    · rw [phys_bit _ _ _ _ (by omega), hg, hb]
      rw [hb] at hs
      cases hss : s.getLsbD (8 * f + e) with
      | false => rfl
      | true => rw [hss] at hs; exact Bool.noConfusion hs
/-- Safe exactly if no trial tells. -/
theorem safeT_all {s b d A : BitVec 64} (hA : ∀ n, n < 64 → A.getLsbD n = true) (h : ∀ g, g < 64 → safeT s b d A g = false) : safeB s b d = true := by
  refine (safeB_iff s b d).2 fun f r t e hf hr ht he => ?_
  cases hp : pat s b d f r t e with
  | false => rfl
  | true =>
    have := pat_safeT hA hf hr ht he hp
    rw [h _ (by omega)] at this
    exact Bool.noConfusion this
theorem safeT_some {s b d A : BitVec 64} {g : Nat} (h : safeT s b d A g = true) : safeB s b d = false := by
  cases hs : safeB s b d with
  | false => rfl
  | true => rw [safeT_no hs] at h; exact Bool.noConfusion h
end Go.Proofs.Ytpboblanjngeeaa
