/-
  Plain laws of a run, tick by tick: the drives behind the orders of a tick; one coil that is held; one coil that is fired. No program in sight.
-/
import Derived.Test.YtfgkljfoalgkaaaTicks
import Derived.Test.YtfgkljfoalgkaaaDCoil
namespace Go.Proofs.Ytfgkljfoalgkaaa
open Go.RowKit Go.Deep

/-- The drives behind the orders of the tick t. -/
def qAt (n : Nat) (C : Nat → Coil) (D : Nat → Drive) (L : Nat → OL) (t : Nat) : Nat → Drive := orders n C (run n C D L t) (L t).os (L t).n
theorem setAt_q (n : Nat) (C : Nat → Coil) (D : Nat → Drive) (L : Nat → OL) (t : Nat) : setAt n C D L t = setTo C (qAt n C D L t) n := rfl
theorem run_q (n : Nat) (C : Nat → Coil) (D : Nat → Drive) (L : Nat → OL) (t i : Nat) : run n C D L (t + 1) i = nextF (C i) (qAt n C D L t i) := rfl
theorem setTo_one (C : Nat → Coil) (D : Nat → Drive) : (W (setTo C D 1) == 1) = onB (C 0) (D 0) := by
  unfold setTo setTo
  cases onB (C 0) (D 0) with
  | true => rfl
  | false => rfl
theorem apply_in {C : Nat → Coil} {D : Nat → Drive} {k : Int} (hE : applyE 1 C D ⟨k, 0⟩ = 0) : applyD 1 C D ⟨k, 0⟩ 0 = obeyF (C 0) (D 0) k := by
  unfold applyD
  rw [if_pos hE]
  rfl
theorem apply_no {n : Nat} {C : Nat → Coil} {D : Nat → Drive} {o : Order} (hE : applyE n C D o ≠ 0) : applyD n C D o = D := by
  unfold applyD
  rw [if_neg hE]

/-! ### A coil that is held -/
def dutyQ (p m : Int) (t : Nat) : Drive := if (t : Int) < p then ⟨1, p - t, true⟩ else ⟨2, (t - p) % m, true⟩
theorem duty_next {c : Coil} (t : Nat) : nextF c (dutyQ c.pulse (c.on + c.off) t) = dutyQ c.pulse (c.on + c.off) (t + 1) := by
  unfold dutyQ
  by_cases h : (t : Int) < c.pulse
  · rw [if_pos h]
    by_cases h2 : ((t + 1 : Nat) : Int) < c.pulse
    · rw [if_pos h2]
      have e : nextF c ⟨1, c.pulse - t, true⟩ = ⟨1, c.pulse - t - 1, true⟩ := by
        unfold nextF
        simp only [show decide (1 < c.pulse - (t : Int)) = true from by simp; omega]
        rfl
      rw [e]
      congr 1
      omega
    · rw [if_neg h2]
      have e1 : c.pulse - (t : Int) = 1 := by omega
      rw [e1, show ((t + 1 : Nat) : Int) - c.pulse = 0 by omega, Int.zero_emod]
      rfl
  · rw [if_neg h, if_neg (by omega)]
    show (⟨2, ((t - c.pulse) % (c.on + c.off) + 1) % (c.on + c.off), true⟩ : Drive) = _
    congr 1
    rw [Int.emod_add_emod]
    congr 1
    omega
theorem duty_q (c : Coil) (gb : Nat) (hp : 1 ≤ c.pulse) (ho : 0 < c.on) (hf : 0 ≤ c.off) : ∀ t, qAt 1 (fun _ => c) (fun _ => idle) (tickL gb 2 0) t 0 = dutyQ c.pulse (c.on + c.off) t
  | 0 => by
    show applyD 1 (fun _ => c) (fun _ => idle) ⟨2, 0⟩ 0 = _
    rw [apply_in (by unfold applyE; simp [idle]; omega)]
    unfold dutyQ
    rw [if_pos (by omega)]
    simp [obeyF, idle]
  | t + 1 => by
    have ih := duty_q c gb hp ho hf t
    show run 1 (fun _ => c) (fun _ => idle) (tickL gb 2 0) (t + 1) 0 = _
    rw [run_q, ih]
    exact duty_next t
theorem duty_on (c : Coil) (gb : Nat) (hp : 1 ≤ c.pulse) (ho : 0 < c.on) (hf : 0 ≤ c.off) (t : Nat) :
    (W (setAt 1 (fun _ => c) (fun _ => idle) (tickL gb 2 0) t) == 1) = (decide ((t : Int) < c.pulse) || decide (((t : Int) - c.pulse) % (c.on + c.off) < c.on)) := by
  rw [setAt_q, setTo_one, duty_q c gb hp ho hf]
  unfold dutyQ
  by_cases h : (t : Int) < c.pulse
  · rw [if_pos h, decide_eq_true h]
    rfl
  · rw [if_neg h, decide_eq_false h]
    rfl

/-! ### A coil that is fired, however often -/
def pulseQ (p r : Int) (t : Nat) : Drive := if (t : Int) < p then ⟨1, p - t, false⟩ else ⟨3, r - (t - p), false⟩
theorem fire_keep {c : Coil} {D : Nat → Drive} (h : (D 0).phase = 1 ∨ (D 0).phase = 3) : applyD 1 (fun _ => c) D ⟨1, 0⟩ 0 = D 0 := by
  rcases h with h | h
  · rw [apply_in (by unfold applyE; simp [h])]
    simp [obeyF, h]
  · rw [apply_no (by unfold applyE; simp [h])]
theorem fires_keep {c : Coil} {D : Nat → Drive} {os : Nat → Order} : ∀ k, (∀ i, i < k → os i = ⟨1, 0⟩) → ((D 0).phase = 1 ∨ (D 0).phase = 3) → orders 1 (fun _ => c) D os k 0 = D 0
  | 0, _, _ => rfl
  | k + 1, ho, h => by
    have ih := fires_keep (c := c) (D := D) (os := os) k (fun i hi => ho i (by omega)) h
    show applyD 1 (fun _ => c) (orders 1 (fun _ => c) D os k) (os k) 0 = _
    rw [ho k (by omega), fire_keep (by rw [ih]; exact h), ih]
theorem fires_idle {c : Coil} {D : Nat → Drive} {os : Nat → Order} (hD : D 0 = idle) : ∀ k, (∀ i, i < k + 1 → os i = ⟨1, 0⟩) → orders 1 (fun _ => c) D os (k + 1) 0 = ⟨1, c.pulse, false⟩
  | 0, ho => by
    show applyD 1 (fun _ => c) D (os 0) 0 = _
    rw [ho 0 (by omega), apply_in (by unfold applyE; simp [hD, idle])]
    simp [obeyF, hD, idle]
  | k + 1, ho => by
    have ih := fires_idle (c := c) hD k (fun i hi => ho i (by omega))
    show applyD 1 (fun _ => c) (orders 1 (fun _ => c) D os (k + 1)) (os (k + 1)) 0 = _
    rw [ho (k + 1) (by omega), fire_keep (by rw [ih]; exact .inl rfl), ih]
theorem pulse_next {c : Coil} (t : Nat) (ht : ((t + 1 : Nat) : Int) < c.pulse + c.rest) : nextF c (pulseQ c.pulse c.rest t) = pulseQ c.pulse c.rest (t + 1) := by
  unfold pulseQ
  by_cases h : (t : Int) < c.pulse
  · rw [if_pos h]
    by_cases h2 : ((t + 1 : Nat) : Int) < c.pulse
    · rw [if_pos h2]
      have e : nextF c ⟨1, c.pulse - t, false⟩ = ⟨1, c.pulse - t - 1, false⟩ := by
        unfold nextF
        simp only [show decide (1 < c.pulse - (t : Int)) = true from by simp; omega]
        rfl
      rw [e]
      congr 1
      omega
    · rw [if_neg h2]
      have e1 : c.pulse - (t : Int) = 1 := by omega
      rw [e1, show c.rest - (((t + 1 : Nat) : Int) - c.pulse) = c.rest by omega]
      show restF c = _
      unfold restF
      rw [show (c.rest == 0) = false from by rw [beq_eq_false_iff_ne]; omega]
      rfl
  · rw [if_neg h, if_neg (by omega)]
    have e : nextF c ⟨3, c.rest - (t - c.pulse), false⟩ = ⟨3, c.rest - (t - c.pulse) - 1, false⟩ := by
      unfold nextF
      simp only [show decide (1 < c.rest - ((t : Int) - c.pulse)) = true from by simp; omega]
      rfl
    rw [e]
    congr 1
    omega
theorem pulse_q (c : Coil) (L : Nat → OL) (N : Nat) (hp : 1 ≤ c.pulse) (hr : 0 ≤ c.rest) (hN : (N : Int) = c.pulse + c.rest) (h0 : 1 ≤ (L 0).n) (ho : ∀ t, t < N → ∀ i, i < (L t).n → (L t).os i = ⟨1, 0⟩) :
    ∀ t, t < N → qAt 1 (fun _ => c) (fun _ => idle) L t 0 = pulseQ c.pulse c.rest t
  | 0, ht => by
    obtain ⟨k, hk⟩ : ∃ k, (L 0).n = k + 1 := ⟨(L 0).n - 1, by omega⟩
    unfold qAt
    rw [hk, fires_idle (by rfl) k (fun i hi => ho 0 ht i (by omega))]
    unfold pulseQ
    rw [if_pos (by omega)]
    simp
  | t + 1, ht => by
    have ih := pulse_q c L N hp hr hN h0 ho t (by omega)
    have hrun : run 1 (fun _ => c) (fun _ => idle) L (t + 1) 0 = pulseQ c.pulse c.rest (t + 1) := by
      rw [run_q, ih]
      exact pulse_next t (by omega)
    unfold qAt
    rw [fires_keep _ (ho (t + 1) ht), hrun]
    rw [hrun]
    unfold pulseQ
    split
    · exact .inl rfl
    · exact .inr rfl
theorem pulse_on (c : Coil) (L : Nat → OL) (N : Nat) (hp : 1 ≤ c.pulse) (hr : 0 ≤ c.rest) (hN : (N : Int) = c.pulse + c.rest) (h0 : 1 ≤ (L 0).n) (ho : ∀ t, t < N → ∀ i, i < (L t).n → (L t).os i = ⟨1, 0⟩) (t : Nat) (ht : t < N) :
    (W (setAt 1 (fun _ => c) (fun _ => idle) L t) == 1) = decide ((t : Int) < c.pulse) := by
  rw [setAt_q, setTo_one, pulse_q c L N hp hr hN h0 ho t ht]
  unfold pulseQ
  by_cases h : (t : Int) < c.pulse
  · rw [if_pos h, decide_eq_true h]
    rfl
  · rw [if_neg h, decide_eq_false h]
    rfl
end Go.Proofs.Ytfgkljfoalgkaaa
