/-
  Plain law behind DriverCuts: behind orders that cut all coils none is energised, and all are idle behind the longest rest. No program in sight.
-/
import Derived.Test.YtfgkljfoalgkaaaSolo
namespace Go.Proofs.Ytfgkljfoalgkaaa
open Go.RowKit Go.Deep

def Rested (d : Drive) : Prop := d.phase = 0 ∨ d.phase = 3
/-- The orders that the law makes: each coil is cut, and behind each cut the coil rr is released. -/
def cutO (rr : Nat) (j : Nat) : Order := if j % 2 = 0 then ⟨4, (j / 2 : Nat)⟩ else ⟨3, rr⟩
theorem cutO_even (rr i : Nat) : cutO rr (2 * i) = ⟨4, i⟩ := by
  unfold cutO
  rw [if_pos (by omega), show 2 * i / 2 = i by omega]
theorem cutO_odd (rr i : Nat) : cutO rr (2 * i + 1) = ⟨3, rr⟩ := by
  unfold cutO
  rw [if_neg (by omega)]
theorem rested_obey {c : Coil} {d : Drive} {k : Int} (hk : k = 3 ∨ k = 4) (h : Rested d) : obeyF c d k = d := by
  obtain ⟨ph, lf, hd⟩ := d
  rcases h with h | h <;> simp only at h <;> subst h <;> rcases hk with rfl | rfl <;> rfl
theorem rested_restF (c : Coil) : Rested (restF c) := by
  unfold restF
  cases c.rest == 0 with
  | true => exact .inl rfl
  | false => exact .inr rfl
theorem rested_apply {n : Nat} {C : Nat → Coil} {D : Nat → Drive} {o : Order} {i : Nat} (hk : o.kind = 3 ∨ o.kind = 4) (h : Rested (D i)) : Rested (applyD n C D o i) := by
  unfold applyD
  split
  · unfold updD
    by_cases e : i = o.coil.toNat
    · rw [if_pos e, ← e, rested_obey hk h]
      exact h
    · rw [if_neg e]
      exact h
  · exact h
theorem rested_cut {n : Nat} {C : Nat → Coil} {D : Nat → Drive} {i : Nat} (hi : i < n) (hf : fitsB (C i) (D i) = true) : Rested (applyD n C D ⟨4, i⟩ i) := by
  have hE : applyE n C D ⟨4, i⟩ = 0 := by
    unfold applyE
    rw [if_neg (show ¬ ((i : Int) < 0 ∨ (n : Int) ≤ i) by omega), if_neg (show ¬ ((4 : Int) < 1 ∨ 4 < (4 : Int)) by decide), if_neg (fun h => absurd (show (4 : Int) = 2 from h.1) (by decide)), if_neg (fun h => absurd (show (4 : Int) ≤ 2 from h.1) (by decide))]
  unfold applyD
  rw [if_pos hE]
  unfold updD
  have ht : ((i : Int)).toNat = i := rfl
  rw [if_pos ht.symm, ht]
  rcases fits_phase hf with ⟨hp, _⟩ | ⟨hp, _⟩ | ⟨hp, _⟩ | ⟨hp, _⟩
  · rw [rested_obey (.inr rfl) (.inl hp)]; exact .inl hp
  · have e : obeyF (C i) (D i) 4 = restF (C i) := by unfold obeyF; rw [hp]; rfl
    rw [e]; exact rested_restF _
  · have e : obeyF (C i) (D i) 4 = restF (C i) := by unfold obeyF; rw [hp]; rfl
    rw [e]; exact rested_restF _
  · rw [rested_obey (.inr rfl) (.inr hp)]; exact .inr hp
theorem cut_orders {n : Nat} {C : Nat → Coil} {D : Nat → Drive} (rr : Nat) (hS : StateP n C n D) : ∀ m, m ≤ n → ∀ i, i < m → Rested (orders n C D (cutO rr) (2 * m) i)
  | 0, _, i, hi => absurd hi (by omega)
  | m + 1, hm, i, hi => by
    have ih := cut_orders rr hS m (by omega)
    show Rested (applyD n C (applyD n C (orders n C D (cutO rr) (2 * m)) (cutO rr (2 * m))) (cutO rr (2 * m + 1)) i)
    rw [cutO_even, cutO_odd]
    refine rested_apply (.inl rfl) ?_
    by_cases e : i = m
    · subst e
      exact rested_cut (by omega) ((orders_state (cutO rr) hS (2 * i)).2.2 i (by omega))
    · exact rested_apply (.inr rfl) (ih i (by omega))
/-- One list ahead of empty ones. -/
def headL (l : OL) (j : Nat) : OL := if j = 0 then l else ⟨none, 0, 0, fun _ => ⟨0, 0⟩⟩
theorem flat_headL (l : OL) : ∀ k, flat lcells (headL l) (1 + k) = [l.v] ++ List.replicate k (.slice none 0 0)
  | 0 => rfl
  | k + 1 => by
    show flat lcells (headL l) (1 + k) ++ lcells (headL l (1 + k)) = _
    rw [flat_headL l k, List.append_assoc, List.replicate_succ']
    have : lcells (headL l (1 + k)) = [.slice none 0 0] := by unfold headL; rw [if_neg (by omega)]; rfl
    rw [this]
theorem headL_holds {w : World} {base : Nat} {v : Value} {N : Nat} {l : OL} (h : w.ownsRow base 23 1 v N (flat lcells (headL l) N)) (hO : HoldsO w l.v l.n l.os) : HoldsL w v N (headL l) := by
  refine ⟨Holds.of_owns lc_len h, fun j _ => ?_⟩
  unfold headL
  by_cases e : j = 0
  · rw [if_pos e]; exact hO
  · rw [if_neg e]; exact Holds.nil _ _ _ _
section
variable {n : Nat} {C : Nat → Coil} {D : Nat → Drive} {l : OL} {M : Int} (hS : StateP n C n D) (hl : ∀ i, i < n → Rested (orders n C D l.os l.n i)) (hM : ∀ i, i < n → (C i).rest ≤ M)
include hS hl hM
theorem cool_run : ∀ t i, i < n → Rested (run n C D (headL l) (t + 1) i) ∧ ((run n C D (headL l) (t + 1) i).phase = 3 → (run n C D (headL l) (t + 1) i).left + (t + 1) ≤ M)
  | t, i, hi => by
    have hq : Rested (qAt n C D (headL l) t i) ∧ ((qAt n C D (headL l) t i).phase = 3 → (qAt n C D (headL l) t i).left + t ≤ M) ∧ fitsB (C i) (qAt n C D (headL l) t i) = true := by
      have hst := (orders_state (headL l t).os (run_state (headL l) hS t) (headL l t).n).2.2 i hi
      match t with
      | 0 =>
        refine ⟨hl i hi, fun hp => ?_, hst⟩
        rcases fits_phase hst with ⟨h, _⟩ | ⟨h, _⟩ | ⟨h, _⟩ | ⟨_, _, h2, _⟩
        · rw [show qAt n C D (headL l) 0 i = orders n C (run n C D (headL l) 0) (headL l 0).os (headL l 0).n i from rfl, h] at hp; exact absurd hp (by decide)
        · rw [show qAt n C D (headL l) 0 i = orders n C (run n C D (headL l) 0) (headL l 0).os (headL l 0).n i from rfl, h] at hp; exact absurd hp (by decide)
        · rw [show qAt n C D (headL l) 0 i = orders n C (run n C D (headL l) 0) (headL l 0).os (headL l 0).n i from rfl, h] at hp; exact absurd hp (by decide)
        · have := hM i hi
          show (orders n C (run n C D (headL l) 0) (headL l 0).os (headL l 0).n i).left + ((0 : Nat) : Int) ≤ M
          omega
      | t + 1 =>
        have ih := cool_run t i hi
        have e : qAt n C D (headL l) (t + 1) i = run n C D (headL l) (t + 1) i := rfl
        rw [e]
        exact ⟨ih.1, fun hp => by have := ih.2 hp; push_cast; omega, by rw [← e]; exact hst⟩
    obtain ⟨h1, h2, h3⟩ := hq
    rw [run_q]
    obtain ⟨d, hd⟩ : ∃ d, qAt n C D (headL l) t i = d := ⟨_, rfl⟩
    rw [hd] at h1 h2 h3 ⊢
    obtain ⟨ph, lf, hh⟩ := d
    rcases h1 with h1 | h1 <;> simp only at h1 <;> subst h1
    · exact ⟨.inl rfl, fun h => absurd h (by show ¬ ((0 : Int) = 3); decide)⟩
    · by_cases h1l : 1 < lf
      · have e : nextF (C i) ⟨3, lf, hh⟩ = ⟨3, lf - 1, hh⟩ := by unfold nextF; simp only [decide_eq_true h1l]; rfl
        rw [e]
        have := h2 rfl
        simp only at this
        exact ⟨.inr rfl, fun _ => by show lf - 1 + (t + 1) ≤ M; omega⟩
      · have e : nextF (C i) ⟨3, lf, hh⟩ = idle := by unfold nextF; simp only [decide_eq_false h1l]; rfl
        rw [e]
        exact ⟨.inl rfl, fun h => absurd h (by show ¬ ((0 : Int) = 3); decide)⟩
omit hM in
theorem cool_off (t : Nat) : ∀ m, m ≤ n → setTo C (qAt n C D (headL l) t) m = 0#32
  | 0, _ => rfl
  | m + 1, hm => by
    have ih := cool_off t m (by omega)
    have hr : Rested (qAt n C D (headL l) t m) := by
      match t with
      | 0 => exact hl m (by omega)
      | t + 1 =>
        exact (cool_run (M := 1000) hS hl (fun i hi => ((goodB_iff _).1 ((validE_zero hS.1).2 i hi)).2.2.2.2.2.2.2.2.1) t m (by omega)).1
    have ho : onB (C m) (qAt n C D (headL l) t m) = false := by
      unfold onB
      rcases hr with h | h <;> rw [h] <;> rfl
    rw [setTo, ho, if_neg Bool.false_ne_true, ih]
omit hM in
theorem cut_set (t : Nat) : setAt n C D (headL l) t = 0#32 := cool_off hS hl t n (Nat.le_refl _)
theorem cut_end (N : Nat) (hN : M ≤ N) (i : Nat) (hi : i < n) : run n C D (headL l) (1 + N) i = idle := by
  rw [Nat.add_comm]
  obtain ⟨h1, h2⟩ := cool_run hS hl hM N i hi
  have hf := (run_state (headL l) hS (N + 1)).2.2 i hi
  obtain ⟨d, hd⟩ : ∃ d, run n C D (headL l) (N + 1) i = d := ⟨_, rfl⟩
  rw [hd] at h1 h2 hf ⊢
  obtain ⟨ph, lf, hh⟩ := d
  rcases fits_phase hf with ⟨hp, hl', hh'⟩ | ⟨hp, _⟩ | ⟨hp, _⟩ | ⟨hp, hl1, _⟩
  · simp only at hp hl' hh'
    subst hp hl' hh'
    rfl
  · rcases h1 with h | h <;> simp only at h hp <;> omega
  · rcases h1 with h | h <;> simp only at h hp <;> omega
  · have := h2 hp
    simp only at this hl1
    omega
end
end Go.Proofs.Ytfgkljfoalgkaaa
