/-
  Plain law behind DriverRests: how long a coil has been energised, and how long not, beside its drive: without holds. No program in sight.
-/
import Derived.Test.YtfgkljfoalgkaaaSolo
namespace Go.Proofs.Ytfgkljfoalgkaaa
open Go.RowKit Go.Deep

/-- What the numbers of ticks (energised, not energised) say of a drive. -/
def RestInv (c : Coil) (d : Drive) (on off : Int) : Prop :=
  0 ≤ on ∧ 0 ≤ off ∧ (0 < c.rest → d.held = false ∧
    ((d.phase = 0 ∧ on = 0 ∧ c.rest ≤ off) ∨ (d.phase = 1 ∧ 1 ≤ d.left ∧ ((on = c.pulse - d.left ∧ d.left < c.pulse) ∨ (d.left = c.pulse ∧ on = 0 ∧ c.rest ≤ off))) ∨ (d.phase = 3 ∧ 1 ≤ d.left ∧ c.rest - d.left ≤ off)))
theorem rest_some {c : Coil} (h : 0 < c.rest) : restF c = ⟨3, c.rest, false⟩ := by
  unfold restF
  rw [show (c.rest == 0) = false from by rw [beq_eq_false_iff_ne]; omega]
  rfl
theorem inv_obey {c : Coil} {d : Drive} {on off k : Int} (hp : 1 ≤ c.pulse) (hk : k = 1 ∨ k = 3 ∨ k = 4) (h : RestInv c d on off) : RestInv c (obeyF c d k) on off := by
  obtain ⟨h0, h1, h2⟩ := h
  refine ⟨h0, h1, fun hr => ?_⟩
  obtain ⟨hh, hc⟩ := h2 hr
  obtain ⟨ph, lf, hd⟩ := d
  simp only at hh hc
  subst hh
  rcases hc with ⟨rfl, ho, hf⟩ | ⟨rfl, hl, hx⟩ | ⟨rfl, hl, hx⟩
  · rcases hk with rfl | rfl | rfl
    · refine ⟨rfl, .inr (.inl ⟨rfl, hp, .inr ⟨rfl, ho, hf⟩⟩)⟩
    · exact ⟨rfl, .inl ⟨rfl, ho, hf⟩⟩
    · exact ⟨rfl, .inl ⟨rfl, ho, hf⟩⟩
  · rcases hk with rfl | rfl | rfl
    · exact ⟨rfl, .inr (.inl ⟨rfl, hl, hx⟩)⟩
    · exact ⟨rfl, .inr (.inl ⟨rfl, hl, hx⟩)⟩
    · have e : obeyF c ⟨1, lf, false⟩ 4 = restF c := rfl
      rw [e, rest_some hr]
      exact ⟨rfl, .inr (.inr ⟨rfl, by show 1 ≤ c.rest; omega, by show c.rest - c.rest ≤ off; omega⟩)⟩
  · rcases hk with rfl | rfl | rfl <;> exact ⟨rfl, .inr (.inr ⟨rfl, hl, hx⟩)⟩
theorem inv_apply {n : Nat} {C : Nat → Coil} {D : Nat → Drive} {o : Order} {i : Nat} {on off : Int} (hp : 1 ≤ (C i).pulse) (hk : o.kind ≠ 2) (h : RestInv (C i) (D i) on off) : RestInv (C i) (applyD n C D o i) on off := by
  unfold applyD
  split
  · rename_i hE
    obtain ⟨_, _, k1, k4, _⟩ := applyE_zero hE
    unfold updD
    by_cases e : i = o.coil.toNat
    · rw [if_pos e, ← e]
      exact inv_obey hp (by omega) h
    · rw [if_neg e]
      exact h
  · exact h
theorem inv_orders {n : Nat} {C : Nat → Coil} {D : Nat → Drive} {os : Nat → Order} {i : Nat} {on off : Int} (hp : 1 ≤ (C i).pulse) (h : RestInv (C i) (D i) on off) : ∀ k, (∀ j, j < k → (os j).kind ≠ 2) → RestInv (C i) (orders n C D os k i) on off
  | 0, _ => h
  | k + 1, hk => inv_apply hp (hk k (by omega)) (inv_orders hp h k (fun j hj => hk j (by omega)))
theorem inv_on {c : Coil} {d : Drive} {on off : Int} (hb : onB c d = true) (h : RestInv c d on off) : (on = 0 → c.rest ≤ off) ∧ (0 < c.rest → on + 1 ≤ c.pulse) ∧ RestInv c (nextF c d) (on + 1) 0 := by
  obtain ⟨h0, h1, h2⟩ := h
  by_cases hr : 0 < c.rest
  · obtain ⟨hh, hc⟩ := h2 hr
    obtain ⟨ph, lf, hd⟩ := d
    simp only at hh hc
    subst hh
    rcases hc with ⟨rfl, ho, hf⟩ | ⟨rfl, hl, hx⟩ | ⟨rfl, hl, hx⟩
    · exact Bool.noConfusion hb
    · refine ⟨by omega, by omega, by omega, by omega, fun _ => ?_⟩
      by_cases h1l : 1 < lf
      · have e : nextF c ⟨1, lf, false⟩ = ⟨1, lf - 1, false⟩ := by unfold nextF; simp only [decide_eq_true h1l]; rfl
        rw [e]
        exact ⟨rfl, .inr (.inl ⟨rfl, by show 1 ≤ lf - 1; omega, .inl ⟨by show on + 1 = c.pulse - (lf - 1); omega, by show lf - 1 < c.pulse; omega⟩⟩)⟩
      · have e : nextF c ⟨1, lf, false⟩ = restF c := by unfold nextF; simp only [decide_eq_false h1l]; rfl
        rw [e, rest_some hr]
        exact ⟨rfl, .inr (.inr ⟨rfl, by show 1 ≤ c.rest; omega, by show c.rest - c.rest ≤ 0; omega⟩)⟩
    · exact Bool.noConfusion hb
  · exact ⟨by omega, by omega, by omega, by omega, fun h => absurd h hr⟩
theorem inv_off {c : Coil} {d : Drive} {on off : Int} (hb : onB c d = false) (h : RestInv c d on off) : RestInv c (nextF c d) 0 (off + 1) := by
  obtain ⟨h0, h1, h2⟩ := h
  refine ⟨by omega, by omega, fun hr => ?_⟩
  obtain ⟨hh, hc⟩ := h2 hr
  obtain ⟨ph, lf, hd⟩ := d
  simp only at hh hc
  subst hh
  rcases hc with ⟨rfl, ho, hf⟩ | ⟨rfl, hl, hx⟩ | ⟨rfl, hl, hx⟩
  · exact ⟨rfl, .inl ⟨rfl, rfl, by omega⟩⟩
  · exact Bool.noConfusion hb
  · by_cases h1l : 1 < lf
    · have e : nextF c ⟨3, lf, false⟩ = ⟨3, lf - 1, false⟩ := by unfold nextF; simp only [decide_eq_true h1l]; rfl
      rw [e]
      exact ⟨rfl, .inr (.inr ⟨rfl, by show 1 ≤ lf - 1; omega, by show c.rest - (lf - 1) ≤ off + 1; omega⟩)⟩
    · have e : nextF c ⟨3, lf, false⟩ = idle := by unfold nextF; simp only [decide_eq_false h1l]; rfl
      rw [e]
      exact ⟨rfl, .inl ⟨rfl, rfl, by omega⟩⟩
theorem inv_start {c : Coil} (h : 0 ≤ c.rest) : RestInv c idle 0 c.rest := ⟨by omega, h, fun _ => ⟨rfl, .inl ⟨rfl, rfl, by omega⟩⟩⟩
/-- A tick of a coil that bears the relation: energised. -/
theorem inv_tick_on {n : Nat} {C : Nat → Coil} {D : Nat → Drive} {L : Nat → OL} {i c : Nat} {on off : Int} (hp : 1 ≤ (C c).pulse) (hk : ∀ j, j < (L i).n → ((L i).os j).kind ≠ 2) (h : RestInv (C c) (run n C D L i c) on off)
    (hb : onB (C c) (qAt n C D L i c) = true) : (on = 0 → (C c).rest ≤ off) ∧ (0 < (C c).rest → on + 1 ≤ (C c).pulse) ∧ RestInv (C c) (run n C D L (i + 1) c) (on + 1) 0 := by
  rw [run_q]
  exact inv_on hb (inv_orders hp h _ hk)
theorem inv_tick_off {n : Nat} {C : Nat → Coil} {D : Nat → Drive} {L : Nat → OL} {i c : Nat} {on off : Int} (hp : 1 ≤ (C c).pulse) (hk : ∀ j, j < (L i).n → ((L i).os j).kind ≠ 2) (h : RestInv (C c) (run n C D L i c) on off)
    (hb : onB (C c) (qAt n C D L i c) = false) : RestInv (C c) (run n C D L (i + 1) c) 0 (off + 1) := by
  rw [run_q]
  exact inv_off hb (inv_orders hp h _ hk)
end Go.Proofs.Ytfgkljfoalgkaaa
