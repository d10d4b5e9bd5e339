/-
  Plain law behind DriverIndependent: what a coil does among others is what it does alone with its own orders. No program in sight.
-/
import Derived.Test.YtfgkljfoalgkaaaSolo
namespace Go.Proofs.Ytfgkljfoalgkaaa
open Go.RowKit Go.Deep

/-- How many of the first m orders are the coil k's. -/
def ownN (os : Nat → Order) (k : Nat) : Nat → Nat
  | 0 => 0
  | m + 1 => ownN os k m + (if (os m).coil = k then 1 else 0)
theorem ownN_le (os : Nat → Order) (k : Nat) : ∀ m, ownN os k m ≤ m
  | 0 => Nat.le_refl _
  | m + 1 => by
    have := ownN_le os k m
    unfold ownN
    split <;> omega
/-- The list os' holds the coil k's orders of the first m ones of os, in their order, for the coil 0. -/
def Own (os : Nat → Order) (k m : Nat) (os' : Nat → Order) : Prop := ∀ i, i < m → (os i).coil = k → os' (ownN os k i) = ⟨(os i).kind, 0⟩
theorem own_apply {n : Nat} {C : Nat → Coil} {D : Nat → Drive} {D' : Nat → Drive} {k : Nat} {kd : Int} (hk : k < n) (h : D k = D' 0) : applyD n C D ⟨kd, k⟩ k = applyD 1 (fun _ => C k) D' ⟨kd, 0⟩ 0 := by
  have e : applyE n C D ⟨kd, k⟩ = applyE 1 (fun _ => C k) D' ⟨kd, 0⟩ := by
    unfold applyE
    rw [if_neg (show ¬ ((k : Int) < 0 ∨ (n : Int) ≤ k) by omega), if_neg (show ¬ ((0 : Int) < 0 ∨ ((1 : Nat) : Int) ≤ 0) by omega)]
    show (if kd < 1 ∨ 4 < kd then (44 : Int) else if kd = 2 ∧ (C ((k : Int)).toNat).on = 0 then 46 else if kd ≤ 2 ∧ (D ((k : Int)).toNat).phase = 3 then 45 else 0) = (if kd < 1 ∨ 4 < kd then (44 : Int) else if kd = 2 ∧ (C k).on = 0 then 46 else if kd ≤ 2 ∧ (D' 0).phase = 3 then 45 else 0)
    rw [show ((k : Int)).toNat = k from rfl, h]
  unfold applyD
  rw [e]
  split
  · show updD D ((k : Int)).toNat (obeyF (C ((k : Int)).toNat) (D ((k : Int)).toNat) kd) k = updD D' 0 (obeyF (C k) (D' 0) kd) 0
    rw [show ((k : Int)).toNat = k from rfl, h]
    unfold updD
    rw [if_pos rfl, if_pos rfl]
  · exact h
theorem other_apply {n : Nat} {C : Nat → Coil} {D : Nat → Drive} {o : Order} {k : Nat} (hk : o.coil ≠ k) : applyD n C D o k = D k := by
  unfold applyD
  split
  · rename_i hE
    obtain ⟨h0, _⟩ := applyE_zero hE
    unfold updD
    rw [if_neg (by omega)]
  · rfl
theorem own_orders {n : Nat} {C : Nat → Coil} {D D' : Nat → Drive} {os os' : Nat → Order} {k : Nat} (hk : k < n) (h : D k = D' 0) : ∀ m, Own os k m os' → orders n C D os m k = orders 1 (fun _ => C k) D' os' (ownN os k m) 0
  | 0, _ => h
  | m + 1, ho => by
    have ih := own_orders (C := C) hk h m (fun i hi hc => ho i (by omega) hc)
    show applyD n C (orders n C D os m) (os m) k = _
    unfold ownN
    by_cases e : (os m).coil = k
    · rw [if_pos e]
      show _ = applyD 1 (fun _ => C k) (orders 1 (fun _ => C k) D' os' (ownN os k m)) (os' (ownN os k m)) 0
      rw [ho m (by omega) e]
      obtain ⟨kd, ci, ho'⟩ : ∃ kd ci, os m = ⟨kd, ci⟩ := ⟨_, _, rfl⟩
      rw [ho'] at e ⊢
      simp only at e
      subst e
      exact own_apply hk ih
    · rw [if_neg e, Nat.add_zero, other_apply e]
      exact ih
/-- The lists L' are the coil k's own orders out of L. -/
def OwnL (L L' : Nat → OL) (k nt : Nat) : Prop := ∀ t, t < nt → (L' t).n = ownN (L t).os k (L t).n ∧ Own (L t).os k (L t).n (L' t).os
theorem own_run {n : Nat} {C : Nat → Coil} {D D' : Nat → Drive} {L L' : Nat → OL} {k nt : Nat} (hk : k < n) (h : D k = D' 0) (hL : OwnL L L' k nt) : ∀ t, t ≤ nt → run n C D L t k = run 1 (fun _ => C k) D' L' t 0
  | 0, _ => h
  | t + 1, ht => by
    have ih := own_run (C := C) hk h hL t (by omega)
    obtain ⟨h1, h2⟩ := hL t (by omega)
    rw [run_q, run_q]
    congr 1
    unfold qAt
    rw [h1]
    exact own_orders hk ih _ h2
theorem own_q {n : Nat} {C : Nat → Coil} {D D' : Nat → Drive} {L L' : Nat → OL} {k nt : Nat} (hk : k < n) (h : D k = D' 0) (hL : OwnL L L' k nt) (t : Nat) (ht : t < nt) : qAt n C D L t k = qAt 1 (fun _ => C k) D' L' t 0 := by
  obtain ⟨h1, h2⟩ := hL t ht
  unfold qAt
  rw [h1]
  exact own_orders hk (own_run hk h hL t (by omega)) _ h2
/-- The list that the law builds: what the first m orders give. -/
theorem ownN_lt {os : Nat → Order} {k i m : Nat} (hi : i < m) (hc : (os i).coil = k) : ownN os k i < ownN os k m := by
  induction m with
  | zero => omega
  | succ m ih =>
    show ownN os k i < ownN os k m + (if (os m).coil = k then 1 else 0)
    by_cases e : i = m
    · subst e
      rw [if_pos hc]; omega
    · have := ih (by omega)
      omega
end Go.Proofs.Ytfgkljfoalgkaaa
