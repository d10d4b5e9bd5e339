/-
  A run of the drivers as plain functions: orders, ticks, sets; states stay states. Lists of lists of orders as the walk reads them. No program in sight.
-/
import Derived.Test.YtfgkljfoalgkaaaTick
import Derived.Test.YtfgkljfoalgkaaaFRow
namespace Go.Proofs.Ytfgkljfoalgkaaa
open Go.RowKit

theorem obey_fits {c : Coil} {d : Drive} (k : Int) (hc : goodB c = true) (hd : fitsB c d = true) (hk : k = 2 → c.on ≠ 0) : fitsB c (obeyF c d k) = true := by
  have hg := (goodB_iff c).1 hc
  unfold obeyF
  rcases fits_phase hd with ⟨hp, hl, hh⟩ | ⟨hp, hl1, hl2, hh⟩ | ⟨hp, ho, hl1, hl2, hh⟩ | ⟨hp, hl1, hl2, hh⟩
  · rw [hp]
    cases h1 : ((k == 1) || (k == 2)) with
    | false => simp [hd]
    | true =>
      simp only [beq_self_eq_true, Bool.true_and, cond_true]
      unfold fitsB
      cases h2 : (k == 2) with
      | false => simp; omega
      | true =>
        have := hk (eq_of_beq h2)
        simp; omega
  · rw [hp]
    have e0 : ((1 : Int) == 0) = false := rfl
    have e1 : ((1 : Int) == 1) = true := rfl
    have e2 : ((1 : Int) == 2) = false := rfl
    rw [e0, e1, e2]
    simp only [Bool.false_and, Bool.true_and, Bool.false_or, Bool.true_or, cond_false]
    cases h1 : ((k == 2) || (k == 3)) with
    | true =>
      rw [cond_true]
      unfold fitsB
      cases h2 : (k == 2) with
      | false => simp; omega
      | true =>
        have := hk (eq_of_beq h2)
        simp; omega
    | false =>
      rw [cond_false]
      cases h3 : (k == 4) with
      | true => rw [cond_true]; exact rest_fits hc
      | false => rw [cond_false]; exact hd
  · rw [hp]
    have e0 : ((2 : Int) == 0) = false := rfl
    have e1 : ((2 : Int) == 1) = false := rfl
    have e2 : ((2 : Int) == 2) = true := rfl
    rw [e0, e1, e2]
    simp only [Bool.false_and, Bool.true_and, Bool.false_or, cond_false]
    cases h3 : ((k == 3) || (k == 4)) with
    | true => rw [cond_true]; exact rest_fits hc
    | false => rw [cond_false]; exact hd
  · rw [hp]
    have e0 : ((3 : Int) == 0) = false := rfl
    have e1 : ((3 : Int) == 1) = false := rfl
    have e2 : ((3 : Int) == 2) = false := rfl
    rw [e0, e1, e2]
    simp only [Bool.false_and, Bool.false_or, cond_false]
    exact hd
/-- The drives behind an order: those before it, if it is refused. -/
def applyD (n : Nat) (C : Nat → Coil) (D : Nat → Drive) (o : Order) : Nat → Drive :=
  if applyE n C D o = 0 then updD D o.coil.toNat (obeyF (C o.coil.toNat) (D o.coil.toNat) o.kind) else D
theorem applyE_zero {n : Nat} {C : Nat → Coil} {D : Nat → Drive} {o : Order} (h : applyE n C D o = 0) : 0 ≤ o.coil ∧ o.coil < n ∧ 1 ≤ o.kind ∧ o.kind ≤ 4 ∧ ¬ (o.kind = 2 ∧ (C o.coil.toNat).on = 0) ∧ ¬ (o.kind ≤ 2 ∧ (D o.coil.toNat).phase = 3) := by
  unfold applyE at h
  split at h
  · exact absurd h (by decide)
  · split at h
    · exact absurd h (by decide)
    · split at h
      · exact absurd h (by decide)
      · split at h
        · exact absurd h (by decide)
        · rename_i h1 h2 h3 h4
          exact ⟨by omega, by omega, by omega, by omega, h3, h4⟩
theorem applyD_state {n m : Nat} {C : Nat → Coil} {D : Nat → Drive} (o : Order) (h : StateP n C m D) : StateP n C m (applyD n C D o) := by
  unfold applyD
  split
  · rename_i hE
    obtain ⟨h0, h1, _, _, h4, _⟩ := applyE_zero hE
    refine ⟨h.1, h.2.1, fun i hi => ?_⟩
    unfold updD
    by_cases e : i = o.coil.toNat
    · rw [if_pos e, ← e]
      exact obey_fits o.kind ((validE_zero h.1).2 i hi) (h.2.2 i hi) (fun hk ho => h4 ⟨hk, by rw [← e]; exact ho⟩)
    · rw [if_neg e]; exact h.2.2 i hi
  · exact h
def orders (n : Nat) (C : Nat → Coil) (D : Nat → Drive) (os : Nat → Order) : Nat → (Nat → Drive)
  | 0 => D
  | k + 1 => applyD n C (orders n C D os k) (os k)
theorem orders_state {n m : Nat} {C : Nat → Coil} {D : Nat → Drive} (os : Nat → Order) (h : StateP n C m D) : ∀ k, StateP n C m (orders n C D os k)
  | 0 => h
  | k + 1 => applyD_state _ (orders_state os h k)
def nextAll (C : Nat → Coil) (D : Nat → Drive) : Nat → Drive := fun i => nextF (C i) (D i)
theorem nextAll_state {n m : Nat} {C : Nat → Coil} {D : Nat → Drive} (h : StateP n C m D) : StateP n C m (nextAll C D) :=
  ⟨h.1, h.2.1, fun i hi => next_fits ((validE_zero h.1).2 i hi) (h.2.2 i hi)⟩
/-- A list of orders: where it lies, how long it is, what it holds. -/
structure OL where
  a : Option Addr
  n : Nat
  cap : Nat
  os : Nat → Order
def OL.v (l : OL) : Value := .slice l.a l.n l.cap
abbrev HoldsO := Holds Order.cells 2
/-- The slice value v is a list of nt lists of orders. -/
def HoldsL (w : World) (v : Value) (nt : Nat) (L : Nat → OL) : Prop := Holds (fun l : OL => [l.v]) 1 w v nt L ∧ ∀ j, j < nt → HoldsO w (L j).v (L j).n (L j).os
theorem HoldsL.below {w w' : World} {B : Nat} {v : Value} {nt : Nat} {L : Nat → OL} (h : HoldsL w v nt L) (hb : Below B w w') (hB : w.heap.size ≤ B) : HoldsL w' v nt L :=
  ⟨h.1.below hb hB, fun j hj => (h.2 j hj).below hb hB⟩
/-- The drives behind t ticks. -/
def run (n : Nat) (C : Nat → Coil) (D : Nat → Drive) (L : Nat → OL) : Nat → (Nat → Drive)
  | 0 => D
  | t + 1 => nextAll C (orders n C (run n C D L t) (L t).os (L t).n)
/-- The coils that are energised in the tick t. -/
def setAt (n : Nat) (C : Nat → Coil) (D : Nat → Drive) (L : Nat → OL) (t : Nat) : BitVec 32 := setTo C (orders n C (run n C D L t) (L t).os (L t).n) n
theorem run_state {n m : Nat} {C : Nat → Coil} {D : Nat → Drive} (L : Nat → OL) (h : StateP n C m D) : ∀ t, StateP n C m (run n C D L t)
  | 0 => h
  | t + 1 => nextAll_state (orders_state _ (run_state L h t) _)
theorem idle_state {n : Nat} {C : Nat → Coil} (h : validE n C = 0) : StateP n C n (fun _ => idle) :=
  ⟨h, rfl, fun _ _ => rfl⟩
theorem wc_len (x : BitVec 32) : (wcells x).length = 1 := rfl
theorem wc_one (x : BitVec 32) (u : Value) (h : u ∈ wcells x) : u.oneCell' = true := by
  simp [wcells] at h
  rw [h]; rfl
theorem order_cells {w : World} {g off n : Nat} {O : Nat → Order} (h : ∀ j, j < n → ∀ k u, (Order.cells (O j))[k]? = some u → w.cell? ⟨g, off + j * 2 + k, none⟩ = some u) {j : Nat} (hj : j < n) :
    w.cell? ⟨g, off + j * 2, none⟩ = some (.int .i64 (O j).kind) ∧ w.cell? ⟨g, off + j * 2 + 1, none⟩ = some (.int .i64 (O j).coil) := ⟨h j hj 0 _ rfl, h j hj 1 _ rfl⟩
theorem list_cell {w : World} {g off n : Nat} {L : Nat → OL} (h : ∀ j, j < n → ∀ k u, ([(L j).v] : List Value)[k]? = some u → w.cell? ⟨g, off + j * 1 + k, none⟩ = some u) {j : Nat} (hj : j < n) : w.cell? ⟨g, off + j, none⟩ = some (.slice (L j).a (L j).n (L j).cap) := by
  have := h j hj 0 _ rfl
  rwa [Nat.mul_one, Nat.add_zero] at this
end Go.Proofs.Ytfgkljfoalgkaaa
