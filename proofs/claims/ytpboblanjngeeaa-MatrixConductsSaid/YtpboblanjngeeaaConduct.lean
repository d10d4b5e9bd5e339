/-
  Plain mathematics: a path conducts; there is one exactly if the row is read. No program in sight.
-/
import Derived.Test.YtpboblanjngeeaaDist
import Derived.Test.YtpboblanjngeeaaPlain
namespace Go.Proofs.Ytpboblanjngeeaa
theorem lev_of_RC {on bk : BitVec 64} {r c a : Nat} (hc : c < 8) (h : RC on bk c a) : ∀ m, (lev on bk r m).getLsbD a = true → ∃ m', (lev on bk r m').getLsbD c = true := by
  induction h with
  | refl => exact fun m h => ⟨m, h⟩
  | step ha hr hb ho hk ih => exact fun m h => ih (m + 1) ((lev_succ _ _ _ _ _).2 (.inr ⟨ha.lt hc, _, hr, ho, _, hb, hk, h⟩))
theorem RowR_of_lev {on bk : BitVec 64} {r : Nat} (hr : r < 8) : ∀ m c, (lev on bk r m).getLsbD c = true → RowR on bk c r
  | 0, c, h => .direct hr ((lev_zero _ _ _ _ hr).1 h).2
  | m + 1, c, h => by
    rcases (lev_succ _ _ _ _ _).1 h with h | ⟨_, k, hk, ho, a, ha, hb, hl⟩
    · exact RowR_of_lev hr m c h
    · obtain ⟨_, e, he, hoe⟩ := RowR_of_lev hr m a hl
      exact ⟨hr, e, (RC.step .refl hk ha ho hb).trans he, hoe⟩
theorem read_iff (on bk : BitVec 64) (c r : Nat) (hc : c < 8) (hr : r < 8) : RowR on bk c r ↔ (lev on bk r 7).getLsbD c = true := by
  constructor
  · rintro ⟨_, a, ha, ho⟩
    obtain ⟨m, hm⟩ := lev_of_RC hc ha 0 ((lev_zero on bk r a hr).2 ⟨ha.lt hc, ho⟩)
    exact lev_seven hm
  · exact RowR_of_lev hr 7 c
theorem read_bit (on bk : BitVec 64) (c r : Nat) (hc : c < 8) (hr : r < 8) : (reachB on bk c).getLsbD r = (lev on bk r 7).getLsbD c := by
  rw [Bool.eq_iff_iff, reachB_bit on bk c hc, read_iff on bk c r hc hr]

/-- What MatrixConducts asks of a path. -/
structure Conducts (on bk : BitVec 64) (r c : Nat) (l : List Nat) : Prop where
  head : l.getD 0 0 / 8 = c
  last : l.getD (l.length - 1) 0 % 8 = r
  lt : ∀ i, i < l.length → l.getD i 0 < 64
  closed : ∀ i, i < l.length → on.getLsbD (l.getD i 0) = true
  odd : ∀ i, i < l.length → i % 2 = 1 → bk.getLsbD (l.getD i 0) = true ∧ l.getD i 0 % 8 = l.getD (i - 1) 0 % 8
  even : ∀ i, i < l.length → i % 2 = 0 → 0 < i → l.getD i 0 / 8 = l.getD (i - 1) 0 / 8
theorem pathL_conducts {on dio : BitVec 64} {r : Nat} (hr : r < 8) : ∀ m c, Dist on (on &&& dio) r c m → Conducts on (on &&& dio) r c (pathL on (on &&& dio) r m c)
  | 0, c, h => by
    have hc := h.lt
    have h0 := ((lev_zero _ _ _ _ hr).1 h.1).2
    refine ⟨by show (8 * c + r) / 8 = c; omega, by show (8 * c + r) % 8 = r; omega, fun i hi => ?_, fun i hi => ?_, fun i hi ho => ?_, fun i hi _ hp => ?_⟩
    · replace hi : i < 1 := hi
      obtain rfl : i = 0 := by omega
      show 8 * c + r < 64; omega
    · replace hi : i < 1 := hi
      obtain rfl : i = 0 := by omega
      exact h0
    · replace hi : i < 1 := hi
      omega
    · replace hi : i < 1 := hi
      omega
  | m + 1, c, h => by
    have hc := h.lt
    obtain ⟨k1, k2, k3, _⟩ := nextK_spec h
    obtain ⟨a1, a2, a3, _⟩ := nextA_spec k3
    have ih := pathL_conducts hr m _ a3
    have hlen := pathL_length on (on &&& dio) r m (nextA on (on &&& dio) r (nextK on (on &&& dio) r c m) m)
    rw [pathL]
    generalize nextK on (on &&& dio) r c m = k at *
    generalize nextA on (on &&& dio) r k m = a at *
    generalize pathL on (on &&& dio) r m a = l at *
    have o2 : on.getLsbD (8 * a + k) = true := by rw [BitVec.getLsbD_and, Bool.and_eq_true] at a2; exact a2.1
    have e0 : ∀ x y : Nat, (x :: y :: l).getD 0 0 = x := fun _ _ => rfl
    have e1 : ∀ x y : Nat, (x :: y :: l).getD 1 0 = y := fun _ _ => rfl
    have e2 : ∀ (x y i : Nat), (x :: y :: l).getD (i + 2) 0 = l.getD i 0 := fun x y i => by simp
    have el : ∀ x y : Nat, (x :: y :: l).length = l.length + 2 := fun _ _ => rfl
    refine ⟨?_, ?_, fun i hi => ?_, fun i hi => ?_, fun i hi ho => ?_, fun i hi ho hp => ?_⟩
    · rw [e0]; omega
    · rw [el, show l.length + 2 - 1 = (l.length - 1) + 2 by omega, e2]; exact ih.last
    · rw [el] at hi
      match i, hi with
      | 0, _ => rw [e0]; omega
      | 1, _ => rw [e1]; omega
      | i + 2, hi => rw [e2]; exact ih.lt i (by omega)
    · rw [el] at hi
      match i, hi with
      | 0, _ => rw [e0]; exact k2
      | 1, _ => rw [e1]; exact o2
      | i + 2, hi => rw [e2]; exact ih.closed i (by omega)
    · rw [el] at hi
      match i, hi, ho with
      | 0, _, ho => exact absurd ho (by decide)
      | 1, _, _ =>
        rw [e1, show 1 - 1 = 0 from rfl, e0]
        exact ⟨a2, by omega⟩
      | 2, _, ho => exact absurd ho (by decide)
      | i + 3, hi, ho =>
        rw [show i + 3 = (i + 1) + 2 by omega, e2, show (i + 1) + 2 - 1 = i + 2 by omega, e2]
        exact ih.odd (i + 1) (by omega) (by omega)
    · rw [el] at hi
      match i, hi, ho, hp with
      | 0, _, _, hp => exact absurd hp (by decide)
      | 1, _, ho, _ => exact absurd ho (by decide)
      | 2, _, _, _ =>
        rw [show (2 : Nat) = 0 + 2 from rfl, e2, show 0 + 2 - 1 = 1 from rfl, e1, ih.head]
        omega
      | i + 3, hi, ho, _ =>
        rw [show i + 3 = (i + 1) + 2 by omega, e2, show (i + 1) + 2 - 1 = i + 2 by omega, e2]
        exact ih.even (i + 1) (by omega) (by omega) (by omega)
end Go.Proofs.Ytpboblanjngeeaa
