/-
  Plain mathematics of the switch matrix: what is reached from a column, as a relation, as a computed set, and as the breadth-first search comes to it. No program in sight.
-/
import Derived.Lib.Hide
namespace Go.Proofs.Ytpboblanjngeeaa

/-- The eight switches of column c. -/
def row (p : BitVec 64) (c : Nat) : BitVec 8 := (p >>> (8 * c)).setWidth 8
theorem row_bit (p : BitVec 64) (c r : Nat) : (row p c).getLsbD r = (decide (r < 8) && p.getLsbD (8 * c + r)) := by
  simp [row, BitVec.getLsbD_setWidth, BitVec.getLsbD_ushiftRight]

/-- Current comes from column c to this column. -/
inductive RC (on bk : BitVec 64) (c : Nat) : Nat → Prop
  | refl : RC on bk c c
  | step {a b r : Nat} : RC on bk c a → r < 8 → b < 8 → on.getLsbD (8 * a + r) = true → bk.getLsbD (8 * b + r) = true → RC on bk c b
/-- .. and to this row. -/
def RowR (on bk : BitVec 64) (c r : Nat) : Prop := r < 8 ∧ ∃ a, RC on bk c a ∧ on.getLsbD (8 * a + r) = true

theorem RC.lt {on bk : BitVec 64} {c k : Nat} (hc : c < 8) (h : RC on bk c k) : k < 8 := by
  cases h with
  | refl => exact hc
  | step _ _ hb _ _ => exact hb

/-! ### The breadth-first search -/
structure BFS (on bk : BitVec 64) (c : Nat) (R S : BitVec 8) (q : List Nat) : Prop where
  start : S.getLsbD c = true
  seen : ∀ k, S.getLsbD k = true → RC on bk c k
  qlt : ∀ k, k ∈ q → k < 8 ∧ S.getLsbD k = true
  rows : ∀ r, R.getLsbD r = true → RowR on bk c r
  done : ∀ a, S.getLsbD a = true → a ∉ q → ∀ r, r < 8 → on.getLsbD (8 * a + r) = true → R.getLsbD r = true
  closed : ∀ r k, k < 8 → R.getLsbD r = true → bk.getLsbD (8 * k + r) = true → S.getLsbD k = true

theorem one_bit (c k : Nat) : (1#8 <<< c).getLsbD k = (decide (k < 8) && decide (k = c)) := by
  rw [BitVec.getLsbD_shiftLeft, BitVec.getLsbD_one, Bool.eq_iff_iff]
  simp
  omega

theorem BFS.init (on bk : BitVec 64) (c : Nat) (hc : c < 8) : BFS on bk c 0#8 (1#8 <<< c) [c] where
  start := by rw [one_bit]; simp [hc]
  seen k hk := by
    rw [one_bit] at hk; simp at hk; obtain ⟨_, rfl⟩ := hk; exact .refl
  qlt k hk := by
    simp at hk; subst hk; exact ⟨hc, by rw [one_bit]; simp [hc]⟩
  rows r hr := by simp at hr
  done a ha hn := by
    rw [one_bit] at ha; simp at ha hn; exact absurd ha.2 hn
  closed r k _ hr := by simp at hr

theorem BFS.finish {on bk : BitVec 64} {c : Nat} {R S : BitVec 8} (h : BFS on bk c R S []) (r : Nat) : R.getLsbD r = true ↔ RowR on bk c r := by
  refine ⟨h.rows r, fun ⟨hr, a, ha, ho⟩ => ?_⟩
  have hs : ∀ k, RC on bk c k → S.getLsbD k = true := fun k hk => by
    induction hk with
    | refl => exact h.start
    | step _ hr' hb ho' hbk ih => exact h.closed _ _ hb (h.done _ ih (by simp) _ hr' ho') hbk
  exact h.done a (hs a ha) (by simp) r hr ho

/-- What the inner loop has made of the seen columns, and what it has appended, when it has looked at the columns below k. -/
def inner (bk : BitVec 64) (F S0 : BitVec 8) : Nat → BitVec 8 × List Nat
  | 0 => (S0, [])
  | k + 1 =>
    if (row bk k &&& F != 0#8 && !(inner bk F S0 k).1.getLsbD k) = true then ((inner bk F S0 k).1 ||| 1#8 <<< k, (inner bk F S0 k).2 ++ [k]) else inner bk F S0 k

theorem inner_len (bk : BitVec 64) (F S0 : BitVec 8) : ∀ k, (inner bk F S0 k).2.length ≤ k
  | 0 => by simp [inner]
  | k + 1 => by
    have := inner_len bk F S0 k
    unfold inner
    split
    · simp; omega
    · omega

theorem or_bit (S : BitVec 8) (k j : Nat) : (S ||| 1#8 <<< k).getLsbD j = (S.getLsbD j || (decide (j < 8) && decide (j = k))) := by
  rw [BitVec.getLsbD_or, one_bit]

theorem inner_seen (bk : BitVec 64) (F S0 : BitVec 8) : ∀ k, k ≤ 8 → ∀ j, (inner bk F S0 k).1.getLsbD j = true ↔ S0.getLsbD j = true ∨ (j < k ∧ (row bk j &&& F) ≠ 0#8)
  | 0, _, j => by simp [inner]
  | k + 1, hk, j => by
    have ih := inner_seen bk F S0 k (by omega) j
    have ihk := inner_seen bk F S0 k (by omega) k
    unfold inner
    split
    · rename_i h
      simp only [Bool.and_eq_true, bne_iff_ne, Bool.not_eq_true'] at h
      rw [or_bit]
      simp only [Bool.or_eq_true, Bool.and_eq_true, decide_eq_true_eq, ih]
      constructor
      · rintro ((h1 | h1) | h1)
        · exact .inl h1
        · exact .inr ⟨by omega, h1.2⟩
        · obtain ⟨_, rfl⟩ := h1; exact .inr ⟨by omega, h.1⟩
      · rintro (h1 | ⟨h1, h2⟩)
        · exact .inl (.inl h1)
        · by_cases e : j = k
          · exact .inr ⟨by omega, e⟩
          · exact .inl (.inr ⟨by omega, h2⟩)
    · rename_i h
      simp only [Bool.and_eq_true, bne_iff_ne, Bool.not_eq_true', not_and, Bool.not_eq_false] at h
      rw [ih]
      constructor
      · rintro (h1 | h1)
        · exact .inl h1
        · exact .inr ⟨by omega, h1.2⟩
      · rintro (h1 | ⟨h1, h2⟩)
        · exact .inl h1
        · by_cases e : j = k
          · subst e
            rcases ihk.1 (h h2) with h3 | h3
            · exact .inl h3
            · omega
          · exact .inr ⟨by omega, h2⟩

theorem inner_new (bk : BitVec 64) (F S0 : BitVec 8) : ∀ k, ∀ j, j ∈ (inner bk F S0 k).2 → j < k ∧ (inner bk F S0 k).1.getLsbD j = true ∨ 8 ≤ j
  | 0, j, h => by simp [inner] at h
  | k + 1, j, h => by
    have ih := inner_new bk F S0 k j
    unfold inner at h ⊢
    split at h
    · rename_i hc
      rw [if_pos hc]
      rw [or_bit]
      simp only [List.mem_append, List.mem_singleton] at h
      rcases h with h | h
      · rcases ih h with h1 | h1
        · exact .inl ⟨by omega, by rw [h1.2]; simp⟩
        · exact .inr h1
      · subst h
        by_cases h8 : j < 8
        · exact .inl ⟨by omega, by simp [h8]⟩
        · exact .inr (by omega)
    · rename_i hc
      rw [if_neg hc]
      rcases ih h with h1 | h1
      · exact .inl ⟨by omega, h1.2⟩
      · exact .inr h1

theorem inner_old (bk : BitVec 64) (F S0 : BitVec 8) : ∀ k, k ≤ 8 → ∀ j, (inner bk F S0 k).1.getLsbD j = true → S0.getLsbD j = true ∨ j ∈ (inner bk F S0 k).2
  | 0, _, j, h => .inl (by simpa [inner] using h)
  | k + 1, hk, j, h => by
    have ih := inner_old bk F S0 k (by omega) j
    unfold inner at h ⊢
    split at h
    · rename_i hc
      rw [if_pos hc]
      rw [or_bit] at h
      simp only [Bool.or_eq_true, Bool.and_eq_true, decide_eq_true_eq] at h
      rcases h with h | h
      · rcases ih h with h1 | h1
        · exact .inl h1
        · exact .inr (List.mem_append_left _ h1)
      · exact .inr (List.mem_append_right _ (by simp [h.2]))
    · rename_i hc
      rw [if_neg hc]
      exact ih h

/-- How many columns have been seen. -/
def cnt (S : BitVec 8) : Nat := ((List.range 8).filter (fun k => S.getLsbD k)).length
theorem cnt_le (S : BitVec 8) : cnt S ≤ 8 := by
  unfold cnt
  exact Nat.le_trans (List.length_filter_le _ _) (by simp)
theorem cnt_or (S : BitVec 8) (k : Nat) (hk : k < 8) (h : S.getLsbD k = false) : cnt (S ||| 1#8 <<< k) = cnt S + 1 := by
  have key : ∀ (S : BitVec 8) (k : Fin 8), S.getLsbD k = false → cnt (S ||| 1#8 <<< (k : Nat)) = cnt S + 1 := by decide +kernel
  exact key S ⟨k, hk⟩ h

theorem inner_cnt (bk : BitVec 64) (F S0 : BitVec 8) : ∀ k, k ≤ 8 → cnt (inner bk F S0 k).1 = cnt S0 + (inner bk F S0 k).2.length
  | 0, _ => by simp [inner]
  | k + 1, hk => by
    have ih := inner_cnt bk F S0 k (by omega)
    unfold inner
    split
    · rename_i hc
      simp only [Bool.and_eq_true, Bool.not_eq_true'] at hc
      rw [cnt_or _ _ (by omega) hc.2, ih]
      simp
      omega
    · exact ih

theorem ne_zero_bit (x : BitVec 8) (h : x ≠ 0#8) : ∃ r, r < 8 ∧ x.getLsbD r = true := by
  refine Classical.byContradiction fun hn => h ?_
  apply BitVec.eq_of_getLsbD_eq
  intro i hi
  rw [BitVec.getLsbD_zero]
  cases hx : x.getLsbD i with
  | false => rfl
  | true => exact absurd ⟨i, hi, hx⟩ hn
theorem bit_ne_zero (x : BitVec 8) (r : Nat) (h : x.getLsbD r = true) : x ≠ 0#8 := by
  rintro rfl; simp at h

/-- One round of the search. -/
theorem BFS.round {on bk : BitVec 64} {c at_ : Nat} {R S : BitVec 8} {q : List Nat} (h : BFS on bk c R S (at_ :: q)) :
    BFS on bk c (R ||| (row on at_ &&& ~~~R)) (inner bk (row on at_ &&& ~~~R) S 8).1 (q ++ (inner bk (row on at_ &&& ~~~R) S 8).2) := by
  have hat := h.qlt at_ (by simp)
  have hF : ∀ r, (row on at_ &&& ~~~R).getLsbD r = true → RowR on bk c r := fun r hr => by
    rw [BitVec.getLsbD_and, row_bit] at hr
    simp only [Bool.and_eq_true, decide_eq_true_eq] at hr
    exact ⟨hr.1.1, at_, h.seen _ hat.2, hr.1.2⟩
  have hR' : ∀ r, (R ||| (row on at_ &&& ~~~R)).getLsbD r = true ↔ R.getLsbD r = true ∨ (r < 8 ∧ on.getLsbD (8 * at_ + r) = true) := fun r => by
    rw [BitVec.getLsbD_or, BitVec.getLsbD_and, BitVec.getLsbD_not, row_bit]
    by_cases h8 : r < 8
    · cases R.getLsbD r <;> simp [h8]
    · have : R.getLsbD r = false := BitVec.getLsbD_of_ge _ _ (by omega)
      simp [h8]
  have hS := inner_seen bk (row on at_ &&& ~~~R) S 8 (Nat.le_refl _)
  refine ⟨(hS c).2 (.inl h.start), fun k hk => ?_, fun k hk => ?_, fun r hr => ?_, fun a ha hn r hr ho => ?_, fun r k hk hr hb => ?_⟩
  · rcases (hS k).1 hk with h1 | ⟨h1, h2⟩
    · exact h.seen k h1
    · obtain ⟨r, hr, hb⟩ := ne_zero_bit _ h2
      rw [BitVec.getLsbD_and, row_bit] at hb
      simp only [Bool.and_eq_true, decide_eq_true_eq] at hb
      obtain ⟨_, a, ha, ho⟩ := hF r hb.2
      exact .step ha hr h1 ho hb.1.2
  · rcases List.mem_append.1 hk with h1 | h1
    · have := h.qlt k (List.mem_cons_of_mem _ h1)
      exact ⟨this.1, (hS k).2 (.inl this.2)⟩
    · rcases inner_new bk _ S 8 k h1 with h2 | h2
      · exact h2
      · exfalso
        have : ∀ n, n ≤ 8 → k ∈ (inner bk (row on at_ &&& ~~~R) S n).2 → k < n := by
          intro n
          induction n with
          | zero => intro _ hm; simp [inner] at hm
          | succ n ih =>
            intro hn hm
            unfold inner at hm
            split at hm
            · simp only [List.mem_append, List.mem_singleton] at hm
              rcases hm with hm | hm
              · have := ih (by omega) hm; omega
              · omega
            · have := ih (by omega) hm; omega
        have := this 8 (Nat.le_refl _) h1
        omega
  · rcases (hR' r).1 hr with h1 | ⟨h1, h2⟩
    · exact h.rows r h1
    · exact ⟨h1, at_, h.seen _ hat.2, h2⟩
  · rw [hR']
    rw [List.mem_append, not_or] at hn
    rcases inner_old bk _ S 8 (Nat.le_refl _) a ha with h1 | h1
    · by_cases e : a = at_
      · subst e; exact .inr ⟨hr, ho⟩
      · exact .inl (h.done a h1 (by simp [e, hn.1]) r hr ho)
    · exact absurd h1 hn.2
  · rw [hS]
    by_cases hRr : R.getLsbD r = true
    · exact .inl (h.closed r k hk hRr hb)
    · right
      rcases (hR' r).1 hr with h1 | ⟨h1, h2⟩
      · exact absurd h1 hRr
      · refine ⟨hk, bit_ne_zero _ r ?_⟩
        rw [BitVec.getLsbD_and, BitVec.getLsbD_and, BitVec.getLsbD_not, row_bit, row_bit, Bool.eq_false_iff.2 hRr]
        simp [h1, h2, hb]

/-- The number that every round lowers. -/
def mu (S : BitVec 8) (q : List Nat) : Nat := 2 * (8 - cnt S) + q.length
theorem mu_round (bk : BitVec 64) (F S : BitVec 8) (a : Nat) (q : List Nat) : mu (inner bk F S 8).1 (q ++ (inner bk F S 8).2) < mu S (a :: q) := by
  have h := inner_cnt bk F S 8 (Nat.le_refl _)
  have h2 := cnt_le (inner bk F S 8).1
  unfold mu
  rw [List.length_append, List.length_cons, h]
  omega

/-! ### What is read in a column, computed -/
def rowsOf (on : BitVec 64) (S : BitVec 8) : BitVec 8 := (List.range 8).foldl (fun acc a => if S.getLsbD a then acc ||| row on a else acc) 0#8
def colsOf (bk : BitVec 64) (R : BitVec 8) : BitVec 8 := (List.range 8).foldl (fun acc k => if row bk k &&& R != 0#8 then acc ||| 1#8 <<< k else acc) 0#8
def clo (on bk : BitVec 64) : Nat → BitVec 8 → BitVec 8
  | 0, S => S
  | n + 1, S => clo on bk n (S ||| colsOf bk (rowsOf on S))
def reachB (on bk : BitVec 64) (c : Nat) : BitVec 8 := rowsOf on (clo on bk 8 (1#8 <<< c))

theorem foldl_or_bit (f : Nat → BitVec 8) (p : Nat → Bool) (r : Nat) : ∀ (l : List Nat) (acc : BitVec 8),
    (l.foldl (fun acc a => if p a then acc ||| f a else acc) acc).getLsbD r = true ↔ acc.getLsbD r = true ∨ ∃ a, a ∈ l ∧ p a = true ∧ (f a).getLsbD r = true
  | [], acc => by simp
  | a :: l, acc => by
    rw [List.foldl_cons, foldl_or_bit f p r l]
    split
    · rename_i h
      rw [BitVec.getLsbD_or]
      simp only [Bool.or_eq_true, List.mem_cons]
      constructor
      · rintro ((h1 | h1) | ⟨b, hb, h1⟩)
        · exact .inl h1
        · exact .inr ⟨a, .inl rfl, h, h1⟩
        · exact .inr ⟨b, .inr hb, h1⟩
      · rintro (h1 | ⟨b, rfl | hb, h1⟩)
        · exact .inl (.inl h1)
        · exact .inl (.inr h1.2)
        · exact .inr ⟨b, hb, h1⟩
    · rename_i h
      simp only [List.mem_cons]
      constructor
      · rintro (h1 | ⟨b, hb, h1⟩)
        · exact .inl h1
        · exact .inr ⟨b, .inr hb, h1⟩
      · rintro (h1 | ⟨b, rfl | hb, h1⟩)
        · exact .inl h1
        · exact absurd h1.1 h
        · exact .inr ⟨b, hb, h1⟩

theorem rowsOf_bit (on : BitVec 64) (S : BitVec 8) (r : Nat) : (rowsOf on S).getLsbD r = true ↔ r < 8 ∧ ∃ a, a < 8 ∧ S.getLsbD a = true ∧ on.getLsbD (8 * a + r) = true := by
  unfold rowsOf
  rw [foldl_or_bit (row on) (fun a => S.getLsbD a)]
  simp only [BitVec.getLsbD_zero, Bool.false_eq_true, false_or, List.mem_range, row_bit, Bool.and_eq_true, decide_eq_true_eq]
  constructor
  · rintro ⟨a, h1, h2, h3, h4⟩; exact ⟨h3, a, h1, h2, h4⟩
  · rintro ⟨h3, a, h1, h2, h4⟩; exact ⟨a, h1, h2, h3, h4⟩

theorem colsOf_bit (bk : BitVec 64) (R : BitVec 8) (k : Nat) : (colsOf bk R).getLsbD k = true ↔ k < 8 ∧ ∃ r, r < 8 ∧ R.getLsbD r = true ∧ bk.getLsbD (8 * k + r) = true := by
  unfold colsOf
  rw [foldl_or_bit (fun k => 1#8 <<< k) (fun k => row bk k &&& R != 0#8)]
  simp only [BitVec.getLsbD_zero, Bool.false_eq_true, false_or, List.mem_range, one_bit, Bool.and_eq_true, decide_eq_true_eq, bne_iff_ne]
  constructor
  · rintro ⟨a, h1, h2, h3, rfl⟩
    obtain ⟨r, hr, hb⟩ := ne_zero_bit _ h2
    rw [BitVec.getLsbD_and, row_bit] at hb
    simp only [Bool.and_eq_true, decide_eq_true_eq] at hb
    exact ⟨h3, r, hr, hb.2, hb.1.2⟩
  · rintro ⟨h1, r, hr, h2, h3⟩
    refine ⟨k, h1, bit_ne_zero _ r ?_, h1, rfl⟩
    rw [BitVec.getLsbD_and, row_bit]
    simp [hr, h2, h3]

theorem clo_succ (on bk : BitVec 64) : ∀ n S, clo on bk (n + 1) S = (clo on bk n S) ||| colsOf bk (rowsOf on (clo on bk n S))
  | 0, _ => rfl
  | n + 1, S => by
    show clo on bk (n + 1) _ = _
    rw [clo_succ on bk n]
    rfl

theorem cnt_lt (S T : BitVec 8) (hne : S ≠ S ||| T) : cnt S < cnt (S ||| T) := by
  have sub : ∀ l : List Nat, (l.filter (fun k => S.getLsbD k)).length ≤ (l.filter (fun k => (S ||| T).getLsbD k)).length ∧
      ((∃ k, k ∈ l ∧ S.getLsbD k = false ∧ T.getLsbD k = true) → (l.filter (fun k => S.getLsbD k)).length < (l.filter (fun k => (S ||| T).getLsbD k)).length) := by
    intro l
    induction l with
    | nil => simp
    | cons a l ih =>
      rw [List.filter_cons, List.filter_cons, BitVec.getLsbD_or]
      generalize List.filter (fun k => (S ||| T).getLsbD k) l = L at ih ⊢
      generalize List.filter (fun k => S.getLsbD k) l = M at ih ⊢
      refine ⟨?_, ?_⟩
      · cases hs : S.getLsbD a <;> cases ht : T.getLsbD a <;> simp <;> have := ih.1 <;> omega
      · rintro ⟨k, hk, h1, h2⟩
        rcases List.mem_cons.1 hk with rfl | hk
        · rw [h1, h2]; simp; have := ih.1; omega
        · have := ih.2 ⟨k, hk, h1, h2⟩
          cases hs : S.getLsbD a <;> cases ht : T.getLsbD a <;> simp <;> omega
  refine (sub (List.range 8)).2 ?_
  refine Classical.byContradiction fun hn => hne ?_
  apply BitVec.eq_of_getLsbD_eq
  intro i hi
  rw [BitVec.getLsbD_or]
  cases hs : S.getLsbD i with
  | true => rfl
  | false =>
    cases ht : T.getLsbD i with
    | false => rfl
    | true => exact absurd ⟨i, List.mem_range.2 hi, hs, ht⟩ hn

theorem clo_grows (on bk : BitVec 64) (S : BitVec 8) : ∀ n, clo on bk (n + 1) S = clo on bk n S ∨ n + 1 ≤ cnt (clo on bk (n + 1) S)
  | 0 => by
    rw [clo_succ]
    by_cases h : clo on bk 0 S = clo on bk 0 S ||| colsOf bk (rowsOf on (clo on bk 0 S))
    · exact .inl h.symm
    · have := cnt_lt _ _ h; exact .inr (by omega)
  | n + 1 => by
    rcases clo_grows on bk S n with h | h
    · left
      rw [clo_succ on bk (n + 1), h, ← clo_succ]
      exact h
    · rw [clo_succ on bk (n + 1)]
      by_cases hh : clo on bk (n + 1) S = clo on bk (n + 1) S ||| colsOf bk (rowsOf on (clo on bk (n + 1) S))
      · exact .inl hh.symm
      · have := cnt_lt _ _ hh; exact .inr (by omega)

theorem clo_fix (on bk : BitVec 64) (S : BitVec 8) : clo on bk 9 S = clo on bk 8 S := by
  rcases clo_grows on bk S 8 with h | h
  · exact h
  · have := cnt_le (clo on bk (8 + 1) S); omega

theorem clo_sound (on bk : BitVec 64) (c : Nat) : ∀ n k, (clo on bk n (1#8 <<< c)).getLsbD k = true → RC on bk c k
  | 0, k, h => by
    rw [clo, one_bit] at h
    simp at h
    rw [h.2]; exact .refl
  | n + 1, k, h => by
    rw [clo_succ, BitVec.getLsbD_or, Bool.or_eq_true] at h
    rcases h with h | h
    · exact clo_sound on bk c n k h
    · obtain ⟨hk, r, hr, h1, h2⟩ := (colsOf_bit _ _ _).1 h
      obtain ⟨_, a, _, h3, h4⟩ := (rowsOf_bit _ _ _).1 h1
      exact .step (clo_sound on bk c n a h3) hr hk h4 h2

theorem clo_start (on bk : BitVec 64) (c : Nat) (hc : c < 8) : ∀ n, (clo on bk n (1#8 <<< c)).getLsbD c = true
  | 0 => by rw [clo, one_bit]; simp [hc]
  | n + 1 => by rw [clo_succ, BitVec.getLsbD_or, clo_start on bk c hc n]; rfl

theorem clo_complete (on bk : BitVec 64) (c : Nat) (hc : c < 8) (k : Nat) (h : RC on bk c k) : (clo on bk 8 (1#8 <<< c)).getLsbD k = true := by
  induction h with
  | refl => exact clo_start on bk c hc 8
  | step ha hr hb ho hbk ih =>
    rw [← clo_fix, clo_succ, BitVec.getLsbD_or, Bool.or_eq_true]
    right
    exact (colsOf_bit _ _ _).2 ⟨hb, _, hr, (rowsOf_bit _ _ _).2 ⟨hr, _, ha.lt hc, ih, ho⟩, hbk⟩

/-- **What the computed set holds.** -/
theorem reachB_bit (on bk : BitVec 64) (c : Nat) (hc : c < 8) (r : Nat) : (reachB on bk c).getLsbD r = true ↔ RowR on bk c r := by
  unfold reachB
  rw [rowsOf_bit]
  constructor
  · rintro ⟨hr, a, _, h1, h2⟩; exact ⟨hr, a, clo_sound on bk c 8 a h1, h2⟩
  · rintro ⟨hr, a, h1, h2⟩; exact ⟨hr, a, h1.lt hc, clo_complete on bk c hc a h1, h2⟩

theorem eq_reachB {on bk : BitVec 64} {c : Nat} (hc : c < 8) {R : BitVec 8} (h : ∀ r, R.getLsbD r = true ↔ RowR on bk c r) : R = reachB on bk c := by
  apply BitVec.eq_of_getLsbD_eq
  intro i _
  rw [Bool.eq_iff_iff, h, reachB_bit on bk c hc]
end Go.Proofs.Ytpboblanjngeeaa
