/-
  Plain mathematics of the shortest paths in the switch matrix: levels, distances, the relaxation, the first shortest path. No program in sight.
-/
import Derived.Test.YtpboblanjngeeaaGraph
namespace Go.Proofs.Ytpboblanjngeeaa

/-- The columns from which row r is reached with at most 2m + 1 switches. -/
def lev (on bk : BitVec 64) (r m : Nat) : BitVec 8 := clo bk on m (colsOf on (1#8 <<< r))
theorem lev_zero (on bk : BitVec 64) (r c : Nat) (hr : r < 8) : (lev on bk r 0).getLsbD c = true ↔ c < 8 ∧ on.getLsbD (8 * c + r) = true := by
  unfold lev clo
  rw [colsOf_bit]
  constructor
  · rintro ⟨h1, r', hr', h2, h3⟩
    rw [one_bit] at h2
    simp at h2
    obtain ⟨_, rfl⟩ := h2
    exact ⟨h1, h3⟩
  · rintro ⟨h1, h2⟩
    exact ⟨h1, r, hr, by rw [one_bit]; simp [hr], h2⟩
theorem lev_succ (on bk : BitVec 64) (r m c : Nat) : (lev on bk r (m + 1)).getLsbD c = true ↔ (lev on bk r m).getLsbD c = true ∨
    (c < 8 ∧ ∃ k, k < 8 ∧ on.getLsbD (8 * c + k) = true ∧ ∃ a, a < 8 ∧ bk.getLsbD (8 * a + k) = true ∧ (lev on bk r m).getLsbD a = true) := by
  unfold lev
  rw [clo_succ, BitVec.getLsbD_or, Bool.or_eq_true, colsOf_bit]
  constructor
  · rintro (h | ⟨h1, k, hk, h2, h3⟩)
    · exact .inl h
    · obtain ⟨_, a, ha, h4, h5⟩ := (rowsOf_bit _ _ _).1 h2
      exact .inr ⟨h1, k, hk, h3, a, ha, h5, h4⟩
  · rintro (h | ⟨h1, k, hk, h3, a, ha, h5, h4⟩)
    · exact .inl h
    · exact .inr ⟨h1, k, hk, (rowsOf_bit _ _ _).2 ⟨hk, a, ha, h4, h5⟩, h3⟩
theorem lev_mono (on bk : BitVec 64) (r c m : Nat) : ∀ n, (lev on bk r m).getLsbD c = true → (lev on bk r (m + n)).getLsbD c = true
  | 0, h => h
  | n + 1, h => (lev_succ _ _ _ _ _).2 (.inl (lev_mono on bk r c m n h))
theorem lev_le {on bk : BitVec 64} {r c m n : Nat} (h : (lev on bk r m).getLsbD c = true) (hmn : m ≤ n) : (lev on bk r n).getLsbD c = true := by
  obtain ⟨d, rfl⟩ : ∃ d, n = m + d := ⟨n - m, by omega⟩
  exact lev_mono on bk r c m d h
theorem lev_lt {on bk : BitVec 64} {r c m : Nat} (h : (lev on bk r m).getLsbD c = true) : c < 8 := by
  refine Classical.byContradiction fun hn => ?_
  rw [BitVec.getLsbD_of_ge _ _ (by omega)] at h
  exact Bool.noConfusion h

theorem clo_grows1 (on bk : BitVec 64) (S : BitVec 8) (h0 : 1 ≤ cnt S) : ∀ n, clo on bk (n + 1) S = clo on bk n S ∨ n + 2 ≤ cnt (clo on bk (n + 1) S)
  | 0 => by
    rw [clo_succ]
    by_cases h : clo on bk 0 S = clo on bk 0 S ||| colsOf bk (rowsOf on (clo on bk 0 S))
    · exact .inl h.symm
    · have := cnt_lt _ _ h
      have e : clo on bk 0 S = S := rfl
      rw [e] at this ⊢
      exact .inr (by omega)
  | n + 1 => by
    rcases clo_grows1 on bk S h0 n with h | h
    · left
      rw [clo_succ on bk (n + 1), h, ← clo_succ]
      exact h
    · rw [clo_succ on bk (n + 1)]
      by_cases hh : clo on bk (n + 1) S = clo on bk (n + 1) S ||| colsOf bk (rowsOf on (clo on bk (n + 1) S))
      · exact .inl hh.symm
      · have := cnt_lt _ _ hh; exact .inr (by omega)
theorem cnt_zero (S : BitVec 8) (h : cnt S = 0) : S = 0#8 := by
  refine Classical.byContradiction fun hn => ?_
  obtain ⟨r, hr, hb⟩ := ne_zero_bit S hn
  have hm : r ∈ (List.range 8).filter (fun k => S.getLsbD k) := List.mem_filter.2 ⟨List.mem_range.2 hr, hb⟩
  unfold cnt at h
  rw [List.length_eq_zero_iff.1 h] at hm
  cases hm
theorem clo_empty (on bk : BitVec 64) : ∀ n, clo on bk n 0#8 = 0#8
  | 0 => rfl
  | n + 1 => by
    rw [clo_succ, clo_empty on bk n]
    have e1 : rowsOf on 0#8 = 0#8 := by
      refine Classical.byContradiction fun hn => ?_
      obtain ⟨r, _, hb⟩ := ne_zero_bit _ hn
      obtain ⟨_, a, _, h, _⟩ := (rowsOf_bit _ _ _).1 hb
      simp at h
    have e2 : colsOf bk 0#8 = 0#8 := by
      refine Classical.byContradiction fun hn => ?_
      obtain ⟨r, _, hb⟩ := ne_zero_bit _ hn
      obtain ⟨_, a, _, h, _⟩ := (colsOf_bit _ _ _).1 hb
      simp at h
    rw [e1, e2]; rfl
theorem lev_eight (on bk : BitVec 64) (r : Nat) : lev on bk r 8 = lev on bk r 7 := by
  unfold lev
  by_cases h0 : 1 ≤ cnt (colsOf on (1#8 <<< r))
  · rcases clo_grows1 bk on _ h0 7 with h | h
    · exact h
    · have := cnt_le (clo bk on (7 + 1) (colsOf on (1#8 <<< r))); omega
  · rw [cnt_zero (colsOf on (1#8 <<< r)) (by omega), clo_empty, clo_empty]
theorem lev_const (on bk : BitVec 64) (r : Nat) : ∀ n, lev on bk r (7 + n) = lev on bk r 7
  | 0 => rfl
  | n + 1 => by
    have ih := lev_const on bk r n
    unfold lev at ih ⊢
    rw [← Nat.add_assoc, clo_succ, ih, ← clo_succ]
    exact lev_eight on bk r
theorem lev_seven {on bk : BitVec 64} {r c m : Nat} (h : (lev on bk r m).getLsbD c = true) : (lev on bk r 7).getLsbD c = true := by
  by_cases hm : m ≤ 7
  · exact lev_le h hm
  · obtain ⟨d, rfl⟩ : ∃ d, m = 7 + d := ⟨m - 7, by omega⟩
    rw [lev_const] at h
    exact h

/-- The distance: m is the first level that holds c. -/
def Dist (on bk : BitVec 64) (r c m : Nat) : Prop := (lev on bk r m).getLsbD c = true ∧ ∀ n, n < m → (lev on bk r n).getLsbD c = false
theorem Dist.lt {on bk : BitVec 64} {r c m : Nat} (h : Dist on bk r c m) : c < 8 := lev_lt h.1
theorem Dist.le {on bk : BitVec 64} {r c m n : Nat} (h : Dist on bk r c m) (hn : (lev on bk r n).getLsbD c = true) : m ≤ n := by
  refine Classical.byContradiction fun hc => ?_
  rw [h.2 n (by omega)] at hn
  exact Bool.noConfusion hn
theorem Dist.uniq {on bk : BitVec 64} {r c m n : Nat} (h : Dist on bk r c m) (h' : Dist on bk r c n) : m = n := Nat.le_antisymm (h.le h'.1) (h'.le h.1)
theorem Dist.seven {on bk : BitVec 64} {r c m : Nat} (h : Dist on bk r c m) : m ≤ 7 := h.le (lev_seven h.1)
theorem Dist.exists {on bk : BitVec 64} {r c n : Nat} (h : (lev on bk r n).getLsbD c = true) : ∃ m, m ≤ n ∧ Dist on bk r c m := by
  induction n using Nat.strongRecOn with
  | _ n ih =>
    by_cases hs : ∃ j, j < n ∧ (lev on bk r j).getLsbD c = true
    · obtain ⟨j, hj, hl⟩ := hs
      obtain ⟨m, hm, hd⟩ := ih j hj hl
      exact ⟨m, by omega, hd⟩
    · refine ⟨n, Nat.le_refl _, h, fun j hj => ?_⟩
      cases hb : (lev on bk r j).getLsbD c with
      | false => rfl
      | true => exact absurd ⟨j, hj, hb⟩ hs
/-- The next step: a column at distance m + 1 has a switch to a row from which a column at distance m is reached. -/
theorem Dist.step {on bk : BitVec 64} {r c m : Nat} (h : Dist on bk r c (m + 1)) : ∃ k, k < 8 ∧ on.getLsbD (8 * c + k) = true ∧ ∃ a, a < 8 ∧ bk.getLsbD (8 * a + k) = true ∧ Dist on bk r a m := by
  rcases (lev_succ _ _ _ _ _).1 h.1 with h1 | ⟨hc, k, hk, ho, a, ha, hb, hl⟩
  · have := h.le h1; omega
  · refine ⟨k, hk, ho, a, ha, hb, hl, fun n hn => ?_⟩
    cases hx : (lev on bk r n).getLsbD a with
    | false => rfl
    | true =>
      have := h.le ((lev_succ on bk r n c).2 (.inr ⟨hc, k, hk, ho, a, ha, hb, hx⟩))
      omega

/-! ### The relaxation -/
def upd (f : Nat → Nat) (i v : Nat) : Nat → Nat := fun j => if j = i then v else f j
def relax (on dio : BitVec 64) (c k : Nat) (s : (Nat → Nat) × (Nat → Nat)) : (Nat → Nat) × (Nat → Nat) :=
  if on.getLsbD (8 * c + k) = true then
    if dio.getLsbD (8 * c + k) = true then
      (upd s.1 c (min (s.1 c) (s.2 k + 1)), upd s.2 k (min (s.2 k) (min (s.1 c) (s.2 k + 1) + 1)))
    else (upd s.1 c (min (s.1 c) (s.2 k + 1)), s.2)
  else s
def st (on dio : BitVec 64) (r : Nat) : Nat → (Nat → Nat) × (Nat → Nat)
  | 0 => (fun _ => 100, upd (fun _ => 100) r 0)
  | t + 1 => relax on dio (t / 8 % 8) (t % 8) (st on dio r t)

theorem upd_le (f : Nat → Nat) (i v j : Nat) : upd f i (min (f i) v) j ≤ f j := by
  unfold upd
  by_cases h : j = i
  · rw [if_pos h, h]; exact Nat.min_le_left _ _
  · rw [if_neg h]; exact Nat.le_refl _
theorem relax_le (on dio : BitVec 64) (c k : Nat) (s : (Nat → Nat) × (Nat → Nat)) : (∀ j, (relax on dio c k s).1 j ≤ s.1 j) ∧ (∀ j, (relax on dio c k s).2 j ≤ s.2 j) := by
  unfold relax
  split
  · split
    · exact ⟨fun j => upd_le _ _ _ _, fun j => upd_le _ _ _ _⟩
    · exact ⟨fun j => upd_le _ _ _ _, fun j => Nat.le_refl _⟩
  · exact ⟨fun j => Nat.le_refl _, fun j => Nat.le_refl _⟩
theorem st_le (on dio : BitVec 64) (r t : Nat) : (∀ j, (st on dio r (t + 1)).1 j ≤ (st on dio r t).1 j) ∧ (∀ j, (st on dio r (t + 1)).2 j ≤ (st on dio r t).2 j) :=
  relax_le on dio _ _ _
theorem st_mono (on dio : BitVec 64) (r t : Nat) : ∀ d, (∀ j, (st on dio r (t + d)).1 j ≤ (st on dio r t).1 j) ∧ (∀ j, (st on dio r (t + d)).2 j ≤ (st on dio r t).2 j)
  | 0 => ⟨fun _ => Nat.le_refl _, fun _ => Nat.le_refl _⟩
  | d + 1 => ⟨fun j => Nat.le_trans ((st_le on dio r (t + d)).1 j) ((st_mono on dio r t d).1 j), fun j => Nat.le_trans ((st_le on dio r (t + d)).2 j) ((st_mono on dio r t d).2 j)⟩

/-- What a value stands for. -/
structure Stands (on bk : BitVec 64) (r : Nat) (C R : Nat → Nat) : Prop where
  cle : ∀ c, C c ≤ 100
  rle : ∀ k, R k ≤ 100
  zero : R r = 0
  cols : ∀ c, c < 8 → C c < 100 → ∃ m, C c = 2 * m + 1 ∧ (lev on bk r m).getLsbD c = true
  rows : ∀ k, k < 8 → R k < 100 → (k = r ∧ R k = 0) ∨ ∃ m, R k = 2 * m + 2 ∧ ∃ a, a < 8 ∧ bk.getLsbD (8 * a + k) = true ∧ (lev on bk r m).getLsbD a = true

theorem Stands.relax {on dio : BitVec 64} {r c k : Nat} (hr : r < 8) (hc : c < 8) (hk : k < 8) {s : (Nat → Nat) × (Nat → Nat)} (h : Stands on (on &&& dio) r s.1 s.2) :
    Stands on (on &&& dio) r (Ytpboblanjngeeaa.relax on dio c k s).1 (Ytpboblanjngeeaa.relax on dio c k s).2 := by
  unfold Ytpboblanjngeeaa.relax
  split
  · rename_i hon
    have hC : ∀ j, j < 8 → upd s.1 c (min (s.1 c) (s.2 k + 1)) j < 100 → ∃ m, upd s.1 c (min (s.1 c) (s.2 k + 1)) j = 2 * m + 1 ∧ (lev on (on &&& dio) r m).getLsbD j = true := by
      intro j hj hlt
      unfold upd at hlt ⊢
      split at hlt
      · rename_i e
        subst e
        rw [if_pos rfl]
        by_cases hm : s.1 j ≤ s.2 k + 1
        · rw [Nat.min_eq_left hm] at hlt ⊢
          exact h.cols j hj hlt
        · rw [Nat.min_eq_right (by omega)] at hlt ⊢
          rcases h.rows k hk (by omega) with ⟨rfl, h0⟩ | ⟨m, h1, a, ha, hb, hl⟩
          · exact ⟨0, by omega, (lev_zero _ _ _ _ hr).2 ⟨hj, hon⟩⟩
          · exact ⟨m + 1, by omega, (lev_succ _ _ _ _ _).2 (.inr ⟨hj, k, hk, hon, a, ha, hb, hl⟩)⟩
      · rename_i e
        rw [if_neg e]
        exact h.cols j hj hlt
    have hCle : ∀ j, upd s.1 c (min (s.1 c) (s.2 k + 1)) j ≤ 100 := fun j => by
      have := h.cle c; have := h.cle j
      unfold upd; split <;> omega
    split
    · rename_i hd
      refine ⟨hCle, fun j => ?_, ?_, hC, fun j hj hlt => ?_⟩
      · have := h.rle k; have := h.rle j
        show upd s.2 k _ j ≤ 100
        unfold upd; split <;> omega
      · show upd s.2 k _ r = 0
        unfold upd
        split
        · rename_i e; subst e; rw [h.zero]; simp
        · exact h.zero
      · replace hlt : upd s.2 k (min (s.2 k) (min (s.1 c) (s.2 k + 1) + 1)) j < 100 := hlt
        show (j = r ∧ upd s.2 k (min (s.2 k) (min (s.1 c) (s.2 k + 1) + 1)) j = 0) ∨ ∃ m, upd s.2 k (min (s.2 k) (min (s.1 c) (s.2 k + 1) + 1)) j = 2 * m + 2 ∧ _
        have hCc := hC c hc
        unfold upd at hlt hCc ⊢
        rw [if_pos rfl] at hCc
        split at hlt
        · rename_i e
          subst e
          rw [if_pos rfl]
          by_cases hm : s.2 j ≤ min (s.1 c) (s.2 j + 1) + 1
          · rw [Nat.min_eq_left hm] at hlt ⊢
            exact h.rows j hj hlt
          · rw [Nat.min_eq_right (by omega)] at hlt ⊢
            obtain ⟨m, h1, h2⟩ := hCc (by omega)
            refine .inr ⟨m, by omega, c, hc, ?_, h2⟩
            rw [BitVec.getLsbD_and, hon, hd]; rfl
        · rename_i e
          rw [if_neg e]
          exact h.rows j hj hlt
    · exact ⟨hCle, h.rle, h.zero, hC, h.rows⟩
  · exact h

theorem st_stands (on dio : BitVec 64) (r : Nat) (hr : r < 8) : ∀ t, Stands on (on &&& dio) r (st on dio r t).1 (st on dio r t).2
  | 0 => by
    refine ⟨fun _ => Nat.le_refl _, fun k => ?_, ?_, fun c _ h => ?_, fun k hk h => ?_⟩
    · show upd (fun _ => 100) r 0 k ≤ 100
      unfold upd; split
      · exact Nat.zero_le _
      · exact Nat.le_refl _
    · show upd (fun _ => 100) r 0 r = 0
      unfold upd; rw [if_pos rfl]
    · exact absurd h (by show ¬ 100 < 100; omega)
    · replace h : upd (fun _ => 100) r 0 k < 100 := h
      show (k = r ∧ upd (fun _ => 100) r 0 k = 0) ∨ _
      unfold upd at h ⊢
      by_cases e : k = r
      · rw [if_pos e]; exact .inl ⟨e, rfl⟩
      · rw [if_neg e] at h; exact absurd h (Nat.lt_irrefl 100)
  | t + 1 => (st_stands on dio r hr t).relax hr (Nat.mod_lt _ (by decide)) (Nat.mod_lt _ (by decide))

/-- What a step at a closed switch leaves. -/
theorem st_at (on dio : BitVec 64) (r n c k : Nat) (hc : c < 8) (hk : k < 8) (hon : on.getLsbD (8 * c + k) = true) :
    (st on dio r (64 * n + (8 * c + k) + 1)).1 c ≤ (st on dio r (64 * n + (8 * c + k))).2 k + 1 ∧
    ((on &&& dio).getLsbD (8 * c + k) = true → (st on dio r (64 * n + (8 * c + k) + 1)).2 k ≤ (st on dio r (64 * n + (8 * c + k))).1 c + 1) := by
  have e1 : (64 * n + (8 * c + k)) / 8 % 8 = c := by omega
  have e2 : (64 * n + (8 * c + k)) % 8 = k := by omega
  show (relax on dio ((64 * n + (8 * c + k)) / 8 % 8) ((64 * n + (8 * c + k)) % 8) _).1 c ≤ _ ∧ (_ → (relax on dio ((64 * n + (8 * c + k)) / 8 % 8) ((64 * n + (8 * c + k)) % 8) _).2 k ≤ _)
  rw [e1, e2]
  generalize st on dio r (64 * n + (8 * c + k)) = s
  unfold relax
  rw [if_pos hon, BitVec.getLsbD_and, hon, Bool.true_and]
  constructor
  · split <;> simp [upd] <;> omega
  · intro hd
    rw [if_pos hd]
    simp [upd]
    omega

/-- Behind enough rounds a value is no greater than the distance. -/
theorem st_upper (on dio : BitVec 64) (r : Nat) (hr : r < 8) : ∀ m, (∀ c, (lev on (on &&& dio) r m).getLsbD c = true → (st on dio r (64 * (2 * m + 1))).1 c ≤ 2 * m + 1) ∧
    (∀ a k, a < 8 → k < 8 → (on &&& dio).getLsbD (8 * a + k) = true → (lev on (on &&& dio) r m).getLsbD a = true → (st on dio r (64 * (2 * m + 2))).2 k ≤ 2 * m + 2) := by
  intro m
  have first : (∀ c, (lev on (on &&& dio) r m).getLsbD c = true → (st on dio r (64 * (2 * m + 1))).1 c ≤ 2 * m + 1) := by
    induction m with
    | zero =>
      intro c h
      obtain ⟨hc, ho⟩ := (lev_zero _ _ _ _ hr).1 h
      have h1 := (st_at on dio r 0 c r hc hr ho).1
      have h2 := (st_stands on dio r hr (64 * 0 + (8 * c + r))).zero
      obtain ⟨d, hd⟩ : ∃ d, 64 * (2 * 0 + 1) = 64 * 0 + (8 * c + r) + 1 + d := ⟨64 - (8 * c + r + 1), by omega⟩
      rw [hd]
      have h3 := (st_mono on dio r (64 * 0 + (8 * c + r) + 1) d).1 c
      omega
    | succ m ih =>
      intro c h
      rcases (lev_succ _ _ _ _ _).1 h with h | ⟨hc, k, hk, ho, a, ha, hb, hl⟩
      · have h1 := ih c h
        have h2 := (st_mono on dio r (64 * (2 * m + 1)) 128).1 c
        have e : 64 * (2 * m + 1) + 128 = 64 * (2 * (m + 1) + 1) := by omega
        rw [e] at h2
        omega
      · have hoa : on.getLsbD (8 * a + k) = true := by
          rw [BitVec.getLsbD_and, Bool.and_eq_true] at hb; exact hb.1
        have h1 := ih a hl
        -- round 2m + 1: the row
        have h2 := (st_at on dio r (2 * m + 1) a k ha hk hoa).2 hb
        have h3 := (st_mono on dio r (64 * (2 * m + 1)) (8 * a + k)).1 a
        -- round 2m + 2: the column
        have h4 := (st_at on dio r (2 * m + 2) c k hc hk ho).1
        obtain ⟨d1, hd1⟩ : ∃ d1, 64 * (2 * m + 2) + (8 * c + k) = 64 * (2 * m + 1) + (8 * a + k) + 1 + d1 := ⟨64 + (8 * c + k) - (8 * a + k + 1), by omega⟩
        have h5 := (st_mono on dio r (64 * (2 * m + 1) + (8 * a + k) + 1) d1).2 k
        rw [← hd1] at h5
        obtain ⟨d2, hd2⟩ : ∃ d2, 64 * (2 * (m + 1) + 1) = 64 * (2 * m + 2) + (8 * c + k) + 1 + d2 := ⟨64 - (8 * c + k + 1), by omega⟩
        have h6 := (st_mono on dio r (64 * (2 * m + 2) + (8 * c + k) + 1) d2).1 c
        rw [← hd2] at h6
        omega
  refine ⟨first, fun a k ha hk hb hl => ?_⟩
  have hoa : on.getLsbD (8 * a + k) = true := by
    rw [BitVec.getLsbD_and, Bool.and_eq_true] at hb; exact hb.1
  have h1 := first a hl
  have h2 := (st_at on dio r (2 * m + 1) a k ha hk hoa).2 hb
  have h3 := (st_mono on dio r (64 * (2 * m + 1)) (8 * a + k)).1 a
  obtain ⟨d2, hd2⟩ : ∃ d2, 64 * (2 * m + 2) = 64 * (2 * m + 1) + (8 * a + k) + 1 + d2 := ⟨64 - (8 * a + k + 1), by omega⟩
  have h6 := (st_mono on dio r (64 * (2 * m + 1) + (8 * a + k) + 1) d2).2 k
  rw [← hd2] at h6
  omega

/-- The final values. -/
def Cf (on dio : BitVec 64) (r : Nat) : Nat → Nat := (st on dio r 1024).1
def Rf (on dio : BitVec 64) (r : Nat) : Nat → Nat := (st on dio r 1024).2
theorem Cf_dist {on dio : BitVec 64} {r c m : Nat} (hr : r < 8) (h : Dist on (on &&& dio) r c m) : Cf on dio r c = 2 * m + 1 := by
  have h7 := h.seven
  have h1 := (st_upper on dio r hr m).1 c h.1
  obtain ⟨d, hd⟩ : ∃ d, 1024 = 64 * (2 * m + 1) + d := ⟨1024 - 64 * (2 * m + 1), by omega⟩
  have h2 := (st_mono on dio r (64 * (2 * m + 1)) d).1 c
  rw [← hd] at h2
  obtain ⟨m', h3, h4⟩ := (st_stands on dio r hr 1024).cols c h.lt (by omega)
  have h5 := h.le h4
  unfold Cf
  omega
theorem Cf_far {on dio : BitVec 64} {r c : Nat} (hr : r < 8) (hc : c < 8) (h : (lev on (on &&& dio) r 7).getLsbD c = false) : 100 ≤ Cf on dio r c := by
  refine Classical.byContradiction fun hn => ?_
  obtain ⟨m', _, h4⟩ := (st_stands on dio r hr 1024).cols c hc (by unfold Cf at hn; omega)
  rw [lev_seven h4] at h
  exact Bool.noConfusion h
theorem Cf_eq {on dio : BitVec 64} {r c m : Nat} (hr : r < 8) (hc : c < 8) (hm : m ≤ 7) : Cf on dio r c = 2 * m + 1 ↔ Dist on (on &&& dio) r c m := by
  refine ⟨fun h => ?_, Cf_dist hr⟩
  obtain ⟨m', h3, h4⟩ := (st_stands on dio r hr 1024).cols c hc (by unfold Cf at h; omega)
  obtain ⟨m'', _, h6⟩ := Dist.exists h4
  have := Cf_dist hr h6
  have e : m'' = m := by omega
  rw [← e]; exact h6
theorem Rf_zero {on dio : BitVec 64} {r k : Nat} (hr : r < 8) (hk : k < 8) : Rf on dio r k = 0 ↔ k = r := by
  have hs := st_stands on dio r hr 1024
  constructor
  · intro h
    rcases hs.rows k hk (by unfold Rf at h; omega) with ⟨h1, _⟩ | ⟨m, h1, _⟩
    · exact h1
    · unfold Rf at h; omega
  · rintro rfl; exact hs.zero
theorem Rf_succ {on dio : BitVec 64} {r c k m : Nat} (hr : r < 8) (hk : k < 8) (h : Dist on (on &&& dio) r c (m + 1)) (ho : on.getLsbD (8 * c + k) = true) :
    Rf on dio r k = 2 * m + 2 ↔ ∃ a, a < 8 ∧ (on &&& dio).getLsbD (8 * a + k) = true ∧ Dist on (on &&& dio) r a m := by
  have hs := st_stands on dio r hr 1024
  have h7 := h.seven
  have lower : ∀ m' a', a' < 8 → (on &&& dio).getLsbD (8 * a' + k) = true → (lev on (on &&& dio) r m').getLsbD a' = true → m ≤ m' := fun m' a' ha' hb' hl' => by
    have := h.le ((lev_succ _ _ _ _ _).2 (.inr ⟨h.lt, k, hk, ho, a', ha', hb', hl'⟩))
    omega
  constructor
  · intro hR
    rcases hs.rows k hk (by unfold Rf at hR; omega) with ⟨_, h0⟩ | ⟨m', h1, a, ha, hb, hl⟩
    · unfold Rf at hR; omega
    · obtain rfl : m' = m := by unfold Rf at hR; omega
      refine ⟨a, ha, hb, hl, fun n hn => ?_⟩
      cases hx : (lev on (on &&& dio) r n).getLsbD a with
      | false => rfl
      | true => have := lower n a ha hb hx; omega
  · rintro ⟨a, ha, hb, hd⟩
    have h1 := (st_upper on dio r hr m).2 a k ha hk hb hd.1
    obtain ⟨d, hd'⟩ : ∃ d, 1024 = 64 * (2 * m + 2) + d := ⟨1024 - 64 * (2 * m + 2), by omega⟩
    have h2 := (st_mono on dio r (64 * (2 * m + 2)) d).2 k
    rw [← hd'] at h2
    rcases hs.rows k hk (by omega) with ⟨h0, _⟩ | ⟨m', h3, a', ha', hb', hl'⟩
    · subst h0
      have := h.le ((lev_zero _ _ _ _ hr).2 ⟨h.lt, ho⟩)
      omega
    · have := lower m' a' ha' hb' hl'
      unfold Rf
      omega

/-! ### The first shortest path -/
def first (p : Nat → Bool) : Nat := ((List.range 8).find? p).getD 8
theorem first_spec {p : Nat → Bool} (h : ∃ k, k < 8 ∧ p k = true) : first p < 8 ∧ p (first p) = true ∧ ∀ j, j < first p → p j = false := by
  unfold first
  obtain ⟨k, hk, hp⟩ := h
  cases hf : (List.range 8).find? p with
  | none =>
    have := List.find?_eq_none.1 hf k (List.mem_range.2 hk)
    exact absurd hp this
  | some j =>
    have h1 := List.find?_some hf
    have h2 := List.mem_range.1 (List.mem_of_find?_eq_some hf)
    refine ⟨h2, h1, fun i hi => ?_⟩
    replace hi : i < j := hi
    obtain ⟨_, as, bs, heq, hall⟩ := List.find?_eq_some_iff_append.1 hf
    have hi' : i ∈ as := by
      have hlen : as.length = j := by
        have h3 : (List.range 8)[as.length]? = some j := by rw [heq]; simp
        have h4 : as.length < 8 := by
          have := congrArg List.length heq
          simp at this; omega
        rw [List.getElem?_range h4] at h3
        simpa using h3
      have h5 : (List.range 8)[i]? = some i := List.getElem?_range (by omega)
      rw [heq, List.getElem?_append_left (by omega)] at h5
      exact List.mem_of_getElem? h5
    have := hall i hi'
    simpa using this
theorem first_unique {p : Nat → Bool} {k : Nat} (hk : k < 8) (h1 : p k = true) (h2 : ∀ j, j < k → p j = false) : first p = k := by
  obtain ⟨_, h4, h5⟩ := first_spec ⟨k, hk, h1⟩
  rcases Nat.lt_trichotomy (first p) k with h | h | h
  · rw [h2 _ h] at h4; exact Bool.noConfusion h4
  · exact h
  · rw [h5 _ h] at h1; exact Bool.noConfusion h1
theorem first_congr {p q : Nat → Bool} (h : ∀ k, k < 8 → p k = q k) : first p = first q := by
  unfold first
  congr 1
  have : ∀ l : List Nat, (∀ k ∈ l, k < 8) → l.find? p = l.find? q := by
    intro l
    induction l with
    | nil => intro _; rfl
    | cons a l ih =>
      intro hl
      rw [List.find?_cons, List.find?_cons, h a (hl a (by simp)), ih (fun k hk => hl k (List.mem_cons_of_mem _ hk))]
  exact this _ (fun k hk => List.mem_range.1 hk)

def distB (on bk : BitVec 64) (r c m : Nat) : Bool := (lev on bk r m).getLsbD c && (m == 0 || !(lev on bk r (m - 1)).getLsbD c)
theorem distB_iff (on bk : BitVec 64) (r c m : Nat) : distB on bk r c m = true ↔ Dist on bk r c m := by
  unfold distB Dist
  rw [Bool.and_eq_true, Bool.or_eq_true, beq_iff_eq, Bool.not_eq_true']
  constructor
  · rintro ⟨h1, h2⟩
    refine ⟨h1, fun n hn => ?_⟩
    rcases h2 with h2 | h2
    · omega
    · cases hx : (lev on bk r n).getLsbD c with
      | false => rfl
      | true => rw [lev_le hx (by omega)] at h2; exact Bool.noConfusion h2
  · rintro ⟨h1, h2⟩
    refine ⟨h1, ?_⟩
    by_cases h0 : m = 0
    · exact .inl h0
    · exact .inr (h2 _ (by omega))
/-- The row of the next step, and its column. -/
def stepK (on bk : BitVec 64) (r c m k : Nat) : Bool := on.getLsbD (8 * c + k) && (List.range 8).any fun a => bk.getLsbD (8 * a + k) && distB on bk r a m
def stepA (on bk : BitVec 64) (r k m a : Nat) : Bool := bk.getLsbD (8 * a + k) && distB on bk r a m
def nextK (on bk : BitVec 64) (r c m : Nat) : Nat := first (stepK on bk r c m)
def nextA (on bk : BitVec 64) (r k m : Nat) : Nat := first (stepA on bk r k m)
def pathL (on bk : BitVec 64) (r : Nat) : Nat → Nat → List Nat
  | 0, c => [8 * c + r]
  | m + 1, c => (8 * c + nextK on bk r c m) :: (8 * nextA on bk r (nextK on bk r c m) m + nextK on bk r c m) :: pathL on bk r m (nextA on bk r (nextK on bk r c m) m)
theorem pathL_length (on bk : BitVec 64) (r : Nat) : ∀ m c, (pathL on bk r m c).length = 2 * m + 1
  | 0, c => rfl
  | m + 1, c => by
    show _ + 1 + 1 = _
    rw [pathL_length on bk r m]; omega
theorem nextK_p (on bk : BitVec 64) (r c m k : Nat) : stepK on bk r c m k = true ↔
    on.getLsbD (8 * c + k) = true ∧ ∃ a, a < 8 ∧ bk.getLsbD (8 * a + k) = true ∧ Dist on bk r a m := by
  unfold stepK
  rw [Bool.and_eq_true, List.any_eq_true]
  simp only [List.mem_range, Bool.and_eq_true, distB_iff]
theorem nextK_spec {on bk : BitVec 64} {r c m : Nat} (h : Dist on bk r c (m + 1)) : nextK on bk r c m < 8 ∧ on.getLsbD (8 * c + nextK on bk r c m) = true ∧
    (∃ a, a < 8 ∧ bk.getLsbD (8 * a + nextK on bk r c m) = true ∧ Dist on bk r a m) ∧
    ∀ j, j < nextK on bk r c m → ¬ (on.getLsbD (8 * c + j) = true ∧ ∃ a, a < 8 ∧ bk.getLsbD (8 * a + j) = true ∧ Dist on bk r a m) := by
  obtain ⟨k, hk, ho, ha⟩ := h.step
  obtain ⟨h1, h2, h3⟩ := first_spec ⟨k, hk, (nextK_p on bk r c m k).2 ⟨ho, ha⟩⟩
  have h2' := (nextK_p on bk r c m _).1 h2
  refine ⟨h1, h2'.1, h2'.2, fun j hj hc => ?_⟩
  have := h3 j hj
  rw [(nextK_p on bk r c m j).2 hc] at this
  exact Bool.noConfusion this
theorem nextA_p (on bk : BitVec 64) (r k m a : Nat) : stepA on bk r k m a = true ↔ bk.getLsbD (8 * a + k) = true ∧ Dist on bk r a m := by
  unfold stepA
  rw [Bool.and_eq_true, distB_iff]
theorem nextA_spec {on bk : BitVec 64} {r k m : Nat} (h : ∃ a, a < 8 ∧ bk.getLsbD (8 * a + k) = true ∧ Dist on bk r a m) : nextA on bk r k m < 8 ∧ bk.getLsbD (8 * nextA on bk r k m + k) = true ∧
    Dist on bk r (nextA on bk r k m) m ∧ ∀ j, j < nextA on bk r k m → ¬ (bk.getLsbD (8 * j + k) = true ∧ Dist on bk r j m) := by
  obtain ⟨a, ha, hb⟩ := h
  obtain ⟨h1, h2, h3⟩ := first_spec ⟨a, ha, (nextA_p on bk r k m a).2 hb⟩
  have h2' := (nextA_p on bk r k m _).1 h2
  refine ⟨h1, h2'.1, h2'.2, fun j hj hc => ?_⟩
  have := h3 j hj
  rw [(nextA_p on bk r k m j).2 hc] at this
  exact Bool.noConfusion this
end Go.Proofs.Ytpboblanjngeeaa
