/-
  driver.next: the drive of a coil at the next tick, and whether it is energised: for a valid coil and a drive of it.
-/
import Derived.Test.YtfgkljfoalgkaaaObey
namespace Go.Proofs.Ytfgkljfoalgkaaa
open Go.RowKit

def nextF (c : Coil) (d : Drive) : Drive :=
  cond (d.phase == 1) (cond (decide (1 < d.left)) ⟨d.phase, d.left - 1, d.held⟩ (cond d.held ⟨2, 0, true⟩ (restF c)))
    (cond (d.phase == 2) ⟨d.phase, (d.left + 1) % (c.on + c.off), d.held⟩
      (cond (d.phase == 3) (cond (decide (1 < d.left)) ⟨d.phase, d.left - 1, d.held⟩ idle) idle))
def onB (c : Coil) (d : Drive) : Bool := cond (d.phase == 1) true (cond (d.phase == 2) (decide (d.left < c.on)) false)
theorem fits_phase {c : Coil} {d : Drive} (h : fitsB c d = true) : (d.phase = 0 ∧ d.left = 0 ∧ d.held = false) ∨ (d.phase = 1 ∧ 1 ≤ d.left ∧ d.left ≤ c.pulse ∧ (d.held = true → 0 < c.on)) ∨
    (d.phase = 2 ∧ 0 < c.on ∧ 0 ≤ d.left ∧ d.left < c.on + c.off ∧ d.held = true) ∨ (d.phase = 3 ∧ 1 ≤ d.left ∧ d.left ≤ c.rest ∧ d.held = false) := by
  unfold fitsB at h
  cases h0 : (d.phase == 0) with
  | true =>
    rw [h0, cond_true, Bool.and_eq_true, beq_iff_eq, Bool.not_eq_true'] at h
    exact .inl ⟨by simpa using h0, h.1, h.2⟩
  | false =>
    rw [h0, cond_false] at h
    cases h1 : (d.phase == 1) with
    | true =>
      rw [h1, cond_true, Bool.and_eq_true, Bool.and_eq_true, Bool.or_eq_true, Bool.not_eq_true', decide_eq_true_eq, decide_eq_true_eq, decide_eq_true_eq] at h
      exact .inr (.inl ⟨by simpa using h1, h.1.1, h.1.2, fun hh => h.2.resolve_left (by rw [hh]; exact Bool.noConfusion)⟩)
    | false =>
      rw [h1, cond_false] at h
      cases h2 : (d.phase == 2) with
      | true =>
        rw [h2, cond_true, Bool.and_eq_true, Bool.and_eq_true, Bool.and_eq_true, decide_eq_true_eq, decide_eq_true_eq, decide_eq_true_eq] at h
        exact .inr (.inr (.inl ⟨by simpa using h2, h.1.1.1, h.1.1.2, h.1.2, h.2⟩))
      | false =>
        rw [h2, cond_false] at h
        cases h3 : (d.phase == 3) with
        | true =>
          rw [h3, cond_true, Bool.and_eq_true, Bool.and_eq_true, Bool.not_eq_true', decide_eq_true_eq, decide_eq_true_eq] at h
          exact .inr (.inr (.inr ⟨by simpa using h3, h.1.1, h.1.2, h.2⟩))
        | false =>
          rw [h3, cond_false] at h
          exact Bool.noConfusion h

theorem next_idle (p on off r f u : Int) (w : World) :
    Calls Try.prog 70 #[.agg #[.int .i64 p, .int .i64 on, .int .i64 off, .int .i64 r, .int .i64 f, .int .i64 u], .agg #[.int .i64 0, .int .i64 0, .bool false]] w fun e w' =>
    e = .returned (.tuple #[.agg #[.int .i64 0, .int .i64 0, .bool false], .bool false]) ∧ Below w.heap.size w w' := by
  go_enter Try.func70, Try.ntmps70
  go_wp2
  refine bodyPost_ret (v := .tuple #[.agg #[.int .i64 0, .int .i64 0, .bool false], .bool false]) (by simp [results, Try.results70, go_sem]) rfl ⟨rfl, ?_⟩
  repeat (refine Below.setCell ?_ (by first | exact Nat.le_add_right _ 1 | exact Nat.le_add_right _ 2) _)
  exact (((Below.refl _ w).alloc (Nat.le_refl _) _).alloc (by simp) _).alloc (by simp; omega) _
set_option maxHeartbeats 1600000 in
theorem next_pulse (p on off r f u l : Int) (h : Bool) (l1 : 1 ≤ l) (l2 : l ≤ 1000) (w : World) :
    Calls Try.prog 70 #[.agg #[.int .i64 p, .int .i64 on, .int .i64 off, .int .i64 r, .int .i64 f, .int .i64 u], .agg #[.int .i64 1, .int .i64 l, .bool h]] w fun e w' =>
    e = .returned (.tuple #[.agg #[.int .i64 (nextF ⟨p, on, off, r, f, u⟩ ⟨1, l, h⟩).phase, .int .i64 (nextF ⟨p, on, off, r, f, u⟩ ⟨1, l, h⟩).left, .bool (nextF ⟨p, on, off, r, f, u⟩ ⟨1, l, h⟩).held], .bool true]) ∧ Below w.heap.size w w' := by
  cases hl : decide (1 < l) with
  | true =>
    have HX := Lib.hid (show nextF ⟨p, on, off, r, f, u⟩ ⟨1, l, h⟩ = ⟨1, l - 1, h⟩ by show cond (decide (1 < l)) _ _ = _; rw [hl]; rfl)
    go_enter Try.func70, Try.ntmps70
    go_wp2
    refine bodyPost_ret (v := .tuple #[.agg #[.int .i64 1, .int .i64 (l - 1), .bool h], .bool true]) (by simp [results, Try.results70, go_sem]) rfl ⟨by rw [HX.out], ?_⟩
    repeat (refine Below.setCell ?_ (by first | exact Nat.le_add_right _ 1 | exact Nat.le_add_right _ 2) _)
    exact (((Below.refl _ w).alloc (Nat.le_refl _) _).alloc (by simp) _).alloc (by simp; omega) _
  | false =>
    cases h with
    | true =>
      have HX := Lib.hid (show nextF ⟨p, on, off, r, f, u⟩ ⟨1, l, true⟩ = ⟨2, 0, true⟩ by show cond (decide (1 < l)) _ _ = _; rw [hl]; rfl)
      go_enter Try.func70, Try.ntmps70
      go_wp2
      refine bodyPost_ret (v := .tuple #[.agg #[.int .i64 2, .int .i64 0, .bool true], .bool true]) (by simp [results, Try.results70, go_sem]) rfl ⟨by rw [HX.out], ?_⟩
      repeat (refine Below.setCell ?_ (by first | exact Nat.le_add_right _ 1 | exact Nat.le_add_right _ 2) _)
      exact (((Below.refl _ w).alloc (Nat.le_refl _) _).alloc (by simp) _).alloc (by simp; omega) _
    | false =>
      have HX := Lib.hid (show nextF ⟨p, on, off, r, f, u⟩ ⟨1, l, false⟩ = restF ⟨p, on, off, r, f, u⟩ by show cond (decide (1 < l)) _ _ = _; rw [hl]; rfl)
      go_enter Try.func70, Try.ntmps70
      go_wp2_with fail
      refine (resting_any _ _ _ _ _ _ _).mono ?_
      rintro e w1 ⟨rfl, hb1⟩
      obtain ⟨hc1, hf1⟩ := bcell hb1
      have u0 : w1.cell? ⟨w.heap.size + 1 + 1, 0, none⟩ = some (.int .i64 0) := by rw [hc1 _ _ (by simp)]; simp [go_sem]
      have u1 : w1.cell? ⟨w.heap.size + 1 + 1, 1, none⟩ = some (.int .i64 0) := by rw [hc1 _ _ (by simp)]; simp [go_sem]
      have u2 : w1.cell? ⟨w.heap.size + 1 + 1, 2, none⟩ = some (.bool false) := by rw [hc1 _ _ (by simp)]; simp [go_sem]
      have Hb1 := Lib.hid (show Below w.heap.size w w1 from ((((Below.refl _ w).alloc (Nat.le_refl _) _).alloc (by simp) _).alloc (by simp; omega) _).trans (hb1.mono (by simp; omega)))
      clear hb1
      generalize restF ⟨p, on, off, r, f, u⟩ = X at *
      go_wp2
      refine bodyPost_ret (v := .tuple #[.agg #[.int .i64 X.phase, .int .i64 X.left, .bool X.held], .bool true]) (by simp [results, Try.results70, go_sem, u0, u1, u2]) rfl ⟨by rw [HX.out], ?_⟩
      repeat (refine Below.setCell ?_ (by first | exact Nat.le_add_right _ 1 | exact Nat.le_add_right _ 2) _)
      exact Hb1.out
set_option maxHeartbeats 1600000 in
theorem next_hold (p on off r f u l : Int) (h : Bool) (l1 : 0 ≤ l) (l2 : l ≤ 1000) (o1 : 0 < on) (o2 : on ≤ 16) (o3 : 0 ≤ off) (o4 : off ≤ 16) (w : World) :
    Calls Try.prog 70 #[.agg #[.int .i64 p, .int .i64 on, .int .i64 off, .int .i64 r, .int .i64 f, .int .i64 u], .agg #[.int .i64 2, .int .i64 l, .bool h]] w fun e w' =>
    e = .returned (.tuple #[.agg #[.int .i64 2, .int .i64 ((l + 1) % (on + off)), .bool h], .bool (decide (l < on))]) ∧ Below w.heap.size w w' := by
  obtain ⟨m, hm⟩ : ∃ m, (l + 1) % (on + off) = m := ⟨_, rfl⟩
  have m1 : 0 ≤ m := by rw [← hm]; exact Int.emod_nonneg _ (by omega)
  have m2 : m < on + off := by rw [← hm]; exact Int.emod_lt_of_pos _ (by omega)
  have ne : (on + off == 0) = false := by rw [beq_eq_false_iff_ne]; omega
  have ne' : ¬ (on + off = 0) := by omega
  have tm : Int.tmod (l + 1) (on + off) = m := by rw [← hm]; exact Int.tmod_eq_emod_of_nonneg (by omega)
  rw [hm]
  go_enter Try.func70, Try.ntmps70
  go_wp2
  refine bodyPost_ret (v := .tuple #[.agg #[.int .i64 2, .int .i64 m, .bool h], .bool (decide (l < on))]) (by simp [results, Try.results70, go_sem]) rfl ⟨rfl, ?_⟩
  repeat (refine Below.setCell ?_ (by first | exact Nat.le_add_right _ 1 | exact Nat.le_add_right _ 2) _)
  exact (((Below.refl _ w).alloc (Nat.le_refl _) _).alloc (by simp) _).alloc (by simp; omega) _
set_option maxHeartbeats 1600000 in
theorem next_rest (p on off r f u l : Int) (h : Bool) (l1 : 1 ≤ l) (l2 : l ≤ 1000) (w : World) :
    Calls Try.prog 70 #[.agg #[.int .i64 p, .int .i64 on, .int .i64 off, .int .i64 r, .int .i64 f, .int .i64 u], .agg #[.int .i64 3, .int .i64 l, .bool h]] w fun e w' =>
    e = .returned (.tuple #[.agg #[.int .i64 (nextF ⟨p, on, off, r, f, u⟩ ⟨3, l, h⟩).phase, .int .i64 (nextF ⟨p, on, off, r, f, u⟩ ⟨3, l, h⟩).left, .bool (nextF ⟨p, on, off, r, f, u⟩ ⟨3, l, h⟩).held], .bool false]) ∧ Below w.heap.size w w' := by
  cases hl : decide (1 < l) with
  | true =>
    have HX := Lib.hid (show nextF ⟨p, on, off, r, f, u⟩ ⟨3, l, h⟩ = ⟨3, l - 1, h⟩ by show cond (decide (1 < l)) _ _ = _; rw [hl]; rfl)
    go_enter Try.func70, Try.ntmps70
    go_wp2
    refine bodyPost_ret (v := .tuple #[.agg #[.int .i64 3, .int .i64 (l - 1), .bool h], .bool false]) (by simp [results, Try.results70, go_sem]) rfl ⟨by rw [HX.out], ?_⟩
    repeat (refine Below.setCell ?_ (by first | exact Nat.le_add_right _ 1 | exact Nat.le_add_right _ 2) _)
    exact (((Below.refl _ w).alloc (Nat.le_refl _) _).alloc (by simp) _).alloc (by simp; omega) _
  | false =>
    have HX := Lib.hid (show nextF ⟨p, on, off, r, f, u⟩ ⟨3, l, h⟩ = idle by show cond (decide (1 < l)) _ _ = _; rw [hl]; rfl)
    go_enter Try.func70, Try.ntmps70
    go_wp2
    refine bodyPost_ret (v := .tuple #[.agg #[.int .i64 0, .int .i64 0, .bool false], .bool false]) (by simp [results, Try.results70, go_sem]) rfl ⟨by rw [HX.out]; rfl, ?_⟩
    repeat (refine Below.setCell ?_ (by first | exact Nat.le_add_right _ 1 | exact Nat.le_add_right _ 2) _)
    exact (((Below.refl _ w).alloc (Nat.le_refl _) _).alloc (by simp) _).alloc (by simp; omega) _
theorem next_c (c : Coil) (d : Drive) (hc : goodB c = true) (hd : fitsB c d = true) (w : World) :
    Calls Try.prog 70 #[.agg #[.int .i64 c.pulse, .int .i64 c.on, .int .i64 c.off, .int .i64 c.rest, .int .i64 c.fuse, .int .i64 c.cur], .agg #[.int .i64 d.phase, .int .i64 d.left, .bool d.held]] w fun e w' =>
    e = .returned (.tuple #[.agg #[.int .i64 (nextF c d).phase, .int .i64 (nextF c d).left, .bool (nextF c d).held], .bool (onB c d)]) ∧ Below w.heap.size w w' := by
  have hg := (goodB_iff c).1 hc
  obtain ⟨q, l, h⟩ := d
  rcases fits_phase hd with ⟨rfl, rfl, rfl⟩ | ⟨rfl, h1, h2, h3⟩ | ⟨rfl, h1, h2, h3, h4⟩ | ⟨rfl, h1, h2, h3⟩
  · exact next_idle c.pulse c.on c.off c.rest c.fuse c.cur w
  · replace h1 : 1 ≤ l := h1
    replace h2 : l ≤ c.pulse := h2
    exact next_pulse c.pulse c.on c.off c.rest c.fuse c.cur l h h1 (by omega) w
  · replace h2 : 0 ≤ l := h2
    replace h3 : l < c.on + c.off := h3
    exact next_hold c.pulse c.on c.off c.rest c.fuse c.cur l h h2 (by omega) h1 (by omega) (by omega) (by omega) w
  · replace h1 : 1 ≤ l := h1
    replace h2 : l ≤ c.rest := h2
    exact next_rest c.pulse c.on c.off c.rest c.fuse c.cur l h h1 (by omega) w
/-- What fits goes on fitting. -/
theorem rest_fits {c : Coil} (hc : goodB c = true) : fitsB c (restF c) = true := by
  have hg := (goodB_iff c).1 hc
  unfold restF
  cases h : (c.rest == 0) with
  | true => rfl
  | false =>
    have h0 : c.rest ≠ 0 := by simpa using h
    show (decide (1 ≤ c.rest) && decide (c.rest ≤ c.rest) && true) = true
    simp; omega
theorem next_fits {c : Coil} {d : Drive} (hc : goodB c = true) (hd : fitsB c d = true) : fitsB c (nextF c d) = true := by
  have hg := (goodB_iff c).1 hc
  obtain ⟨q, l, h⟩ := d
  rcases fits_phase hd with ⟨rfl, rfl, rfl⟩ | ⟨rfl, h1, h2, h3⟩ | ⟨rfl, h1, h2, h3, h4⟩ | ⟨rfl, h1, h2, h3⟩
  · rfl
  · replace h1 : 1 ≤ l := h1
    replace h2 : l ≤ c.pulse := h2
    show fitsB c (cond (decide (1 < l)) ⟨1, l - 1, h⟩ (cond h ⟨2, 0, true⟩ (restF c))) = true
    cases hl : decide (1 < l) with
    | true =>
      have hl' : 1 < l := of_decide_eq_true hl
      show (decide (1 ≤ l - 1) && decide (l - 1 ≤ c.pulse) && (!h || decide (0 < c.on))) = true
      rw [decide_eq_true (by omega), decide_eq_true (by omega)]
      cases h with
      | false => rfl
      | true => show decide (0 < c.on) = true; exact decide_eq_true (h3 rfl)
    | false =>
      cases h with
      | false => exact rest_fits hc
      | true =>
        have := h3 rfl
        show (decide (0 < c.on) && decide ((0 : Int) ≤ 0) && decide (0 < c.on + c.off) && true) = true
        rw [decide_eq_true (by omega), decide_eq_true (by omega), decide_eq_true (by omega)]; rfl
  · replace h2 : 0 ≤ l := h2
    replace h3 : l < c.on + c.off := h3
    replace h4 : h = true := h4
    subst h4
    show (decide (0 < c.on) && decide (0 ≤ (l + 1) % (c.on + c.off)) && decide ((l + 1) % (c.on + c.off) < c.on + c.off) && true) = true
    rw [decide_eq_true h1, decide_eq_true (Int.emod_nonneg _ (by omega)), decide_eq_true (Int.emod_lt_of_pos _ (by omega))]; rfl
  · replace h1 : 1 ≤ l := h1
    replace h2 : l ≤ c.rest := h2
    replace h3 : h = false := h3
    subst h3
    show fitsB c (cond (decide (1 < l)) ⟨3, l - 1, false⟩ idle) = true
    cases hl : decide (1 < l) with
    | true =>
      have hl' : 1 < l := of_decide_eq_true hl
      show (decide (1 ≤ l - 1) && decide (l - 1 ≤ c.rest) && true) = true
      rw [decide_eq_true (by omega), decide_eq_true (by omega)]; rfl
    | false => rfl
end Go.Proofs.Ytfgkljfoalgkaaa
