/-
  Plain laws of the readings: which switches are read, what faults and diodes do to them. No program in sight.
-/
import Derived.Test.YtpboblanjngeeaaGraph
namespace Go.Proofs.Ytpboblanjngeeaa
def phys (s b x : BitVec 64) : BitVec 64 := (x ||| s) &&& ~~~b
def scanTo (on bk : BitVec 64) : Nat → BitVec 64
  | 0 => 0#64
  | k + 1 => scanTo on bk k ||| ((reachB on bk k).setWidth 64 <<< (8 * k))
def scanB (s b d x : BitVec 64) : BitVec 64 := scanTo (phys s b x) (phys s b x &&& d) 8
def ghostB (s b d x : BitVec 64) : BitVec 64 := scanB s b d x &&& ~~~phys s b x
def colB (s b d x : BitVec 64) (c : Nat) : BitVec 8 := reachB (phys s b x) (phys s b x &&& d) c

theorem scanTo_bit (on bk : BitVec 64) : ∀ k, k ≤ 8 → ∀ n, (scanTo on bk k).getLsbD n = true ↔ n < 8 * k ∧ RowR on bk (n / 8) (n % 8)
  | 0, _, n => by simp [scanTo]
  | k + 1, hk, n => by
    have ih := scanTo_bit on bk k (by omega) n
    rw [scanTo, BitVec.getLsbD_or, Bool.or_eq_true, ih, BitVec.getLsbD_shiftLeft, BitVec.getLsbD_setWidth]
    simp only [Bool.and_eq_true, decide_eq_true_eq, Bool.not_eq_true', decide_eq_false_iff_not]
    constructor
    · rintro (⟨h1, h2⟩ | ⟨⟨h1, h2⟩, h3, h4⟩)
      · exact ⟨by omega, h2⟩
      · have hr := (reachB_bit on bk k (by omega) _).1 h4
        have h8 := hr.1
        have e1 : n / 8 = k := by omega
        have e2 : n % 8 = n - 8 * k := by omega
        rw [e1, e2]
        exact ⟨by omega, hr⟩
    · rintro ⟨h1, h2⟩
      by_cases h : n < 8 * k
      · exact .inl ⟨h, h2⟩
      · right
        have e1 : n / 8 = k := by omega
        have e2 : n % 8 = n - 8 * k := by omega
        rw [e1, e2] at h2
        exact ⟨⟨by omega, h⟩, by omega, (reachB_bit on bk k (by omega) _).2 h2⟩
theorem scanB_bit (s b d x : BitVec 64) (n : Nat) : (scanB s b d x).getLsbD n = true ↔ n < 64 ∧ RowR (phys s b x) (phys s b x &&& d) (n / 8) (n % 8) := by
  unfold scanB
  rw [scanTo_bit _ _ 8 (Nat.le_refl _)]

theorem RowR.direct {on bk : BitVec 64} {c r : Nat} (hr : r < 8) (h : on.getLsbD (8 * c + r) = true) : RowR on bk c r := ⟨hr, c, .refl, h⟩
theorem RC.mono {on bk on' bk' : BitVec 64} (h1 : ∀ n, on.getLsbD n = true → on'.getLsbD n = true) (h2 : ∀ n, bk.getLsbD n = true → bk'.getLsbD n = true) {c k : Nat} (h : RC on bk c k) : RC on' bk' c k := by
  induction h with
  | refl => exact .refl
  | step _ hr hb ho hk ih => exact .step ih hr hb (h1 _ ho) (h2 _ hk)
theorem RowR.mono {on bk on' bk' : BitVec 64} (h1 : ∀ n, on.getLsbD n = true → on'.getLsbD n = true) (h2 : ∀ n, bk.getLsbD n = true → bk'.getLsbD n = true) {c r : Nat} (h : RowR on bk c r) : RowR on' bk' c r :=
  ⟨h.1, h.2.imp fun _ ⟨ha, ho⟩ => ⟨ha.mono h1 h2, h1 _ ho⟩⟩

theorem sub_zero {a c : BitVec 64} (h : ∀ n, a.getLsbD n = true → c.getLsbD n = true) : a &&& ~~~c = 0#64 := by
  apply BitVec.eq_of_getLsbD_eq
  intro i hi
  rw [BitVec.getLsbD_and, BitVec.getLsbD_not, BitVec.getLsbD_zero]
  cases ha : a.getLsbD i with
  | false => rfl
  | true => rw [h i ha]; simp
theorem phys_scan (s b d x : BitVec 64) (n : Nat) (h : (phys s b x).getLsbD n = true) : (scanB s b d x).getLsbD n = true := by
  have h64 : n < 64 := Classical.byContradiction fun hn => by
    rw [BitVec.getLsbD_of_ge _ _ (by omega)] at h; exact Bool.noConfusion h
  refine (scanB_bit s b d x n).2 ⟨h64, .direct (Nat.mod_lt _ (by decide)) ?_⟩
  rw [show 8 * (n / 8) + n % 8 = n by omega]; exact h

/-! Clean -/
theorem RC.none {on : BitVec 64} {c k : Nat} (h : RC on 0#64 c k) : k = c := by
  cases h with
  | refl => rfl
  | step _ _ _ _ hb => simp at hb
theorem clean_scan (s b x : BitVec 64) : scanB s b 0#64 x = phys s b x := by
  apply BitVec.eq_of_getLsbD_eq
  intro i hi
  rw [Bool.eq_iff_iff]
  refine ⟨fun h => ?_, phys_scan s b 0#64 x i⟩
  obtain ⟨_, _, a, ha, ho⟩ := (scanB_bit _ _ _ _ _).1 h
  have e : phys s b x &&& 0#64 = 0#64 := BitVec.and_zero
  rw [e] at ha
  rw [ha.none, show 8 * (i / 8) + i % 8 = i by omega] at ho
  exact ho
theorem clean_ghost (s b x : BitVec 64) : ghostB s b 0#64 x = 0#64 := by
  unfold ghostB; rw [clean_scan]; exact sub_zero fun _ h => h
theorem clean_sub (s b d x : BitVec 64) : phys s b x &&& ~~~scanB s b d x = 0#64 := sub_zero (phys_scan s b d x)

/-! Monotone -/
theorem phys_mono (s b x y : BitVec 64) (n : Nat) (h : (phys s b x).getLsbD n = true) : (phys s b (x ||| y)).getLsbD n = true := by
  unfold phys at h ⊢
  rw [BitVec.getLsbD_and, BitVec.getLsbD_or, Bool.and_eq_true, Bool.or_eq_true] at h
  rw [BitVec.getLsbD_and, BitVec.getLsbD_or, BitVec.getLsbD_or, Bool.and_eq_true, Bool.or_eq_true, Bool.or_eq_true]
  exact ⟨h.1.imp .inl id, h.2⟩
theorem mono_closed (s b d x y : BitVec 64) : scanB s b d x &&& ~~~scanB s b d (x ||| y) = 0#64 := sub_zero fun n h => by
  obtain ⟨h1, h2⟩ := (scanB_bit _ _ _ _ _).1 h
  refine (scanB_bit _ _ _ _ _).2 ⟨h1, h2.mono (phys_mono s b x y) fun m hm => ?_⟩
  rw [BitVec.getLsbD_and, Bool.and_eq_true] at hm ⊢
  exact ⟨phys_mono s b x y m hm.1, hm.2⟩
theorem mono_diodes (s b d e x : BitVec 64) : scanB s b d x &&& ~~~scanB s b (d ||| e) x = 0#64 := sub_zero fun n h => by
  obtain ⟨h1, h2⟩ := (scanB_bit _ _ _ _ _).1 h
  refine (scanB_bit _ _ _ _ _).2 ⟨h1, h2.mono (fun _ h => h) fun m hm => ?_⟩
  rw [BitVec.getLsbD_and, Bool.and_eq_true] at hm ⊢
  rw [BitVec.getLsbD_or, hm.2]
  exact ⟨hm.1, rfl⟩

/-! Three -/
theorem ghost_bit (s b d x : BitVec 64) (n : Nat) : (ghostB s b d x).getLsbD n = true ↔ n < 64 ∧ RowR (phys s b x) (phys s b x &&& d) (n / 8) (n % 8) ∧ (phys s b x).getLsbD n = false := by
  unfold ghostB
  rw [BitVec.getLsbD_and, BitVec.getLsbD_not, Bool.and_eq_true, scanB_bit]
  constructor
  · rintro ⟨⟨h1, h2⟩, h3⟩; simp [h1] at h3; exact ⟨h1, h2, by rw [BitVec.getLsbD_eq_getElem h1]; exact h3⟩
  · rintro ⟨h1, h2, h3⟩; exact ⟨⟨h1, h2⟩, by rw [h3]; simp [h1]⟩
/-- A reached column has a way out of the first and a way in over a missing diode. -/
theorem RC.ends {on bk : BitVec 64} {c k : Nat} (h : RC on bk c k) : k = c ∨ ((∃ r, r < 8 ∧ on.getLsbD (8 * c + r) = true) ∧ ∃ r, r < 8 ∧ k < 8 ∧ bk.getLsbD (8 * k + r) = true) := by
  induction h with
  | refl => exact .inl rfl
  | step _ hr hb ho hk ih =>
    right
    rcases ih with rfl | ⟨h1, _⟩
    · exact ⟨⟨_, hr, ho⟩, _, hr, hb, hk⟩
    · exact ⟨h1, _, hr, hb, hk⟩
/-- A ghost: three switches that are closed: one in its column, one whose diode is missing, one in its row; the three differ. -/
theorem three (on d : BitVec 64) (c r : Nat) (h : RowR on (on &&& d) c r) (hn : on.getLsbD (8 * c + r) = false) :
    ∃ r1 k r2, r1 < 8 ∧ k < 8 ∧ r2 < 8 ∧ k ≠ c ∧ r1 ≠ r ∧ r2 ≠ r ∧ on.getLsbD (8 * c + r1) = true ∧ (on &&& d).getLsbD (8 * k + r2) = true ∧ on.getLsbD (8 * k + r) = true := by
  obtain ⟨hr, k, hk, ho⟩ := h
  have hkc : k ≠ c := fun e => by rw [e, hn] at ho; exact Bool.noConfusion ho
  -- the first column on the way that has the row: take the way to it
  induction hk with
  | refl => exact absurd rfl hkc
  | step ha hr' hb hoa hbk ih =>
    rename_i a b r'
    by_cases hra : on.getLsbD (8 * a + r) = true
    · by_cases hac : a = c
      · rw [hac, hn] at hra; exact Bool.noConfusion hra
      · exact ih hra hac
    · have hr'r : r' ≠ r := fun e => by rw [e] at hoa; exact hra hoa
      rcases ha.ends with hac | ⟨⟨r1, hr1, ho1⟩, _⟩
      · rw [hac] at hoa
        exact ⟨r', b, r', hr', hb, hr', hkc, hr'r, hr'r, hoa, hbk, ho⟩
      · refine ⟨r1, b, r', hr1, hb, hr', hkc, fun e => ?_, hr'r, ho1, hbk, ho⟩
        rw [e, hn] at ho1; exact Bool.noConfusion ho1

/-! Shared -/
theorem RC.trans {on bk : BitVec 64} {a b c : Nat} (h : RC on bk a b) (h' : RC on bk b c) : RC on bk a c := by
  induction h' with
  | refl => exact h
  | step _ hr hb ho hk ih => exact .step ih hr hb ho hk
theorem RC.sym {on : BitVec 64} {a b : Nat} (ha : a < 8) (h : RC on on a b) : RC on on b a := by
  induction h with
  | refl => exact .refl
  | step h1 hr hb ho hk ih => exact (RC.step .refl hr (h1.lt ha) hk ho).trans ih
theorem shared_rows (on : BitVec 64) (a c r r' : Nat) (ha : a < 8) (h1 : RowR on on a r) (h2 : RowR on on c r) (h : RowR on on a r') : RowR on on c r' := by
  obtain ⟨hr, k1, g1, o1⟩ := h1
  obtain ⟨_, k2, g2, o2⟩ := h2
  obtain ⟨hr', k3, g3, o3⟩ := h
  -- c to k2 by the row to k1 to a to k3
  exact ⟨hr', k3, (g2.trans (.step .refl hr (g1.lt ha) o2 o1)).trans ((g1.sym ha).trans g3), o3⟩
theorem shared (on : BitVec 64) (a c : Nat) (ha : a < 8) (hc : c < 8) (h : reachB on on a &&& reachB on on c ≠ 0#8) : reachB on on a = reachB on on c := by
  obtain ⟨r, _, hb⟩ := ne_zero_bit _ h
  rw [BitVec.getLsbD_and, Bool.and_eq_true, reachB_bit on on a ha, reachB_bit on on c hc] at hb
  apply BitVec.eq_of_getLsbD_eq
  intro i _
  rw [Bool.eq_iff_iff, reachB_bit on on a ha, reachB_bit on on c hc]
  exact ⟨shared_rows on a c r i ha hb.1 hb.2, shared_rows on c a r i hc hb.2 hb.1⟩
end Go.Proofs.Ytpboblanjngeeaa
