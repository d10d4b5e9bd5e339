/-
  What the rows of this seat need more: drives, orders, lists of lists of orders, scenes, opened.
-/
import Derived.Test.YtfgkljfoalgkaaaRow2
import Derived.Test.YtfgkljfoalgkaaaRData
namespace Go.Proofs.Ytfgkljfoalgkaaa
open Go.ChangeShapes Go.WideShapes Go.ChangeAt Go.RowKit Go.Joins Go.Deep

theorem Try.cells23 : Try.prog.cellsOf 23 = 1 := by kernel_rfl
theorem Try.cells50 : Try.prog.cellsOf 50 = 2 := by kernel_rfl
theorem Try.cells76 : Try.prog.cellsOf 76 = 2 := by kernel_rfl
section
variable {H : Type} {enc : TypeId × Value → H} {Wo : World} {base : Nat} {sp : Nat → Bool} {held : Bool} {r : Reach} {b0 : Nat} {v : Value} {d : DataW H} {p : List MemPlace} {fuel : Nat} {x : DataW H × List MemPlace}
theorem order_len (x : Order) : (Order.cells x).length = 2 := rfl
theorem rows_order {a0 : Option Addr} {len0 cap0 : Nat} (h : DataW.trod enc Try.prog Wo base sp held fuel 23 [.slice a0 len0 cap0] = some x) : ∃ E, HoldsO Wo (.slice a0 len0 cap0) len0 E := by
  refine open_rows ⟨0, 0⟩ Try.underlying23 Try.underlying43 (by kernel_rfl) Try.cells43 rfl order_len (by decide) (fun V hV => ?_) h
  obtain ⟨n0, y0, h0⟩ := hV 0 _ rfl
  obtain ⟨n1, y1, h1⟩ := hV 1 _ rfl
  obtain ⟨q0, e0⟩ := trod_i64 h0
  obtain ⟨q1, e1⟩ := trod_i64 h1
  refine ⟨⟨q0, q1⟩, fun k u hu => ?_⟩
  match k, hu with
  | 0, hu => simp [Order.cells] at hu; rw [e0, hu]
  | 1, hu => simp [Order.cells] at hu; rw [e1, hu]
  | k + 2, hu => simp [Order.cells] at hu
theorem rows_drive {a0 : Option Addr} {len0 cap0 : Nat} (h : DataW.trod enc Try.prog Wo base sp held fuel 27 [.slice a0 len0 cap0] = some x) : ∃ E, HoldsD Wo (.slice a0 len0 cap0) len0 E := by
  refine open_rows ⟨0, 0, false⟩ Try.underlying27 Try.underlying34 (by kernel_rfl) Try.cells34 rfl drive_len (by decide) (fun V hV => ?_) h
  obtain ⟨n0, y0, h0⟩ := hV 0 _ rfl
  obtain ⟨n1, y1, h1⟩ := hV 1 _ rfl
  obtain ⟨n2, y2, h2⟩ := hV 2 _ rfl
  obtain ⟨q0, e0⟩ := trod_i64 h0
  obtain ⟨q1, e1⟩ := trod_i64 h1
  obtain ⟨q2, e2⟩ := trod_b h2
  refine ⟨⟨q0, q1, q2⟩, fun k u hu => ?_⟩
  match k, hu with
  | 0, hu => simp [Drive.cells] at hu; rw [e0, hu]
  | 1, hu => simp [Drive.cells] at hu; rw [e1, hu]
  | 2, hu => simp [Drive.cells] at hu; rw [e2, hu]
  | k + 3, hu => simp [Drive.cells] at hu
theorem rows_lists {a0 : Option Addr} {len0 cap0 : Nat} (h : DataW.trod enc Try.prog Wo base sp held fuel 22 [.slice a0 len0 cap0] = some x) : ∃ L, HoldsL Wo (.slice a0 len0 cap0) len0 L := by
  classical
  rcases open_slice1 Try.underlying22 Try.cells23 h with ⟨hc, _⟩ | ⟨a, len, cap, m, k, V0, D0, P0, hc, _, hl, hm, hmm, _, hall⟩
  · simp at hc
    obtain ⟨rfl, rfl, rfl⟩ := hc
    exact ⟨fun _ => ⟨none, 0, 0, fun _ => ⟨0, 0⟩⟩, ⟨none, 0, rfl, .inl rfl⟩, fun j hj => absurd hj (by omega)⟩
  · simp at hc
    obtain ⟨rfl, rfl, rfl⟩ := hc
    have hlm : len0 ≤ m := by rw [hmm]; split <;> omega
    have hx : ∀ i, i < len0 → ∃ l : OL, V0 i = l.v ∧ HoldsO Wo l.v l.n l.os := by
      intro i hi
      obtain ⟨a', l', c', e⟩ := slice_of_trod Try.underlying23 (hall i (by omega)).2
      have h2 := (hall i (by omega)).2
      rw [e] at h2
      obtain ⟨E, hE⟩ := rows_order h2
      exact ⟨⟨a', l', c', E⟩, e, hE⟩
    refine ⟨fun i => if hi : i < len0 then Classical.choose (hx i hi) else ⟨none, 0, 0, fun _ => ⟨0, 0⟩⟩, ⟨some a, cap0, rfl, ?_⟩, fun j hj => ?_⟩
    · by_cases h0 : len0 = 0
      · exact .inl h0
      right
      have hc0 := (hall 0 (by omega)).1
      obtain ⟨b, off, spot⟩ := a
      have hspot : spot = none := by simpa [Addr.add] using World.cell?_spot hc0
      subst hspot
      refine ⟨b, off, rfl, World.block_lt_of_cell? _ _ hc0, fun j hj k u hu => ?_⟩
      have h1 := (hall j (by omega)).1
      rw [Go.WideShapes.add_plain] at h1
      have hk : k = 0 := by
        have := (List.getElem?_eq_some_iff.1 hu).1
        simp at this
        exact this
      subst hk
      have e : (if hi : j < len0 then Classical.choose (hx j hi) else (⟨none, 0, 0, fun _ => ⟨0, 0⟩⟩ : OL)) = Classical.choose (hx j hj) := dif_pos hj
      have hu2 : ([OL.v (if hi : j < len0 then Classical.choose (hx j hi) else ⟨none, 0, 0, fun _ => ⟨0, 0⟩⟩)] : List Value)[0]? = some u := hu
      rw [e] at hu2
      simp at hu2
      rw [Nat.mul_one, Nat.add_zero, ← hu2, ← (Classical.choose_spec (hx j hj)).1]
      exact h1
    · show HoldsO Wo (OL.v (if hi : j < len0 then Classical.choose (hx j hi) else ⟨none, 0, 0, fun _ => ⟨0, 0⟩⟩)) _ _
      have e : (if hi : j < len0 then Classical.choose (hx j hi) else (⟨none, 0, 0, fun _ => ⟨0, 0⟩⟩ : OL)) = Classical.choose (hx j hj) := dif_pos hj
      simp only [e]
      exact (Classical.choose_spec (hx j hj)).2
set_option maxRecDepth 100000 in
theorem open_scene (hv : Value.okWide Try.prog Wo r b0 50 v) (h : DataW.Trod enc Try.prog Wo base sp held 50 v d p) :
    ∃ v1 v2 n nt C L, v = .agg #[v1, v2] ∧ HoldsC Wo v1 n C ∧ HoldsL Wo v2 nt L := by
  obtain ⟨c0, c1, y0, y1, k, rfl, rfl, rfl, h0, h1⟩ := open_agg2 Try.underlying50 (by kernel_rfl) Try.cells50 hv h
  obtain ⟨a, l, c, rfl⟩ := slice_of_trod Try.underlying32 h0
  obtain ⟨a', l', c', rfl⟩ := slice_of_trod Try.underlying22 h1
  obtain ⟨C, hC⟩ := rows_coil h0
  obtain ⟨L, hL⟩ := rows_lists h1
  exact ⟨_, _, l, l', C, L, rfl, hC, hL⟩
set_option maxRecDepth 100000 in
theorem open_wiring (hv : Value.okWide Try.prog Wo r b0 76 v) (h : DataW.Trod enc Try.prog Wo base sp held 76 v d p) :
    ∃ v1 v2 n nt C L, v = .agg #[v1, v2] ∧ HoldsC Wo v1 n C ∧ HoldsL Wo v2 nt L := by
  obtain ⟨c0, c1, y0, y1, k, rfl, rfl, rfl, h0, h1⟩ := open_agg2 Try.underlying76 (by kernel_rfl) Try.cells76 hv h
  obtain ⟨a, l, c, rfl⟩ := slice_of_trod Try.underlying32 h0
  obtain ⟨a', l', c', rfl⟩ := slice_of_trod Try.underlying22 h1
  obtain ⟨C, hC⟩ := rows_coil h0
  obtain ⟨L, hL⟩ := rows_lists h1
  exact ⟨_, _, l, l', C, L, rfl, hC, hL⟩
set_option maxRecDepth 100000 in
theorem open_coils (hv : Value.okWide Try.prog Wo r b0 32 v) (h : DataW.Trod enc Try.prog Wo base sp held 32 v d p) : ∃ n C, HoldsC Wo v n C := by
  obtain ⟨a0, len0, cap0, rfl⟩ := okWide_slice Try.underlying32 hv
  obtain ⟨fuel, hf⟩ := h
  exact ⟨len0, rows_coil (show DataW.trod enc Try.prog Wo base sp held fuel 32 [.slice a0 len0 cap0] = some (d, p) from hf)⟩
set_option maxRecDepth 100000 in
theorem open_drives (hv : Value.okWide Try.prog Wo r b0 27 v) (h : DataW.Trod enc Try.prog Wo base sp held 27 v d p) : ∃ n D, HoldsD Wo v n D := by
  obtain ⟨a0, len0, cap0, rfl⟩ := okWide_slice Try.underlying27 hv
  obtain ⟨fuel, hf⟩ := h
  exact ⟨len0, rows_drive (show DataW.trod enc Try.prog Wo base sp held fuel 27 [.slice a0 len0 cap0] = some (d, p) from hf)⟩
set_option maxRecDepth 100000 in
theorem open_boolv (hv : Value.okWide Try.prog Wo r b0 4 v) : ∃ b : Bool, v = .bool b := by
  exact okWide_bool Try.underlying4 hv
end
end Go.Proofs.Ytfgkljfoalgkaaa
