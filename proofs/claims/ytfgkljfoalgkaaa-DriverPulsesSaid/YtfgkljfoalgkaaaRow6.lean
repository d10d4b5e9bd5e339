/-
  A list of bytes opened. No condition.
-/
import Derived.Test.YtfgkljfoalgkaaaRow5
import Derived.Test.YtfgkljfoalgkaaaBytes
namespace Go.Proofs.Ytfgkljfoalgkaaa
open Go.ChangeShapes Go.WideShapes Go.ChangeAt Go.RowKit Go.Joins Go.Deep

theorem Try.cells5 : Try.prog.cellsOf 5 = 1 := by kernel_rfl
section
variable {H : Type} {enc : TypeId × Value → H} {Wo : World} {base : Nat} {sp : Nat → Bool} {held : Bool} {r : Reach} {b0 : Nat} {v : Value} {d : DataW H} {p : List MemPlace}
theorem choose_u8 {n : Nat} {V : Nat → Value} (h : ∀ i, i < n → ∃ x : Int, V i = .int .u8 x ∧ 0 ≤ x ∧ x ≤ 255) : ∃ C : Nat → Int, ∀ i, i < n → V i = .int .u8 (C i) ∧ 0 ≤ C i ∧ C i ≤ 255 := by
  classical
  refine ⟨fun i => if hi : i < n then Classical.choose (h i hi) else 0, fun i hi => ?_⟩
  show V i = .int .u8 (if hi : i < n then Classical.choose (h i hi) else 0) ∧ 0 ≤ (if hi : i < n then Classical.choose (h i hi) else 0) ∧ (if hi : i < n then Classical.choose (h i hi) else 0) ≤ 255
  rw [dif_pos hi]
  exact Classical.choose_spec (h i hi)
set_option maxRecDepth 100000 in
theorem open_u8s (hv : Value.okWide Try.prog Wo r b0 58 v) (h : DataW.Trod enc Try.prog Wo base sp held 58 v d p) : ∃ n C, HoldsB Wo v n C := by
  obtain ⟨a0, len0, cap0, rfl⟩ := okWide_slice Try.underlying58 hv
  obtain ⟨fuel, hf⟩ := h
  have hf' : DataW.trod enc Try.prog Wo base sp held fuel 58 [.slice a0 len0 cap0] = some (d, p) := hf
  rcases open_slice1 Try.underlying58 Try.cells5 hf' with ⟨hc, _⟩ | ⟨a, len, cap, m, k, V0, D0, P0, hc, _, hl, hm, hmm, _, hall⟩
  · simp at hc
    obtain ⟨rfl, rfl, rfl⟩ := hc
    exact ⟨0, fun _ => 0, ⟨none, 0, rfl, .inl rfl⟩, fun i hi => absurd hi (by omega)⟩
  · simp at hc
    obtain ⟨rfl, rfl, rfl⟩ := hc
    have hlm : len0 ≤ m := by rw [hmm]; split <;> omega
    obtain ⟨C, hC⟩ := choose_u8 (n := len0) (V := V0) (fun i hi => by
      obtain ⟨x, e0, _, wf⟩ := DataW.trod_int Try.underlying5 (hall i (by omega)).2
      simp at e0
      simp [Lit.wf, IntKind.min, IntKind.max, IntKind.signed, IntKind.bits] at wf
      exact ⟨x, e0, by omega, by omega⟩)
    refine ⟨len0, C, ⟨some a, cap0, rfl, ?_⟩, fun i hi => (hC i hi).2⟩
    by_cases h0 : len0 = 0
    · exact .inl h0
    right
    have hc0 := (hall 0 (by omega)).1
    obtain ⟨b, off, spot⟩ := a
    have hspot : spot = none := by simpa [Addr.add] using World.cell?_spot hc0
    subst hspot
    refine ⟨b, off, rfl, ?_, fun j hj k u hu => ?_⟩
    · exact World.block_lt_of_cell? _ _ hc0
    · have h1 := (hall j (by omega)).1
      rw [Go.WideShapes.add_plain] at h1
      rw [(hC j hj).1] at h1
      match k, hu with
      | 0, hu =>
        simp [bcells] at hu
        rw [Nat.mul_one, Nat.add_zero, ← hu]
        exact h1
      | k + 1, hu => simp [bcells] at hu
end
end Go.Proofs.Ytfgkljfoalgkaaa
