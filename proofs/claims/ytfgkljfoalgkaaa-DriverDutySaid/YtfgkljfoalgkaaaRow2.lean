/-
  What the rows of this seat need more: lists of sets, small numbers, opened.
-/
import Derived.Test.YtfgkljfoalgkaaaRow
import Derived.Deep.SlicePairs
namespace Go.Proofs.Ytfgkljfoalgkaaa
open Go.ChangeShapes Go.WideShapes Go.ChangeAt Go.RowKit Go.Joins Go.Deep

theorem Try.cells46 : Try.prog.cellsOf 46 = 1 := by kernel_rfl
section
variable {H : Type} {enc : TypeId × Value → H} {Wo : World} {base : Nat} {sp : Nat → Bool} {held : Bool} {r : Reach} {b0 : Nat} {v : Value} {d : DataW H} {p : List MemPlace}
theorem choose_u32 {n : Nat} {V : Nat → Value} (h : ∀ i, i < n → ∃ x : BitVec 32, V i = .int .u32 (W x)) : ∃ C : Nat → BitVec 32, ∀ i, i < n → V i = .int .u32 (W (C i)) := by
  classical
  refine ⟨fun i => if hi : i < n then Classical.choose (h i hi) else 0#32, fun i hi => ?_⟩
  show V i = .int .u32 (W (if hi : i < n then Classical.choose (h i hi) else 0#32))
  rw [dif_pos hi]
  exact Classical.choose_spec (h i hi)
set_option maxRecDepth 100000 in
theorem open_u32s (hv : Value.okWide Try.prog Wo r b0 28 v) (h : DataW.Trod enc Try.prog Wo base sp held 28 v d p) : ∃ n C, HoldsW Wo v n C := by
  obtain ⟨a0, len0, cap0, rfl⟩ := okWide_slice Try.underlying28 hv
  obtain ⟨fuel, hf⟩ := h
  have hf' : DataW.trod enc Try.prog Wo base sp held fuel 28 [.slice a0 len0 cap0] = some (d, p) := hf
  rcases open_slice1 Try.underlying28 Try.cells46 hf' with ⟨hc, _⟩ | ⟨a, len, cap, m, k, V0, D0, P0, hc, _, hl, hm, hmm, _, hall⟩
  · simp at hc
    obtain ⟨rfl, rfl, rfl⟩ := hc
    exact ⟨0, fun _ => 0#32, none, 0, rfl, .inl rfl⟩
  · simp at hc
    obtain ⟨rfl, rfl, rfl⟩ := hc
    have hlm : len0 ≤ m := by rw [hmm]; split <;> omega
    obtain ⟨C, hC⟩ := choose_u32 (n := len0) (V := V0) (fun i hi => by
      obtain ⟨x, e0, _, wf⟩ := DataW.trod_int Try.underlying46 (hall i (by omega)).2
      simp at e0
      obtain ⟨y, rfl⟩ := u32_of_wf wf
      exact ⟨y, e0⟩)
    refine ⟨len0, C, some a, cap0, rfl, ?_⟩
    by_cases h0 : len0 = 0
    · exact .inl h0
    right
    have hc0 := (hall 0 (by omega)).1
    obtain ⟨b, off, spot⟩ := a
    have hspot : spot = none := by simpa [Addr.add] using World.cell?_spot hc0
    subst hspot
    refine ⟨b, off, rfl, ?_, fun j hj k u hu => ?_⟩
    · exact World.block_lt_of_cell? _ _ hc0
    · have h1 := (hall j (by omega)).1
      rw [Go.WideShapes.add_plain] at h1
      rw [hC j hj] at h1
      match k, hu with
      | 0, hu =>
        simp [wcells] at hu
        rw [Nat.mul_one, Nat.add_zero, ← hu]
        exact h1
      | k + 1, hu => simp [wcells] at hu
set_option maxRecDepth 100000 in
theorem open_u8 (hv : Value.okWide Try.prog Wo r b0 5 v) (h : DataW.Trod enc Try.prog Wo base sp held 5 v d p) : ∃ q : Int, v = .int .u8 q ∧ 0 ≤ q ∧ q ≤ 255 := by
  obtain ⟨q, rfl, rfl, rfl, w0⟩ := open_int Try.underlying5 hv h
  simp [Lit.wf, IntKind.min, IntKind.max, IntKind.signed, IntKind.bits] at w0
  exact ⟨q, rfl, by omega, by omega⟩
set_option maxRecDepth 100000 in
theorem open_u16 (hv : Value.okWide Try.prog Wo r b0 77 v) (h : DataW.Trod enc Try.prog Wo base sp held 77 v d p) : ∃ q : Int, v = .int .u16 q ∧ 0 ≤ q ∧ q ≤ 65535 := by
  obtain ⟨q, rfl, rfl, rfl, w0⟩ := open_int Try.underlying77 hv h
  simp [Lit.wf, IntKind.min, IntKind.max, IntKind.signed, IntKind.bits] at w0
  exact ⟨q, rfl, by omega, by omega⟩
end
theorem w_cell {w : World} {g off n : Nat} {E : Nat → BitVec 32} (h : ∀ j, j < n → ∀ k u, (wcells (E j))[k]? = some u → w.cell? ⟨g, off + j * 1 + k, none⟩ = some u) {j : Nat} (hj : j < n) : w.cell? ⟨g, off + j, none⟩ = some (.int .u32 (W (E j))) := by
  have := h j hj 0 _ rfl
  rwa [Nat.mul_one, Nat.add_zero] at this
end Go.Proofs.Ytfgkljfoalgkaaa
