/-
  What the rows of this seat need more: a list of samples, a list of sets, opened.
-/
import Derived.Test.YtpboblanjngeeaaRow2
import Derived.Test.YtpboblanjngeeaaSuspect
import Derived.Deep.SlicePairs
namespace Go.Proofs.Ytpboblanjngeeaa
open Go.ChangeShapes Go.WideShapes Go.ChangeAt Go.RowKit Go.Joins Go.Deep

theorem Try.cells50 : Try.prog.cellsOf 50 = 2 := by kernel_rfl
theorem Try.cells22 : Try.prog.cellsOf 22 = 1 := by kernel_rfl
/-- The slice value v has n sets. -/
def HoldsU (w : World) (v : Value) (n : Nat) (C : Nat → BitVec 64) : Prop :=
  ∃ a cap, v = .slice a n cap ∧ (n = 0 ∨ ∃ g off, a = some ⟨g, off, none⟩ ∧ g < w.heap.size ∧ ∀ j, j < n → w.cell? ⟨g, off + j, none⟩ = some (.int .u64 (U (C j))))
section
variable {H : Type} {enc : TypeId × Value → H} {W : World} {base : Nat} {sp : Nat → Bool} {held : Bool} {r : Reach} {b0 : Nat} {v : Value} {d : DataW H} {p : List MemPlace}
theorem choose_u64 {n : Nat} {V : Nat → Value} (h : ∀ i, i < n → ∃ x : BitVec 64, V i = .int .u64 (U x)) : ∃ C : Nat → BitVec 64, ∀ i, i < n → V i = .int .u64 (U (C i)) := by
  classical
  refine ⟨fun i => if hi : i < n then Classical.choose (h i hi) else 0#64, fun i hi => ?_⟩
  show V i = .int .u64 (U (if hi : i < n then Classical.choose (h i hi) else 0#64))
  rw [dif_pos hi]
  exact Classical.choose_spec (h i hi)
theorem open_samples (hv : Value.okWide Try.prog W r b0 44 v) (h : DataW.Trod enc Try.prog W base sp held 44 v d p) : ∃ n C R, HoldsS W v n C R := by
  obtain ⟨a0, len0, cap0, rfl⟩ := okWide_slice Try.underlying44 hv
  obtain ⟨fuel, hf⟩ := h
  have hf' : DataW.trod enc Try.prog W base sp held fuel 44 [.slice a0 len0 cap0] = some (d, p) := hf
  rcases open_slice_pairs Try.underlying44 Try.underlying50 Try.cells50 rfl rfl Try.cells22 Try.cells22 hf' with ⟨hc, _⟩ | ⟨a, len, cap, m, k, V0, V1, D0, D1, P0, P1, hc, _, hl, hm, hmm, _, hall⟩
  · simp at hc
    obtain ⟨rfl, rfl, rfl⟩ := hc
    exact ⟨0, fun _ => 0#64, fun _ => 0#64, none, 0, rfl, .inl rfl⟩
  · simp at hc
    obtain ⟨rfl, rfl, rfl⟩ := hc
    have hlm : len0 ≤ m := by rw [hmm]; split <;> omega
    obtain ⟨C, hC⟩ := choose_u64 (n := len0) (V := V0) (fun i hi => by
      obtain ⟨x, e0, _, wf⟩ := DataW.trod_int Try.underlying22 (hall i (by omega)).2.2.1
      simp at e0
      obtain ⟨y, rfl⟩ := u64_of_wf wf
      exact ⟨y, e0⟩)
    obtain ⟨R, hR⟩ := choose_u64 (n := len0) (V := V1) (fun i hi => by
      obtain ⟨x, e0, _, wf⟩ := DataW.trod_int Try.underlying22 (hall i (by omega)).2.2.2
      simp at e0
      obtain ⟨y, rfl⟩ := u64_of_wf wf
      exact ⟨y, e0⟩)
    refine ⟨len0, C, R, some a, cap0, rfl, ?_⟩
    by_cases h0 : len0 = 0
    · exact .inl h0
    right
    have hc0 := (hall 0 (by omega)).1
    obtain ⟨b, off, spot⟩ := a
    have hspot : spot = none := by simpa [Addr.add] using World.cell?_spot hc0
    subst hspot
    refine ⟨b, off, rfl, ?_, fun j hj => ?_⟩
    · exact World.block_lt_of_cell? _ _ hc0
    · have h1 := (hall j (by omega)).1
      have h2 := (hall j (by omega)).2.1
      rw [Go.WideShapes.add_plain] at h1 h2
      rw [hC j hj] at h1
      rw [hR j hj] at h2
      exact ⟨h1, h2⟩
theorem open_u64s (hv : Value.okWide Try.prog W r b0 48 v) (h : DataW.Trod enc Try.prog W base sp held 48 v d p) : ∃ n C, HoldsU W v n C := by
  obtain ⟨a0, len0, cap0, rfl⟩ := okWide_slice Try.underlying48 hv
  obtain ⟨fuel, hf⟩ := h
  have hf' : DataW.trod enc Try.prog W base sp held fuel 48 [.slice a0 len0 cap0] = some (d, p) := hf
  rcases open_slice1 Try.underlying48 Try.cells22 hf' with ⟨hc, _⟩ | ⟨a, len, cap, m, k, V0, D0, P0, hc, _, hl, hm, hmm, _, hall⟩
  · simp at hc
    obtain ⟨rfl, rfl, rfl⟩ := hc
    exact ⟨0, fun _ => 0#64, none, 0, rfl, .inl rfl⟩
  · simp at hc
    obtain ⟨rfl, rfl, rfl⟩ := hc
    have hlm : len0 ≤ m := by rw [hmm]; split <;> omega
    obtain ⟨C, hC⟩ := choose_u64 (n := len0) (V := V0) (fun i hi => by
      obtain ⟨x, e0, _, wf⟩ := DataW.trod_int Try.underlying22 (hall i (by omega)).2
      simp at e0
      obtain ⟨y, rfl⟩ := u64_of_wf wf
      exact ⟨y, e0⟩)
    refine ⟨len0, C, some a, cap0, rfl, ?_⟩
    by_cases h0 : len0 = 0
    · exact .inl h0
    right
    have hc0 := (hall 0 (by omega)).1
    obtain ⟨b, off, spot⟩ := a
    have hspot : spot = none := by simpa [Addr.add] using World.cell?_spot hc0
    subst hspot
    refine ⟨b, off, rfl, ?_, fun j hj => ?_⟩
    · exact World.block_lt_of_cell? _ _ hc0
    · have h1 := (hall j (by omega)).1
      rw [Go.WideShapes.add_plain] at h1
      rw [hC j hj] at h1
      exact h1
end
end Go.Proofs.Ytpboblanjngeeaa
