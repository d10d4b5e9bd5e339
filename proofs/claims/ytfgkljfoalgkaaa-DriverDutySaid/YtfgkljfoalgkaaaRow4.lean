/-
  A scene opened, with the bounds of its lists: a length is at most its capacity, this at most maxLen.
-/
import Derived.Test.YtfgkljfoalgkaaaRow3
namespace Go.Proofs.Ytfgkljfoalgkaaa
open Go.ChangeShapes Go.WideShapes Go.ChangeAt Go.RowKit Go.Joins Go.Deep

section
variable {H : Type} {enc : TypeId × Value → H} {Wo : World} {base : Nat} {sp : Nat → Bool} {held : Bool} {r : Reach} {b0 : Nat} {v : Value} {d : DataW H} {p : List MemPlace} {fuel : Nat} {x : DataW H × List MemPlace}
theorem len_bound {t e : TypeId} {a0 : Option Addr} {len0 cap0 : Nat} (ht : Try.prog.underlying t = some (.slice e)) (h : DataW.trod enc Try.prog Wo base sp held fuel t [.slice a0 len0 cap0] = some x) : len0 ≤ cap0 ∧ cap0 ≤ 9223372036854775807 := by
  rcases open_slice ht h with ⟨hc, _⟩ | ⟨a, len, cap, m, n, D, Pl, hc, _, hl, hm, _⟩
  · simp at hc
    obtain ⟨rfl, rfl, rfl⟩ := hc
    exact ⟨Nat.le_refl _, Nat.zero_le _⟩
  · simp at hc
    obtain ⟨rfl, rfl, rfl⟩ := hc
    unfold maxLen at hm
    exact ⟨hl, by omega⟩
set_option maxRecDepth 100000 in
theorem open_scene4 (hv : Value.okWide Try.prog Wo r b0 50 v) (h : DataW.Trod enc Try.prog Wo base sp held 50 v d p) :
    ∃ a1 n k1 a2 nt k2 C L, v = .agg #[.slice a1 n k1, .slice a2 nt k2] ∧ HoldsC Wo (.slice a1 n k1) n C ∧ HoldsL Wo (.slice a2 nt k2) nt L ∧ n ≤ k1 ∧ nt ≤ k2 ∧ k2 ≤ 9223372036854775807 := by
  obtain ⟨c0, c1, y0, y1, k, rfl, rfl, rfl, h0, h1⟩ := open_agg2 Try.underlying50 (by kernel_rfl) Try.cells50 hv h
  obtain ⟨a, l, c, rfl⟩ := slice_of_trod Try.underlying32 h0
  obtain ⟨a', l', c', rfl⟩ := slice_of_trod Try.underlying22 h1
  obtain ⟨C, hC⟩ := rows_coil h0
  obtain ⟨L, hL⟩ := rows_lists h1
  have hb0 := len_bound Try.underlying32 h0
  have hb1 := len_bound Try.underlying22 h1
  exact ⟨_, l, c, _, l', c', C, L, rfl, hC, hL, hb0.1, hb1.1, hb1.2⟩
end
end Go.Proofs.Ytfgkljfoalgkaaa
