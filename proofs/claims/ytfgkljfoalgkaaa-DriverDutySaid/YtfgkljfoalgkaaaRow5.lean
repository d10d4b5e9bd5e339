/-
  An order opened: two numbers. No condition.
-/
import Derived.Test.YtfgkljfoalgkaaaRow4
namespace Go.Proofs.Ytfgkljfoalgkaaa
open Go.ChangeShapes Go.WideShapes Go.ChangeAt Go.RowKit Go.Joins Go.Deep

section
variable {H : Type} {enc : TypeId × Value → H} {Wo : World} {base : Nat} {sp : Nat → Bool} {held : Bool} {r : Reach} {b0 : Nat} {v : Value} {d : DataW H} {p : List MemPlace}
set_option maxRecDepth 100000 in
theorem open_order (hv : Value.okWide Try.prog Wo r b0 43 v) (h : DataW.Trod enc Try.prog Wo base sp held 43 v d p) :
    ∃ k c : Int, v = .agg #[.int .i64 k, .int .i64 c] := by
  obtain ⟨c0, c1, y0, y1, k, rfl, rfl, rfl, h0, h1⟩ := open_agg2 Try.underlying43 (by kernel_rfl) Try.cells43 hv h
  obtain ⟨q, rfl⟩ := trod_i64 h0
  obtain ⟨q', rfl⟩ := trod_i64 h1
  exact ⟨q, q', rfl⟩
end
end Go.Proofs.Ytfgkljfoalgkaaa
