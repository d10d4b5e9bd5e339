/-
  Lists of small numbers. No program in sight but the model's worlds.
-/
import Derived.Test.YtfgkljfoalgkaaaData
namespace Go.Proofs.Ytfgkljfoalgkaaa
open Go.RowKit

def bcells (x : Int) : List Value := [.int .u8 x]
/-- The slice value v has n bytes: those of f. -/
def HoldsB (w : World) (v : Value) (n : Nat) (f : Nat → Int) : Prop := Holds bcells 1 w v n f ∧ ∀ i, i < n → 0 ≤ f i ∧ f i ≤ 255
theorem b_cell {w : World} {g off n : Nat} {E : Nat → Int} (h : ∀ j, j < n → ∀ k u, (bcells (E j))[k]? = some u → w.cell? ⟨g, off + j * 1 + k, none⟩ = some u) {j : Nat} (hj : j < n) : w.cell? ⟨g, off + j, none⟩ = some (.int .u8 (E j)) := by
  have := h j hj 0 _ rfl
  rwa [Nat.mul_one, Nat.add_zero] at this
end Go.Proofs.Ytfgkljfoalgkaaa
