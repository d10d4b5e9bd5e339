/-
  driver.Apply: the drives behind an order, or the first error: for drives of valid coils.
-/
import Derived.Test.YtfgkljfoalgkaaaState
import Derived.Deep.RegionHeld3
namespace Go.Proofs.Ytfgkljfoalgkaaa
open Go.RowKit

def updD (D : Nat → Drive) (i : Nat) (x : Drive) : Nat → Drive := fun j => if j = i then x else D j
theorem set3 {w : World} {g off n i : Nat} {D : Nat → Drive} (hc : ∀ j, j < n → ∀ k u, (Drive.cells (D j))[k]? = some u → w.cell? ⟨g, off + j * 3 + k, none⟩ = some u) (hi : i < n) (X : Drive) :
    ∀ j, j < n → ∀ k u, (Drive.cells (updD D i X j))[k]? = some u →
      (((w.setCell ⟨g, off + i * 3, none⟩ (.int .i64 X.phase)).setCell ⟨g, off + i * 3 + 1, none⟩ (.int .i64 X.left)).setCell ⟨g, off + i * 3 + 2, none⟩ (.bool X.held)).cell? ⟨g, off + j * 3 + k, none⟩ = some u := by
  intro j hj k u hu
  have hk : k < 3 := by rw [← drive_len (updD D i X j)]; exact (List.getElem?_eq_some_iff.1 hu).1
  obtain ⟨d0, d1, d2⟩ := drive_cells hc hi
  by_cases e : j = i
  · subst e
    have hu' : (Drive.cells X)[k]? = some u := by
      have : updD D j X j = X := if_pos rfl
      rwa [this] at hu
    match k, hk, hu' with
    | 0, _, hu' =>
      simp [Drive.cells] at hu'
      subst hu'
      rw [World.cell?_setCell_other _ _ _ _ (by simp), World.cell?_setCell_other _ _ _ _ (by simp)]
      exact World.cell?_setCell_same _ _ _ d0
    | 1, _, hu' =>
      simp [Drive.cells] at hu'
      subst hu'
      rw [World.cell?_setCell_other _ _ _ _ (by simp)]
      exact World.cell?_setCell_same (u := .int .i64 (D j).left) _ _ _ (by rw [World.cell?_setCell_other _ _ _ _ (by simp)]; exact d1)
    | 2, _, hu' =>
      simp [Drive.cells] at hu'
      subst hu'
      exact World.cell?_setCell_same (u := .bool (D j).held) _ _ _ (by rw [World.cell?_setCell_other _ _ _ _ (by simp), World.cell?_setCell_other _ _ _ _ (by simp)]; exact d2)
  · have hu' : (Drive.cells (D j))[k]? = some u := by
      have : updD D i X j = D j := if_neg e
      rwa [this] at hu
    have ne : ∀ a, a < 3 → (⟨g, off + i * 3 + a, none⟩ : Addr) ≠ ⟨g, off + j * 3 + k, none⟩ := fun a ha h => by
      have := congrArg Addr.off h
      have : off + i * 3 + a = off + j * 3 + k := this
      omega
    rw [World.cell?_setCell_other _ _ _ _ (ne 2 (by omega)), World.cell?_setCell_other _ _ _ _ (ne 1 (by omega)), World.cell?_setCell_other _ _ _ _ (show (⟨g, off + i * 3, none⟩ : Addr) ≠ _ from ne 0 (by omega))]
    exact hc j hj k u hu'
/-- What a call's own row gives for a store: its block, its cells, and that none is frozen. -/
theorem owns_open {w : World} {base n : Nat} {v : Value} {D : Nat → Drive} (h : w.ownsRow base 34 3 v n (flat Drive.cells D n)) (hn : 0 < n) :
    ∃ g cap, v = .slice (some ⟨g, 0, none⟩) n cap ∧ base ≤ g ∧ g < w.heap.size ∧ (∀ j, w.frozen? ⟨g, j, none⟩ = false) ∧
      ∀ j, j < n → ∀ k u, (Drive.cells (D j))[k]? = some u → w.cell? ⟨g, 0 + j * 3 + k, none⟩ = some u := by
  obtain ⟨a, cap, e, hh⟩ := Holds.of_owns drive_len h
  rcases h.2 with ⟨rfl, h0⟩ | ⟨g, cap', cur, rfl, hb, hg, _⟩
  · omega
  · injection e with e1 e2 e3
    obtain ⟨g2, off, e4, hl, hc⟩ := hh.resolve_left (by omega)
    rw [← e1] at e4
    injection e4 with e4
    injection e4 with e5 e6 e7
    subst e5 e6
    exact ⟨g, cap', rfl, hb, hl, fun j => by simp [World.frozen?, hg], hc⟩
def OrderV (o : Order) : Value := .agg #[.int .i64 o.kind, .int .i64 o.coil]
end Go.Proofs.Ytfgkljfoalgkaaa
