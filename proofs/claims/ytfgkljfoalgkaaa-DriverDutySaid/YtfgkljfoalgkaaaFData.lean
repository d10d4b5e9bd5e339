/-
  Fuses: what is valid, states, loads, live coils, ticks as plain functions. No program in sight.
-/
import Derived.Test.YtfgkljfoalgkaaaFlat
namespace Go.Proofs.Ytfgkljfoalgkaaa
open Go.RowKit

def goodF (f : Fuse) : Bool := !decide (f.rating < 0) && !decide (400 < f.rating) && !decide (f.limit < 0) && !decide (1000000000 < f.limit)
theorem fuse_cases (f : Fuse) : (decide (f.rating < 0) = true ∧ goodF f = false) ∨ (decide (f.rating < 0) = false ∧ decide (400 < f.rating) = true ∧ goodF f = false) ∨
    (decide (f.rating < 0) = false ∧ decide (400 < f.rating) = false ∧ decide (f.limit < 0) = true ∧ goodF f = false) ∨
    (decide (f.rating < 0) = false ∧ decide (400 < f.rating) = false ∧ decide (f.limit < 0) = false ∧ decide (1000000000 < f.limit) = true ∧ goodF f = false) ∨
    (decide (f.rating < 0) = false ∧ decide (400 < f.rating) = false ∧ decide (f.limit < 0) = false ∧ decide (1000000000 < f.limit) = false ∧ goodF f = true) := by
  unfold goodF
  cases decide (f.rating < 0) <;> cases decide (400 < f.rating) <;> cases decide (f.limit < 0) <;> cases decide (1000000000 < f.limit) <;> decide
theorem goodF_iff (f : Fuse) : goodF f = true ↔ 0 ≤ f.rating ∧ f.rating ≤ 400 ∧ 0 ≤ f.limit ∧ f.limit ≤ 1000000000 := by
  unfold goodF
  simp only [Bool.and_eq_true, Bool.not_eq_true', decide_eq_false_iff_not, Int.not_lt, and_assoc]
/-- The error number of a list of fuses. -/
def validFE (n : Nat) (F : Nat → Fuse) : Int := if 8 < n then 9 else if ∀ i, i < n → goodF (F i) = true then 0 else 5
theorem validFE_zero {n : Nat} {F : Nat → Fuse} (h : validFE n F = 0) : n ≤ 8 ∧ ∀ i, i < n → goodF (F i) = true := by
  unfold validFE at h
  split at h
  · exact absurd h (by decide)
  · split at h
    · rename_i h1 h2; exact ⟨by omega, h2⟩
    · exact absurd h (by decide)
def okFS (f : Fuse) (s : FS) : Bool := !decide (s.heat < 0) && !decide (f.limit < s.heat) && !(s.blown && (s.heat != 0))
theorem fs_cases (f : Fuse) (s : FS) : (decide (s.heat < 0) = true ∧ okFS f s = false) ∨ (decide (s.heat < 0) = false ∧ decide (f.limit < s.heat) = true ∧ okFS f s = false) ∨
    (decide (s.heat < 0) = false ∧ decide (f.limit < s.heat) = false ∧ s.blown = true ∧ (s.heat != 0) = true ∧ okFS f s = false) ∨
    (decide (s.heat < 0) = false ∧ decide (f.limit < s.heat) = false ∧ s.blown = true ∧ (s.heat != 0) = false ∧ okFS f s = true) ∨
    (decide (s.heat < 0) = false ∧ decide (f.limit < s.heat) = false ∧ s.blown = false ∧ okFS f s = true) := by
  unfold okFS
  cases decide (s.heat < 0) <;> cases decide (f.limit < s.heat) <;> cases s.blown <;> cases (s.heat != 0) <;> decide
theorem okFS_iff (f : Fuse) (s : FS) : okFS f s = true ↔ 0 ≤ s.heat ∧ s.heat ≤ f.limit ∧ (s.blown = true → s.heat = 0) := by
  unfold okFS
  cases hb : s.blown <;> simp [and_assoc]
def StateF (n : Nat) (F : Nat → Fuse) (m : Nat) (S : Nat → FS) : Prop := validFE n F = 0 ∧ m = n ∧ ∀ i, i < n → okFS (F i) (S i) = true
def coldFS : FS := ⟨0, false⟩
/-- The load of a fuse: of the first n coils. -/
def loadTo (C : Nat → Coil) (x : BitVec 32) (k : Int) : Nat → Int
  | 0 => 0
  | i + 1 => if (tb x i && ((C i).fuse == k)) = true then loadTo C x k i + (C i).cur else loadTo C x k i
/-- A coil that no blown fuse cuts off. -/
def liveC (c : Coil) (m : Nat) (S : Nat → FS) : Bool := decide (c.fuse < 0) || decide ((m : Int) ≤ c.fuse) || !(S c.fuse.toNat).blown
def liveTo (C : Nat → Coil) (m : Nat) (S : Nat → FS) (x : BitVec 32) : Nat → BitVec 32
  | 0 => 0#32
  | i + 1 => if liveC (C i) m S = true then liveTo C m S x i ||| (x &&& 1#32 <<< i) else liveTo C m S x i
def loadF (n : Nat) (C : Nat → Coil) (x : BitVec 32) (k : Int) : Int := if validE n C = 0 then loadTo C x k n else 0
def liveF (n : Nat) (C : Nat → Coil) (m : Nat) (S : Nat → FS) (x : BitVec 32) : BitVec 32 := if validE n C = 0 then liveTo C m S x n else 0#32
theorem loadTo_le (C : Nat → Coil) (x : BitVec 32) (k : Int) : ∀ n, (∀ i, i < n → goodB (C i) = true) → 0 ≤ loadTo C x k n ∧ loadTo C x k n ≤ 200 * n
  | 0, _ => ⟨Int.le_refl _, by simp [loadTo]⟩
  | n + 1, h => by
    obtain ⟨h1, h2⟩ := loadTo_le C x k n fun i hi => h i (by omega)
    have hg := (goodB_iff _).1 (h n (by omega))
    unfold loadTo
    split <;> omega
def heatF (f : Fuse) (s : FS) (L : Int) : Int := max (s.heat + L * L - f.rating * f.rating) 0
/-- The state of a fuse behind a tick with the load L. -/
def stepF (f : Fuse) (s : FS) (L : Int) : FS := if s.blown = true then s else if f.limit < heatF f s L then ⟨0, true⟩ else ⟨heatF f s L, false⟩
theorem stepF_ok {f : Fuse} {s : FS} {L : Int} (hf : goodF f = true) (h : okFS f s = true) : okFS f (stepF f s L) = true := by
  have h1 := (goodF_iff f).1 hf
  unfold stepF
  split
  · exact h
  · split
    · rw [okFS_iff]; exact ⟨Int.le_refl _, h1.2.2.1, fun _ => rfl⟩
    · rename_i h2 h3
      rw [okFS_iff]
      refine ⟨?_, by show heatF f s L ≤ f.limit; omega, fun h => Bool.noConfusion h⟩
      show 0 ≤ heatF f s L
      unfold heatF
      omega
/-- The states behind a tick. -/
def tickF (n : Nat) (F : Nat → Fuse) (c : Nat) (C : Nat → Coil) (S : Nat → FS) (x : BitVec 32) : Nat → FS := fun i => stepF (F i) (S i) (loadF c C (liveF c C n S x) i)
theorem tickF_state {n c : Nat} {F : Nat → Fuse} {C : Nat → Coil} {S : Nat → FS} (x : BitVec 32) (h : StateF n F n S) : StateF n F n (tickF n F c C S x) :=
  ⟨h.1, rfl, fun i hi => stepF_ok ((validFE_zero h.1).2 i hi) (h.2.2 i hi)⟩
/-! Rows. -/
theorem fuse_cells {w : World} {g off n : Nat} {F : Nat → Fuse} (h : ∀ j, j < n → ∀ k u, (Fuse.cells (F j))[k]? = some u → w.cell? ⟨g, off + j * 2 + k, none⟩ = some u) {j : Nat} (hj : j < n) :
    w.cell? ⟨g, off + j * 2, none⟩ = some (.int .i64 (F j).rating) ∧ w.cell? ⟨g, off + j * 2 + 1, none⟩ = some (.int .i64 (F j).limit) := ⟨h j hj 0 _ rfl, h j hj 1 _ rfl⟩
theorem fs_cells {w : World} {g off n : Nat} {S : Nat → FS} (h : ∀ j, j < n → ∀ k u, (FS.cells (S j))[k]? = some u → w.cell? ⟨g, off + j * 2 + k, none⟩ = some u) {j : Nat} (hj : j < n) :
    w.cell? ⟨g, off + j * 2, none⟩ = some (.int .i64 (S j).heat) ∧ w.cell? ⟨g, off + j * 2 + 1, none⟩ = some (.bool (S j).blown) := ⟨h j hj 0 _ rfl, h j hj 1 _ rfl⟩
theorem fs_len (x : FS) : (FS.cells x).length = 2 := rfl
theorem fs_one (x : FS) (u : Value) (h : u ∈ FS.cells x) : u.oneCell' = true := by
  simp [FS.cells] at h
  rcases h with rfl | rfl <;> rfl
end Go.Proofs.Ytfgkljfoalgkaaa
