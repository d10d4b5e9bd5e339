/-
  Coils, drives, orders, fuses as plain records; a slice that reads as a list of them. No program in sight but the model's worlds.
-/
import Derived.Test.YtfgkljfoalgkaaaWord
namespace Go.Proofs.Ytfgkljfoalgkaaa
open Go.RowKit

structure Coil where
  pulse : Int
  on : Int
  off : Int
  rest : Int
  fuse : Int
  cur : Int
structure Drive where
  phase : Int
  left : Int
  held : Bool
structure Order where
  kind : Int
  coil : Int
structure Fuse where
  rating : Int
  limit : Int
structure FS where
  heat : Int
  blown : Bool
def Coil.cells (c : Coil) : List Value := [.int .i64 c.pulse, .int .i64 c.on, .int .i64 c.off, .int .i64 c.rest, .int .i64 c.fuse, .int .i64 c.cur]
def Drive.cells (d : Drive) : List Value := [.int .i64 d.phase, .int .i64 d.left, .bool d.held]
def Order.cells (o : Order) : List Value := [.int .i64 o.kind, .int .i64 o.coil]
def Fuse.cells (f : Fuse) : List Value := [.int .i64 f.rating, .int .i64 f.limit]
def FS.cells (s : FS) : List Value := [.int .i64 s.heat, .bool s.blown]
def wcells (x : BitVec 32) : List Value := [.int .u32 (W x)]
def idle : Drive := ⟨0, 0, false⟩

/-- The slice value v has n elements of 'size' cells each: those of f. -/
def Holds {α : Type} (cells : α → List Value) (size : Nat) (w : World) (v : Value) (n : Nat) (f : Nat → α) : Prop :=
  ∃ a cap, v = .slice a n cap ∧ (n = 0 ∨ ∃ g off, a = some ⟨g, off, none⟩ ∧ g < w.heap.size ∧ ∀ j, j < n → ∀ k u, (cells (f j))[k]? = some u → w.cell? ⟨g, off + j * size + k, none⟩ = some u)
theorem Holds.below {α : Type} {cells : α → List Value} {size : Nat} {w w' : World} {B : Nat} {v : Value} {n : Nat} {f : Nat → α} (h : Holds cells size w v n f) (hb : Below B w w') (hB : w.heap.size ≤ B) : Holds cells size w' v n f := by
  obtain ⟨a, cap, hv, h⟩ := h
  refine ⟨a, cap, hv, h.imp id fun ⟨g, off, h1, h2, h3⟩ => ⟨g, off, h1, Nat.lt_of_lt_of_le h2 hb.size, fun j hj k u hu => ?_⟩⟩
  rw [hb.cell (p := ⟨g, off + j * size + k, none⟩) (Nat.lt_of_lt_of_le h2 hB)]
  exact h3 j hj k u hu
theorem Holds.drewN {α : Type} {cells : α → List Value} {size : Nat} {w : World} {v : Value} {n : Nat} {f : Nat → α} (h : Holds cells size w v n f) (k : Nat) : Holds cells size (w.drewN k) v n f := h
theorem Holds.nil {α : Type} (cells : α → List Value) (size : Nat) (w : World) (f : Nat → α) : Holds cells size w (.slice none 0 0) 0 f := ⟨none, 0, rfl, .inl rfl⟩
theorem Holds.congr {α : Type} {cells : α → List Value} {size : Nat} {w : World} {v : Value} {n : Nat} {f f' : Nat → α} (h : Holds cells size w v n f) (e : ∀ j, j < n → f j = f' j) : Holds cells size w v n f' := by
  obtain ⟨a, cap, hv, h⟩ := h
  refine ⟨a, cap, hv, h.imp id fun ⟨g, off, h1, h2, h3⟩ => ⟨g, off, h1, h2, fun j hj k u hu => h3 j hj k u (by rw [e j hj]; exact hu)⟩⟩
abbrev HoldsC := Holds Coil.cells 6
abbrev HoldsD := Holds Drive.cells 3
abbrev HoldsF := Holds Fuse.cells 2
abbrev HoldsT := Holds FS.cells 2
abbrev HoldsW := Holds wcells 1

/-! ### What is valid -/
def within (v lo hi : Int) : Bool := decide (lo ≤ v) && decide (v ≤ hi)
def goodB (c : Coil) : Bool := within c.pulse 1 255 && within c.on 0 16 && within c.off 0 16 && (decide (0 < c.on) || (c.off == 0)) && within c.rest 0 1000 && within c.fuse (-1) 7 && within c.cur 0 200
theorem goodB_iff (c : Coil) : goodB c = true ↔ 1 ≤ c.pulse ∧ c.pulse ≤ 255 ∧ 0 ≤ c.on ∧ c.on ≤ 16 ∧ 0 ≤ c.off ∧ c.off ≤ 16 ∧ (0 < c.on ∨ c.off = 0) ∧ 0 ≤ c.rest ∧ c.rest ≤ 1000 ∧ -1 ≤ c.fuse ∧ c.fuse ≤ 7 ∧ 0 ≤ c.cur ∧ c.cur ≤ 200 := by
  unfold goodB within
  simp only [Bool.and_eq_true, Bool.or_eq_true, decide_eq_true_eq, beq_iff_eq, and_assoc]
/-- The error number of a list of coils. -/
def validE (n : Nat) (C : Nat → Coil) : Int := if 32 < n then 9 else if ∀ i, i < n → goodB (C i) = true then 0 else 5
theorem validE_zero {n : Nat} {C : Nat → Coil} (h : validE n C = 0) : n ≤ 32 ∧ ∀ i, i < n → goodB (C i) = true := by
  unfold validE at h
  split at h
  · exact absurd h (by decide)
  · split at h
    · rename_i h1 h2; exact ⟨by omega, h2⟩
    · exact absurd h (by decide)
end Go.Proofs.Ytfgkljfoalgkaaa
