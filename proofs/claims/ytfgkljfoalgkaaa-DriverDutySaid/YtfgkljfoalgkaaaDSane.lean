/-
  The sanity check of the driver laws: it hands back true. No condition.
-/
import Derived.Test.YtfgkljfoalgkaaaRunW
import Derived.Test.YtfgkljfoalgkaaaTickW
namespace Go.Proofs.Ytfgkljfoalgkaaa
open Go.RowKit Go.Deep

theorem tickC : TickC := fun v1 v2 n m C D w hS h1 h2 => tick_ok v1 v2 n m C D w hS h1 h2
theorem HoldsC.one (x : Coil) (w : World) : HoldsC (w.alloc (.cells #[.int .i64 x.pulse, .int .i64 x.on, .int .i64 x.off, .int .i64 x.rest, .int .i64 x.fuse, .int .i64 x.cur] 25)) (.slice (some ⟨w.heap.size, 0, none⟩) 1 1) 1 (fun _ => x) := by
  refine ⟨_, _, rfl, .inr ⟨w.heap.size, 0, rfl, by simp, fun j hj k u hu => ?_⟩⟩
  have : j = 0 := by omega
  subst this
  have hb := blk_alloc_new w (.cells #[.int .i64 x.pulse, .int .i64 x.on, .int .i64 x.off, .int .i64 x.rest, .int .i64 x.fuse, .int .i64 x.cur] 25)
  rw [show 0 + 0 * 6 + k = k by omega]
  unfold World.cell?
  simp only [hb]
  rw [← hu]
  simp [Coil.cells]
theorem HoldsO.one (x : Order) (w : World) : HoldsO (w.alloc (.cells #[.int .i64 x.kind, .int .i64 x.coil] 43)) (.slice (some ⟨w.heap.size, 0, none⟩) 1 1) 1 (fun _ => x) := by
  refine ⟨_, _, rfl, .inr ⟨w.heap.size, 0, rfl, by simp, fun j hj k u hu => ?_⟩⟩
  have : j = 0 := by omega
  subst this
  have hb := blk_alloc_new w (.cells #[.int .i64 x.kind, .int .i64 x.coil] 43)
  rw [show 0 + 0 * 2 + k = k by omega]
  unfold World.cell?
  simp only [hb]
  rw [← hu]
  simp [Order.cells]
def dC : Nat → Coil := fun _ => ⟨2, 1, 2, 3, -1, 0⟩
def dO (k : Int) : Nat → Order := fun _ => ⟨k, 0⟩
def dN (t : Nat) : Nat := if t = 0 ∨ t = 6 ∨ t = 8 ∨ t = 9 then 1 else 0
def dK (t : Nat) : Int := if t = 0 then 2 else if t = 6 then 3 else 1
def dL (A : Nat → Option Addr) : Nat → OL := fun t => ⟨A t, dN t, dN t, dO (dK t)⟩
def dS (t : Nat) : BitVec 32 := if t ≤ 2 ∨ t = 5 ∨ t = 9 then 1#32 else 0#32
theorem dC_valid : validE 1 dC = 0 := by
  unfold validE
  rw [if_neg (by decide), if_pos (fun i _ => by show goodB ⟨2, 1, 2, 3, -1, 0⟩ = true; decide)]
theorem d0_bad : validE 1 (fun _ => ⟨0, 0, 0, 0, 0, 0⟩) = 5 := by
  unfold validE
  rw [if_neg (by decide), if_neg (fun h => absurd (h 0 (by decide)) (by decide))]
theorem run_same (n : Nat) (C : Nat → Coil) (D : Nat → Drive) {L L' : Nat → OL} (h : ∀ t, (L t).n = (L' t).n ∧ (L t).os = (L' t).os) : ∀ t, run n C D L t = run n C D L' t
  | 0 => rfl
  | t + 1 => by rw [run, run, run_same n C D h t, (h t).1, (h t).2]
theorem setAt_same (n : Nat) (C : Nat → Coil) (D : Nat → Drive) {L L' : Nat → OL} (h : ∀ t, (L t).n = (L' t).n ∧ (L t).os = (L' t).os) (t : Nat) : setAt n C D L t = setAt n C D L' t := by
  unfold setAt
  rw [run_same n C D h t, (h t).1, (h t).2]
theorem sets_d (A : Nat → Option Addr) : ∀ t, t < 10 → setAt 1 dC (fun _ => idle) (dL A) t = dS t := by
  have h : ∀ t, ((dL A) t).n = ((dL fun _ => none) t).n ∧ ((dL A) t).os = ((dL fun _ => none) t).os := fun _ => ⟨rfl, rfl⟩
  intro t ht
  rw [setAt_same _ _ _ h]
  match t, ht with
  | 0, _ => rfl
  | 1, _ => rfl
  | 2, _ => rfl
  | 3, _ => rfl
  | 4, _ => rfl
  | 5, _ => rfl
  | 6, _ => rfl
  | 7, _ => rfl
  | 8, _ => rfl
  | 9, _ => rfl
  | n + 10, h => omega
end Go.Proofs.Ytfgkljfoalgkaaa
