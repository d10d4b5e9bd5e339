/-
  The law MatrixPaths: for all arguments it hands back true, and every argument reads behind the call as it read before. No condition.
-/
import Derived.Test.YtpboblanjngeeaaLawH
import Derived.Test.YtpboblanjngeeaaRow2
namespace Go.Proofs.Ytpboblanjngeeaa
open Go.ChangeShapes Go.WideShapes Go.ChangeAt Go.RowKit

theorem matrixPaths_rows : ∀ t, t ∈ Try.f4.params.toList → Try.prog.readableRec t = true ∧ t < Try.prog.types.size := by
  intro t ht
  rw [Try.params4] at ht
  simp at ht
  rcases ht with rfl | rfl | rfl <;> exact ⟨by kernel_rfl, of_decide_eq_true (by kernel_rfl)⟩

set_option maxRecDepth 100000 in
theorem matrixPaths_lifted (os : Os) (started : os.Started) (H : Type) (enc : TypeId × Value → H) :
    ReturnsInHanded {} Try.checked os 4 .any (Rows.matrixPathsSpec.pre6 enc Try.prog Try.f4 Rows.matrixPathsRow.domain false) (Rows.matrixPathsSpec.post enc Try.prog Try.f4 false true false false) := by
  refine returnsInHanded_of_change (C := Try.checked) Try.own started (by kernel_rfl) Try.func4
    (ChangeSpec.witness6 (enc := enc) (C := Try.checked) false ⟨#[], #[.agg #[.int .u64 0, .int .u64 0, .int .u64 0], .int .u64 0, .agg #[.int .i64 0, .int .i64 0]], []⟩ 8 (by kernel_rfl) (by kernel_rfl) (by kernel_rfl) (by kernel_rfl)) ?_
  intro W base args ds gs before hval0 hW _ _
  have hval : ∀ (j : Nat) t v, Try.f4.params[j]? = some t → args[j]? = some v → Value.okWide Try.prog W .any base t v := hval0
  have hW' := hW
  obtain ⟨p, q, hA0, hV, rfl, hfz, _⟩ := hW
  have hA : DataW.TrodAll enc Try.prog W 0 (fun _ => true) true Try.f4.params.toList args.toList ds p := hA0
  rw [Try.params4] at hA hval
  obtain ⟨v0, v1, v2, d0, d1, d2, p0, p1, p2, rfl, rfl, rfl, h0, h1, h2⟩ := trodAll_three hA
  obtain ⟨rfl, rfl⟩ := trodVars_none hV
  obtain ⟨a0, b0, c0, rfl⟩ := open_faults (hval 0 24 v0 rfl rfl) h0
  obtain ⟨x1, rfl⟩ := open_u64 (hval 1 22 v1 rfl rfl) h1
  obtain ⟨x2, y2, rfl, k2, l2, m2, n2⟩ := open_pair (hval 2 31 v2 rfl rfl) h2
  clear hA0 hval0 hfz
  refine (matrixPaths_walk a0 b0 c0 x1 x2 y2 k2 l2 m2 n2 W).mono fun e W' ⟨he, hb⟩ => ?_
  subst he
  exact ⟨_, rfl, law_post Try.laidOut matrixPaths_rows hW' rfl rfl rfl rfl rfl Try.underlying4 hb⟩

theorem matrixPaths_holds : Rows.MatrixPathsSaid :=
  OpenClaim.holds_of_wide 4 Try.f4 rfl rfl rfl rfl rfl rfl rfl ⟨rfl, rfl, rfl, rfl, rfl⟩ rfl rfl rfl rfl rfl (by kernel_rfl) Try.func4 (by kernel_rfl)
    (of_decide_eq_true (by kernel_rfl)) (by unfold Func.isWrapper; first | (rw [if_pos (by decide +kernel)]; kernel_rfl) | (rw [if_neg (by decide +kernel)]; exact ⟨rfl, rfl⟩))
    (fun os started H enc _ => matrixPaths_lifted os started H enc)
#print axioms matrixPaths_holds
end Go.Proofs.Ytpboblanjngeeaa
