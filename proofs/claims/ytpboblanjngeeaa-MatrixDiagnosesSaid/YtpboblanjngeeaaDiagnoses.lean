/-
  The law MatrixDiagnoses: for all arguments it hands back true, and every argument reads behind the call as it read before. No condition.
-/
import Derived.Test.YtpboblanjngeeaaLawL
import Derived.Test.YtpboblanjngeeaaRow3
namespace Go.Proofs.Ytpboblanjngeeaa
open Go.ChangeShapes Go.WideShapes Go.ChangeAt Go.RowKit

theorem matrixDiagnoses_rows : ∀ t, t ∈ Try.f13.params.toList → Try.prog.readableRec t = true ∧ t < Try.prog.types.size := by
  intro t ht
  rw [Try.params13] at ht
  simp at ht
  rcases ht with rfl | rfl <;> exact ⟨by kernel_rfl, of_decide_eq_true (by kernel_rfl)⟩

set_option maxRecDepth 100000 in
theorem matrixDiagnoses_lifted (os : Os) (started : os.Started) (H : Type) (enc : TypeId × Value → H) :
    ReturnsInHanded {} Try.checked os 13 .any (Rows.matrixDiagnosesSpec.pre6 enc Try.prog Try.f13 Rows.matrixDiagnosesRow.domain false) (Rows.matrixDiagnosesSpec.post enc Try.prog Try.f13 false true false false) := by
  refine returnsInHanded_of_change (C := Try.checked) Try.own started (by kernel_rfl) Try.func13
    (ChangeSpec.witness6 (enc := enc) (C := Try.checked) false ⟨#[], #[.agg #[.int .u64 0, .int .u64 0, .int .u64 0], .slice none 0 0], []⟩ 8 (by kernel_rfl) (by kernel_rfl) (by kernel_rfl) (by kernel_rfl)) ?_
  intro W base args ds gs before hval0 hW _ _
  have hval : ∀ (j : Nat) t v, Try.f13.params[j]? = some t → args[j]? = some v → Value.okWide Try.prog W .any base t v := hval0
  have hW' := hW
  obtain ⟨p, q, hA0, hV, rfl, hfz, _⟩ := hW
  have hA : DataW.TrodAll enc Try.prog W 0 (fun _ => true) true Try.f13.params.toList args.toList ds p := hA0
  rw [Try.params13] at hA hval
  obtain ⟨v0, v1, d0, d1, p0, p1, rfl, rfl, rfl, h0, h1⟩ := trodAll_two hA
  obtain ⟨rfl, rfl⟩ := trodVars_none hV
  obtain ⟨a0, b0, c0, rfl⟩ := open_faults (hval 0 24 v0 rfl rfl) h0
  obtain ⟨n1, C1, g1⟩ := open_u64s (hval 1 48 v1 rfl rfl) h1
  clear hA0 hval0 hfz
  refine (matrixDiagnoses_walk a0 b0 c0 v1 n1 C1 W g1).mono fun e W' ⟨he, hb⟩ => ?_
  subst he
  exact ⟨_, rfl, law_post Try.laidOut matrixDiagnoses_rows hW' rfl rfl rfl rfl rfl Try.underlying4 hb⟩

theorem matrixDiagnoses_holds : Rows.MatrixDiagnosesSaid :=
  OpenClaim.holds_of_wide 13 Try.f13 rfl rfl rfl rfl rfl rfl rfl ⟨rfl, rfl, rfl, rfl, rfl⟩ rfl rfl rfl rfl rfl (by kernel_rfl) Try.func13 (by kernel_rfl)
    (of_decide_eq_true (by kernel_rfl)) (by unfold Func.isWrapper; first | (rw [if_pos (by decide +kernel)]; kernel_rfl) | (rw [if_neg (by decide +kernel)]; exact ⟨rfl, rfl⟩))
    (fun os started H enc _ => matrixDiagnoses_lifted os started H enc)
#print axioms matrixDiagnoses_holds
end Go.Proofs.Ytpboblanjngeeaa
