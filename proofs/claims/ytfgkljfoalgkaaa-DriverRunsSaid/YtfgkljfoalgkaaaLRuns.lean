/-
  The law DriverRuns: for all arguments it hands back true, and every argument reads behind the call as it read before. No condition.
-/
import Derived.Test.YtfgkljfoalgkaaaWRuns
import Derived.Test.YtfgkljfoalgkaaaRow5
namespace Go.Proofs.Ytfgkljfoalgkaaa
open Go.ChangeShapes Go.WideShapes Go.ChangeAt Go.RowKit

theorem driverRuns_rows : ∀ t, t ∈ Try.f7.params.toList → Try.prog.readableRec t = true ∧ t < Try.prog.types.size := by
  intro t ht
  rw [Try.params7] at ht
  simp at ht
  rcases ht with rfl | rfl <;> exact ⟨by kernel_rfl, of_decide_eq_true (by kernel_rfl)⟩

set_option maxRecDepth 100000 in
theorem driverRuns_lifted (os : Os) (started : os.Started) (H : Type) (enc : TypeId × Value → H) :
    ReturnsInHanded {} Try.checked os 7 .any (Rows.driverRunsSpec.pre6 enc Try.prog Try.f7 Rows.driverRunsRow.domain false) (Rows.driverRunsSpec.post enc Try.prog Try.f7 false true false false) := by
  refine returnsInHanded_of_change (C := Try.checked) Try.own started (by kernel_rfl) Try.func7
    (ChangeSpec.witness6 (enc := enc) (C := Try.checked) false ⟨#[], #[.agg #[.slice none 0 0, .slice none 0 0], .slice none 0 0], []⟩ 8 (by kernel_rfl) (by kernel_rfl) (by kernel_rfl) (by kernel_rfl)) ?_
  intro W base args ds gs before hval0 hW _ _
  have hval : ∀ (j : Nat) t v, Try.f7.params[j]? = some t → args[j]? = some v → Value.okWide Try.prog W .any base t v := hval0
  have hW' := hW
  obtain ⟨p, q, hA0, hV, rfl, hfz, _⟩ := hW
  have hA : DataW.TrodAll enc Try.prog W 0 (fun _ => true) true Try.f7.params.toList args.toList ds p := hA0
  rw [Try.params7] at hA hval
  obtain ⟨v0, v1, d0, d1, p0, p1, rfl, rfl, rfl, h0, h1⟩ := trodAll_two hA
  obtain ⟨rfl, rfl⟩ := trodVars_none hV
  obtain ⟨a0, n0, k0, b0, m0, q0, C0, L0, rfl, g0, l0, c0, e0, f0⟩ := open_scene4 (hval 0 50 v0 rfl rfl) h0
  obtain ⟨n1, E1, g1⟩ := open_drives (hval 1 27 v1 rfl rfl) h1
  clear hA0 hval0 hfz
  refine (driverRuns_walk a0 n0 k0 b0 m0 q0 C0 L0 v1 n1 E1 W g0 l0 c0 e0 f0 g1).mono fun e W' ⟨he, hb⟩ => ?_
  subst he
  exact ⟨_, rfl, law_post Try.laidOut driverRuns_rows hW' rfl rfl rfl rfl rfl Try.underlying4 hb⟩

theorem driverRuns_named : Try.pinned.checked.prog.funcNamed Rows.driverRunsRow.func = some 7 := by kernel_rfl
theorem driverRuns_closed : joinedFacts Try.pinned.checked.prog 7 Try.f7 Rows.driverRunsSpec Rows.driverRunsRow = true := by kernel_rfl
theorem driverRuns_inst : Try.f7.isInstance Try.pinned.checked.prog Rows.driverRunsRow.origin Rows.driverRunsRow.targs := of_decide_eq_true (by kernel_rfl)
theorem driverRuns_wrap : Try.f7.isWrapper Try.pinned.checked.prog Rows.driverRunsRow.wrapper Rows.driverRunsRow.mainSum := by unfold Func.isWrapper; first | (rw [if_pos (by decide +kernel)]; kernel_rfl) | (rw [if_neg (by decide +kernel)]; exact ⟨rfl, rfl⟩)
theorem driverRuns_holds : Rows.DriverRunsSaid :=
  OpenClaim.holds_of_wide 7 Try.f7 rfl rfl rfl rfl rfl rfl rfl ⟨rfl, rfl, rfl, rfl, rfl⟩ rfl rfl rfl rfl rfl driverRuns_named Try.func7 driverRuns_closed driverRuns_inst driverRuns_wrap
    (fun os started H enc _ => driverRuns_lifted os started H enc)
#print axioms driverRuns_holds
end Go.Proofs.Ytfgkljfoalgkaaa
