/-
  The law DriverLimits: for all arguments it hands back true, and every argument reads behind the call as it read before. No condition.
-/
import Derived.Test.YtfgkljfoalgkaaaWLimits
import Derived.Test.YtfgkljfoalgkaaaRow3
namespace Go.Proofs.Ytfgkljfoalgkaaa
open Go.ChangeShapes Go.WideShapes Go.ChangeAt Go.RowKit

theorem driverLimits_rows : ∀ t, t ∈ Try.f3.params.toList → Try.prog.readableRec t = true ∧ t < Try.prog.types.size := by
  intro t ht
  rw [Try.params3] at ht
  simp at ht
  rcases ht with rfl | rfl <;> exact ⟨by kernel_rfl, of_decide_eq_true (by kernel_rfl)⟩

set_option maxRecDepth 100000 in
theorem driverLimits_lifted (os : Os) (started : os.Started) (H : Type) (enc : TypeId × Value → H) :
    ReturnsInHanded {} Try.checked os 3 .any (Rows.driverLimitsSpec.pre6 enc Try.prog Try.f3 Rows.driverLimitsRow.domain false) (Rows.driverLimitsSpec.post enc Try.prog Try.f3 false true false false) := by
  refine returnsInHanded_of_change (C := Try.checked) Try.own started (by kernel_rfl) Try.func3
    (ChangeSpec.witness6 (enc := enc) (C := Try.checked) false ⟨#[], #[.int .u8 0, .bool false], []⟩ 8 (by kernel_rfl) (by kernel_rfl) (by kernel_rfl) (by kernel_rfl)) ?_
  intro W base args ds gs before hval0 hW _ _
  have hval : ∀ (j : Nat) t v, Try.f3.params[j]? = some t → args[j]? = some v → Value.okWide Try.prog W .any base t v := hval0
  have hW' := hW
  obtain ⟨p, q, hA0, hV, rfl, hfz, _⟩ := hW
  have hA : DataW.TrodAll enc Try.prog W 0 (fun _ => true) true Try.f3.params.toList args.toList ds p := hA0
  rw [Try.params3] at hA hval
  obtain ⟨v0, v1, d0, d1, p0, p1, rfl, rfl, rfl, h0, h1⟩ := trodAll_two hA
  obtain ⟨rfl, rfl⟩ := trodVars_none hV
  obtain ⟨x0, rfl, y0, z0⟩ := open_u8 (hval 0 5 v0 rfl rfl) h0
  obtain ⟨x1, rfl⟩ := open_boolv (hval 1 4 v1 rfl rfl)
  clear hA0 hval0 hfz
  refine (driverLimits_walk x0 x1 W y0 z0).mono fun e W' ⟨he, hb⟩ => ?_
  subst he
  exact ⟨_, rfl, law_post Try.laidOut driverLimits_rows hW' rfl rfl rfl rfl rfl Try.underlying4 hb⟩

theorem driverLimits_named : Try.pinned.checked.prog.funcNamed Rows.driverLimitsRow.func = some 3 := by kernel_rfl
theorem driverLimits_closed : joinedFacts Try.pinned.checked.prog 3 Try.f3 Rows.driverLimitsSpec Rows.driverLimitsRow = true := by kernel_rfl
theorem driverLimits_inst : Try.f3.isInstance Try.pinned.checked.prog Rows.driverLimitsRow.origin Rows.driverLimitsRow.targs := of_decide_eq_true (by kernel_rfl)
theorem driverLimits_wrap : Try.f3.isWrapper Try.pinned.checked.prog Rows.driverLimitsRow.wrapper Rows.driverLimitsRow.mainSum := by unfold Func.isWrapper; first | (rw [if_pos (by decide +kernel)]; kernel_rfl) | (rw [if_neg (by decide +kernel)]; exact ⟨rfl, rfl⟩)
theorem driverLimits_holds : Rows.DriverLimitsSaid :=
  OpenClaim.holds_of_wide 3 Try.f3 rfl rfl rfl rfl rfl rfl rfl ⟨rfl, rfl, rfl, rfl, rfl⟩ rfl rfl rfl rfl rfl driverLimits_named Try.func3 driverLimits_closed driverLimits_inst driverLimits_wrap
    (fun os started H enc _ => driverLimits_lifted os started H enc)
#print axioms driverLimits_holds
end Go.Proofs.Ytfgkljfoalgkaaa
