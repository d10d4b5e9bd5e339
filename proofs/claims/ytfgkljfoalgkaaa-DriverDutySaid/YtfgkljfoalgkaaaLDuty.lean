/-
  The law DriverDuty: for all arguments it hands back true, and every argument reads behind the call as it read before. No condition.
-/
import Derived.Test.YtfgkljfoalgkaaaWDuty
import Derived.Test.YtfgkljfoalgkaaaRow5
namespace Go.Proofs.Ytfgkljfoalgkaaa
open Go.ChangeShapes Go.WideShapes Go.ChangeAt Go.RowKit

theorem driverDuty_rows : ∀ t, t ∈ Try.f11.params.toList → Try.prog.readableRec t = true ∧ t < Try.prog.types.size := by
  intro t ht
  rw [Try.params11] at ht
  simp at ht
  subst ht
  exact ⟨by kernel_rfl, of_decide_eq_true (by kernel_rfl)⟩

set_option maxRecDepth 100000 in
theorem driverDuty_lifted (os : Os) (started : os.Started) (H : Type) (enc : TypeId × Value → H) :
    ReturnsInHanded {} Try.checked os 11 .any (Rows.driverDutySpec.pre6 enc Try.prog Try.f11 Rows.driverDutyRow.domain false) (Rows.driverDutySpec.post enc Try.prog Try.f11 false true false false) := by
  refine returnsInHanded_of_change (C := Try.checked) Try.own started (by kernel_rfl) Try.func11
    (ChangeSpec.witness6 (enc := enc) (C := Try.checked) false ⟨#[], #[.int .u8 0, .int .u8 0, .int .u8 0], []⟩ 8 (by kernel_rfl) (by kernel_rfl) (by kernel_rfl) (by kernel_rfl)) ?_
  intro W base args ds gs before hval0 hW _ _
  have hval : ∀ (j : Nat) t v, Try.f11.params[j]? = some t → args[j]? = some v → Value.okWide Try.prog W .any base t v := hval0
  have hW' := hW
  obtain ⟨p, q, hA0, hV, rfl, hfz, _⟩ := hW
  have hA : DataW.TrodAll enc Try.prog W 0 (fun _ => true) true Try.f11.params.toList args.toList ds p := hA0
  rw [Try.params11] at hA hval
  obtain ⟨v0, v1, v2, d0, d1, d2, p0, p1, p2, rfl, rfl, rfl, h0, h1, h2⟩ := trodAll_three hA
  obtain ⟨rfl, rfl⟩ := trodVars_none hV
  obtain ⟨x0, rfl, y0, z0⟩ := open_u8 (hval 0 5 v0 rfl rfl) h0
  obtain ⟨x1, rfl, y1, z1⟩ := open_u8 (hval 1 5 v1 rfl rfl) h1
  obtain ⟨x2, rfl, y2, z2⟩ := open_u8 (hval 2 5 v2 rfl rfl) h2
  clear hA0 hval0 hfz
  refine (driverDuty_walk x0 x1 x2 W y0 z0 y1 z1 y2 z2).mono fun e W' ⟨he, hb⟩ => ?_
  subst he
  exact ⟨_, rfl, law_post Try.laidOut driverDuty_rows hW' rfl rfl rfl rfl rfl Try.underlying4 hb⟩

theorem driverDuty_named : Try.pinned.checked.prog.funcNamed Rows.driverDutyRow.func = some 11 := by kernel_rfl
theorem driverDuty_closed : joinedFacts Try.pinned.checked.prog 11 Try.f11 Rows.driverDutySpec Rows.driverDutyRow = true := by kernel_rfl
theorem driverDuty_inst : Try.f11.isInstance Try.pinned.checked.prog Rows.driverDutyRow.origin Rows.driverDutyRow.targs := of_decide_eq_true (by kernel_rfl)
theorem driverDuty_wrap : Try.f11.isWrapper Try.pinned.checked.prog Rows.driverDutyRow.wrapper Rows.driverDutyRow.mainSum := by unfold Func.isWrapper; first | (rw [if_pos (by decide +kernel)]; kernel_rfl) | (rw [if_neg (by decide +kernel)]; exact ⟨rfl, rfl⟩)
theorem driverDuty_holds : Rows.DriverDutySaid :=
  OpenClaim.holds_of_wide 11 Try.f11 rfl rfl rfl rfl rfl rfl rfl ⟨rfl, rfl, rfl, rfl, rfl⟩ rfl rfl rfl rfl rfl driverDuty_named Try.func11 driverDuty_closed driverDuty_inst driverDuty_wrap
    (fun os started H enc _ => driverDuty_lifted os started H enc)
#print axioms driverDuty_holds
end Go.Proofs.Ytfgkljfoalgkaaa
