/-
  The law DriverPulses: for all arguments it hands back true, and every argument reads behind the call as it read before. No condition.
-/
import Derived.Test.YtfgkljfoalgkaaaWPulses
import Derived.Test.YtfgkljfoalgkaaaRow6
namespace Go.Proofs.Ytfgkljfoalgkaaa
open Go.ChangeShapes Go.WideShapes Go.ChangeAt Go.RowKit

theorem driverPulses_rows : ∀ t, t ∈ Try.f10.params.toList → Try.prog.readableRec t = true ∧ t < Try.prog.types.size := by
  intro t ht
  rw [Try.params10] at ht
  simp at ht
  rcases ht with rfl | rfl | rfl <;> exact ⟨by kernel_rfl, of_decide_eq_true (by kernel_rfl)⟩

set_option maxRecDepth 100000 in
theorem driverPulses_lifted (os : Os) (started : os.Started) (H : Type) (enc : TypeId × Value → H) :
    ReturnsInHanded {} Try.checked os 10 .any (Rows.driverPulsesSpec.pre6 enc Try.prog Try.f10 Rows.driverPulsesRow.domain false) (Rows.driverPulsesSpec.post enc Try.prog Try.f10 false true false false) := by
  refine returnsInHanded_of_change (C := Try.checked) Try.own started (by kernel_rfl) Try.func10
    (ChangeSpec.witness6 (enc := enc) (C := Try.checked) false ⟨#[], #[.int .u8 0, .int .u8 0, .slice none 0 0], []⟩ 8 (by kernel_rfl) (by kernel_rfl) (by kernel_rfl) (by kernel_rfl)) ?_
  intro W base args ds gs before hval0 hW _ _
  have hval : ∀ (j : Nat) t v, Try.f10.params[j]? = some t → args[j]? = some v → Value.okWide Try.prog W .any base t v := hval0
  have hW' := hW
  obtain ⟨p, q, hA0, hV, rfl, hfz, _⟩ := hW
  have hA : DataW.TrodAll enc Try.prog W 0 (fun _ => true) true Try.f10.params.toList args.toList ds p := hA0
  rw [Try.params10] at hA hval
  obtain ⟨v0, v1, v2, d0, d1, d2, p0, p1, p2, rfl, rfl, rfl, h0, h1, h2⟩ := trodAll_three hA
  obtain ⟨rfl, rfl⟩ := trodVars_none hV
  obtain ⟨x0, rfl, y0, z0⟩ := open_u8 (hval 0 5 v0 rfl rfl) h0
  obtain ⟨x1, rfl, y1, z1⟩ := open_u8 (hval 1 5 v1 rfl rfl) h1
  obtain ⟨l2, E2, g2⟩ := open_u8s (hval 2 58 v2 rfl rfl) h2
  clear hA0 hval0 hfz
  refine (driverPulses_walk x0 x1 v2 l2 E2 W y0 z0 y1 z1 g2).mono fun e W' ⟨he, hb⟩ => ?_
  subst he
  exact ⟨_, rfl, law_post Try.laidOut driverPulses_rows hW' rfl rfl rfl rfl rfl Try.underlying4 hb⟩

theorem driverPulses_named : Try.pinned.checked.prog.funcNamed Rows.driverPulsesRow.func = some 10 := by kernel_rfl
theorem driverPulses_closed : joinedFacts Try.pinned.checked.prog 10 Try.f10 Rows.driverPulsesSpec Rows.driverPulsesRow = true := by kernel_rfl
theorem driverPulses_inst : Try.f10.isInstance Try.pinned.checked.prog Rows.driverPulsesRow.origin Rows.driverPulsesRow.targs := of_decide_eq_true (by kernel_rfl)
theorem driverPulses_wrap : Try.f10.isWrapper Try.pinned.checked.prog Rows.driverPulsesRow.wrapper Rows.driverPulsesRow.mainSum := by unfold Func.isWrapper; first | (rw [if_pos (by decide +kernel)]; kernel_rfl) | (rw [if_neg (by decide +kernel)]; exact ⟨rfl, rfl⟩)
theorem driverPulses_holds : Rows.DriverPulsesSaid :=
  OpenClaim.holds_of_wide 10 Try.f10 rfl rfl rfl rfl rfl rfl rfl ⟨rfl, rfl, rfl, rfl, rfl⟩ rfl rfl rfl rfl rfl driverPulses_named Try.func10 driverPulses_closed driverPulses_inst driverPulses_wrap
    (fun os started H enc _ => driverPulses_lifted os started H enc)
#print axioms driverPulses_holds
end Go.Proofs.Ytfgkljfoalgkaaa
