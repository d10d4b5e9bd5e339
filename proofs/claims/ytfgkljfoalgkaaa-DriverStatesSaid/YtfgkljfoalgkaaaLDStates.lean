/-
  The law DriverStates: for all arguments it hands back true, and every argument reads behind the call as it read before. No condition.
-/
import Derived.Test.YtfgkljfoalgkaaaWDStates
import Derived.Test.YtfgkljfoalgkaaaRow3
namespace Go.Proofs.Ytfgkljfoalgkaaa
open Go.ChangeShapes Go.WideShapes Go.ChangeAt Go.RowKit

theorem driverStates_rows : ∀ t, t ∈ Try.f4.params.toList → Try.prog.readableRec t = true ∧ t < Try.prog.types.size := by
  intro t ht
  rw [Try.params4] at ht
  simp at ht
  rcases ht with rfl | rfl <;> exact ⟨by kernel_rfl, of_decide_eq_true (by kernel_rfl)⟩

set_option maxRecDepth 100000 in
theorem driverStates_lifted (os : Os) (started : os.Started) (H : Type) (enc : TypeId × Value → H) :
    ReturnsInHanded {} Try.checked os 4 .any (Rows.driverStatesSpec.pre6 enc Try.prog Try.f4 Rows.driverStatesRow.domain false) (Rows.driverStatesSpec.post enc Try.prog Try.f4 false true false false) := by
  refine returnsInHanded_of_change (C := Try.checked) Try.own started (by kernel_rfl) Try.func4
    (ChangeSpec.witness6 (enc := enc) (C := Try.checked) false ⟨#[], #[.slice none 0 0, .slice none 0 0], []⟩ 8 (by kernel_rfl) (by kernel_rfl) (by kernel_rfl) (by kernel_rfl)) ?_
  intro W base args ds gs before hval0 hW _ _
  have hval : ∀ (j : Nat) t v, Try.f4.params[j]? = some t → args[j]? = some v → Value.okWide Try.prog W .any base t v := hval0
  have hW' := hW
  obtain ⟨p, q, hA0, hV, rfl, hfz, _⟩ := hW
  have hA : DataW.TrodAll enc Try.prog W 0 (fun _ => true) true Try.f4.params.toList args.toList ds p := hA0
  rw [Try.params4] at hA hval
  obtain ⟨v0, v1, d0, d1, p0, p1, rfl, rfl, rfl, h0, h1⟩ := trodAll_two hA
  obtain ⟨rfl, rfl⟩ := trodVars_none hV
  obtain ⟨n0, E0, g0⟩ := open_coils (hval 0 32 v0 rfl rfl) h0
  obtain ⟨n1, E1, g1⟩ := open_drives (hval 1 27 v1 rfl rfl) h1
  clear hA0 hval0 hfz
  refine (driverStates_walk v0 n0 E0 v1 n1 E1 W g0 g1).mono fun e W' ⟨he, hb⟩ => ?_
  subst he
  exact ⟨_, rfl, law_post Try.laidOut driverStates_rows hW' rfl rfl rfl rfl rfl Try.underlying4 hb⟩

theorem driverStates_named : Try.pinned.checked.prog.funcNamed Rows.driverStatesRow.func = some 4 := by kernel_rfl
theorem driverStates_closed : joinedFacts Try.pinned.checked.prog 4 Try.f4 Rows.driverStatesSpec Rows.driverStatesRow = true := by kernel_rfl
theorem driverStates_inst : Try.f4.isInstance Try.pinned.checked.prog Rows.driverStatesRow.origin Rows.driverStatesRow.targs := of_decide_eq_true (by kernel_rfl)
theorem driverStates_wrap : Try.f4.isWrapper Try.pinned.checked.prog Rows.driverStatesRow.wrapper Rows.driverStatesRow.mainSum := by unfold Func.isWrapper; first | (rw [if_pos (by decide +kernel)]; kernel_rfl) | (rw [if_neg (by decide +kernel)]; exact ⟨rfl, rfl⟩)
theorem driverStates_holds : Rows.DriverStatesSaid :=
  OpenClaim.holds_of_wide 4 Try.f4 rfl rfl rfl rfl rfl rfl rfl ⟨rfl, rfl, rfl, rfl, rfl⟩ rfl rfl rfl rfl rfl driverStates_named Try.func4 driverStates_closed driverStates_inst driverStates_wrap
    (fun os started H enc _ => driverStates_lifted os started H enc)
#print axioms driverStates_holds
end Go.Proofs.Ytfgkljfoalgkaaa
