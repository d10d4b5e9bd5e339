/-
  The law DriverTicks: for all arguments it hands back true, and every argument reads behind the call as it read before. No condition.
-/
import Derived.Test.YtfgkljfoalgkaaaWDTicks
import Derived.Test.YtfgkljfoalgkaaaRow3
namespace Go.Proofs.Ytfgkljfoalgkaaa
open Go.ChangeShapes Go.WideShapes Go.ChangeAt Go.RowKit

theorem driverTicks_rows : ∀ t, t ∈ Try.f6.params.toList → Try.prog.readableRec t = true ∧ t < Try.prog.types.size := by
  intro t ht
  rw [Try.params6] at ht
  simp at ht
  rcases ht with rfl | rfl <;> exact ⟨by kernel_rfl, of_decide_eq_true (by kernel_rfl)⟩

set_option maxRecDepth 100000 in
theorem driverTicks_lifted (os : Os) (started : os.Started) (H : Type) (enc : TypeId × Value → H) :
    ReturnsInHanded {} Try.checked os 6 .any (Rows.driverTicksSpec.pre6 enc Try.prog Try.f6 Rows.driverTicksRow.domain false) (Rows.driverTicksSpec.post enc Try.prog Try.f6 false true false false) := by
  refine returnsInHanded_of_change (C := Try.checked) Try.own started (by kernel_rfl) Try.func6
    (ChangeSpec.witness6 (enc := enc) (C := Try.checked) false ⟨#[], #[.slice none 0 0, .slice none 0 0], []⟩ 8 (by kernel_rfl) (by kernel_rfl) (by kernel_rfl) (by kernel_rfl)) ?_
  intro W base args ds gs before hval0 hW _ _
  have hval : ∀ (j : Nat) t v, Try.f6.params[j]? = some t → args[j]? = some v → Value.okWide Try.prog W .any base t v := hval0
  have hW' := hW
  obtain ⟨p, q, hA0, hV, rfl, hfz, _⟩ := hW
  have hA : DataW.TrodAll enc Try.prog W 0 (fun _ => true) true Try.f6.params.toList args.toList ds p := hA0
  rw [Try.params6] at hA hval
  obtain ⟨v0, v1, d0, d1, p0, p1, rfl, rfl, rfl, h0, h1⟩ := trodAll_two hA
  obtain ⟨rfl, rfl⟩ := trodVars_none hV
  obtain ⟨n0, E0, g0⟩ := open_coils (hval 0 32 v0 rfl rfl) h0
  obtain ⟨n1, E1, g1⟩ := open_drives (hval 1 27 v1 rfl rfl) h1
  clear hA0 hval0 hfz
  refine (driverTicks_walk v0 n0 E0 v1 n1 E1 W g0 g1).mono fun e W' ⟨he, hb⟩ => ?_
  subst he
  exact ⟨_, rfl, law_post Try.laidOut driverTicks_rows hW' rfl rfl rfl rfl rfl Try.underlying4 hb⟩

theorem driverTicks_named : Try.pinned.checked.prog.funcNamed Rows.driverTicksRow.func = some 6 := by kernel_rfl
theorem driverTicks_closed : joinedFacts Try.pinned.checked.prog 6 Try.f6 Rows.driverTicksSpec Rows.driverTicksRow = true := by kernel_rfl
theorem driverTicks_inst : Try.f6.isInstance Try.pinned.checked.prog Rows.driverTicksRow.origin Rows.driverTicksRow.targs := of_decide_eq_true (by kernel_rfl)
theorem driverTicks_wrap : Try.f6.isWrapper Try.pinned.checked.prog Rows.driverTicksRow.wrapper Rows.driverTicksRow.mainSum := by unfold Func.isWrapper; first | (rw [if_pos (by decide +kernel)]; kernel_rfl) | (rw [if_neg (by decide +kernel)]; exact ⟨rfl, rfl⟩)
theorem driverTicks_holds : Rows.DriverTicksSaid :=
  OpenClaim.holds_of_wide 6 Try.f6 rfl rfl rfl rfl rfl rfl rfl ⟨rfl, rfl, rfl, rfl, rfl⟩ rfl rfl rfl rfl rfl driverTicks_named Try.func6 driverTicks_closed driverTicks_inst driverTicks_wrap
    (fun os started H enc _ => driverTicks_lifted os started H enc)
#print axioms driverTicks_holds
end Go.Proofs.Ytfgkljfoalgkaaa
