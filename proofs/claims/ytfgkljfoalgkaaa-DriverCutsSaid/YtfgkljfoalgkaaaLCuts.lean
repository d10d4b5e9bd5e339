/-
  The law DriverCuts: for all arguments it hands back true, and every argument reads behind the call as it read before. No condition.
-/
import Derived.Test.YtfgkljfoalgkaaaWCuts
import Derived.Test.YtfgkljfoalgkaaaRow5
namespace Go.Proofs.Ytfgkljfoalgkaaa
open Go.ChangeShapes Go.WideShapes Go.ChangeAt Go.RowKit

theorem driverCuts_rows : ∀ t, t ∈ Try.f13.params.toList → Try.prog.readableRec t = true ∧ t < Try.prog.types.size := by
  intro t ht
  rw [Try.params13] at ht
  simp at ht
  rcases ht with rfl | rfl <;> exact ⟨by kernel_rfl, of_decide_eq_true (by kernel_rfl)⟩

set_option maxRecDepth 100000 in
theorem driverCuts_lifted (os : Os) (started : os.Started) (H : Type) (enc : TypeId × Value → H) :
    ReturnsInHanded {} Try.checked os 13 .any (Rows.driverCutsSpec.pre6 enc Try.prog Try.f13 Rows.driverCutsRow.domain false) (Rows.driverCutsSpec.post enc Try.prog Try.f13 false true false false) := by
  refine returnsInHanded_of_change (C := Try.checked) Try.own started (by kernel_rfl) Try.func13
    (ChangeSpec.witness6 (enc := enc) (C := Try.checked) false ⟨#[], #[.agg #[.slice none 0 0, .slice none 0 0], .int .u8 0], []⟩ 8 (by kernel_rfl) (by kernel_rfl) (by kernel_rfl) (by kernel_rfl)) ?_
  intro W base args ds gs before hval0 hW _ _
  have hval : ∀ (j : Nat) t v, Try.f13.params[j]? = some t → args[j]? = some v → Value.okWide Try.prog W .any base t v := hval0
  have hW' := hW
  obtain ⟨p, q, hA0, hV, rfl, hfz, _⟩ := hW
  have hA : DataW.TrodAll enc Try.prog W 0 (fun _ => true) true Try.f13.params.toList args.toList ds p := hA0
  rw [Try.params13] at hA hval
  obtain ⟨v0, v1, d0, d1, p0, p1, rfl, rfl, rfl, h0, h1⟩ := trodAll_two hA
  obtain ⟨rfl, rfl⟩ := trodVars_none hV
  obtain ⟨a0, n0, k0, b0, m0, q0, C0, L0, rfl, g0, l0, c0, e0, f0⟩ := open_scene4 (hval 0 50 v0 rfl rfl) h0
  obtain ⟨x1, rfl, y1, z1⟩ := open_u8 (hval 1 5 v1 rfl rfl) h1
  clear hA0 hval0 hfz
  refine (driverCuts_walk a0 n0 k0 b0 m0 q0 C0 L0 x1 W g0 l0 c0 e0 f0 y1 z1).mono fun e W' ⟨he, hb⟩ => ?_
  subst he
  exact ⟨_, rfl, law_post Try.laidOut driverCuts_rows hW' rfl rfl rfl rfl rfl Try.underlying4 hb⟩

theorem driverCuts_named : Try.pinned.checked.prog.funcNamed Rows.driverCutsRow.func = some 13 := by kernel_rfl
theorem driverCuts_closed : joinedFacts Try.pinned.checked.prog 13 Try.f13 Rows.driverCutsSpec Rows.driverCutsRow = true := by kernel_rfl
theorem driverCuts_inst : Try.f13.isInstance Try.pinned.checked.prog Rows.driverCutsRow.origin Rows.driverCutsRow.targs := of_decide_eq_true (by kernel_rfl)
theorem driverCuts_wrap : Try.f13.isWrapper Try.pinned.checked.prog Rows.driverCutsRow.wrapper Rows.driverCutsRow.mainSum := by unfold Func.isWrapper; first | (rw [if_pos (by decide +kernel)]; kernel_rfl) | (rw [if_neg (by decide +kernel)]; exact ⟨rfl, rfl⟩)
theorem driverCuts_holds : Rows.DriverCutsSaid :=
  OpenClaim.holds_of_wide 13 Try.f13 rfl rfl rfl rfl rfl rfl rfl ⟨rfl, rfl, rfl, rfl, rfl⟩ rfl rfl rfl rfl rfl driverCuts_named Try.func13 driverCuts_closed driverCuts_inst driverCuts_wrap
    (fun os started H enc _ => driverCuts_lifted os started H enc)
#print axioms driverCuts_holds
end Go.Proofs.Ytfgkljfoalgkaaa
