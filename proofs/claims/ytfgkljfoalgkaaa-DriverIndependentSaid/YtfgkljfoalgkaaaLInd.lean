/-
  The law DriverIndependent: for all arguments it hands back true, and every argument reads behind the call as it read before. No condition.
-/
import Derived.Test.YtfgkljfoalgkaaaWInd
import Derived.Test.YtfgkljfoalgkaaaRow5
namespace Go.Proofs.Ytfgkljfoalgkaaa
open Go.ChangeShapes Go.WideShapes Go.ChangeAt Go.RowKit

theorem driverIndependent_rows : ∀ t, t ∈ Try.f9.params.toList → Try.prog.readableRec t = true ∧ t < Try.prog.types.size := by
  intro t ht
  rw [Try.params9] at ht
  simp at ht
  rcases ht with rfl | rfl <;> exact ⟨by kernel_rfl, of_decide_eq_true (by kernel_rfl)⟩

set_option maxRecDepth 100000 in
theorem driverIndependent_lifted (os : Os) (started : os.Started) (H : Type) (enc : TypeId × Value → H) :
    ReturnsInHanded {} Try.checked os 9 .any (Rows.driverIndependentSpec.pre6 enc Try.prog Try.f9 Rows.driverIndependentRow.domain false) (Rows.driverIndependentSpec.post enc Try.prog Try.f9 false true false false) := by
  refine returnsInHanded_of_change (C := Try.checked) Try.own started (by kernel_rfl) Try.func9
    (ChangeSpec.witness6 (enc := enc) (C := Try.checked) false ⟨#[], #[.agg #[.slice none 0 0, .slice none 0 0], .int .u8 0], []⟩ 8 (by kernel_rfl) (by kernel_rfl) (by kernel_rfl) (by kernel_rfl)) ?_
  intro W base args ds gs before hval0 hW _ _
  have hval : ∀ (j : Nat) t v, Try.f9.params[j]? = some t → args[j]? = some v → Value.okWide Try.prog W .any base t v := hval0
  have hW' := hW
  obtain ⟨p, q, hA0, hV, rfl, hfz, _⟩ := hW
  have hA : DataW.TrodAll enc Try.prog W 0 (fun _ => true) true Try.f9.params.toList args.toList ds p := hA0
  rw [Try.params9] at hA hval
  obtain ⟨v0, v1, d0, d1, p0, p1, rfl, rfl, rfl, h0, h1⟩ := trodAll_two hA
  obtain ⟨rfl, rfl⟩ := trodVars_none hV
  obtain ⟨a0, n0, k0, b0, m0, q0, C0, L0, rfl, g0, l0, c0, e0, f0⟩ := open_scene4 (hval 0 50 v0 rfl rfl) h0
  obtain ⟨x1, rfl, y1, z1⟩ := open_u8 (hval 1 5 v1 rfl rfl) h1
  clear hA0 hval0 hfz
  refine (driverIndependent_walk a0 n0 k0 b0 m0 q0 C0 L0 x1 W g0 l0 c0 e0 f0 y1 z1).mono fun e W' ⟨he, hb⟩ => ?_
  subst he
  exact ⟨_, rfl, law_post Try.laidOut driverIndependent_rows hW' rfl rfl rfl rfl rfl Try.underlying4 hb⟩

theorem driverIndependent_named : Try.pinned.checked.prog.funcNamed Rows.driverIndependentRow.func = some 9 := by kernel_rfl
theorem driverIndependent_closed : joinedFacts Try.pinned.checked.prog 9 Try.f9 Rows.driverIndependentSpec Rows.driverIndependentRow = true := by kernel_rfl
theorem driverIndependent_inst : Try.f9.isInstance Try.pinned.checked.prog Rows.driverIndependentRow.origin Rows.driverIndependentRow.targs := of_decide_eq_true (by kernel_rfl)
theorem driverIndependent_wrap : Try.f9.isWrapper Try.pinned.checked.prog Rows.driverIndependentRow.wrapper Rows.driverIndependentRow.mainSum := by unfold Func.isWrapper; first | (rw [if_pos (by decide +kernel)]; kernel_rfl) | (rw [if_neg (by decide +kernel)]; exact ⟨rfl, rfl⟩)
theorem driverIndependent_holds : Rows.DriverIndependentSaid :=
  OpenClaim.holds_of_wide 9 Try.f9 rfl rfl rfl rfl rfl rfl rfl ⟨rfl, rfl, rfl, rfl, rfl⟩ rfl rfl rfl rfl rfl driverIndependent_named Try.func9 driverIndependent_closed driverIndependent_inst driverIndependent_wrap
    (fun os started H enc _ => driverIndependent_lifted os started H enc)
#print axioms driverIndependent_holds
end Go.Proofs.Ytfgkljfoalgkaaa
