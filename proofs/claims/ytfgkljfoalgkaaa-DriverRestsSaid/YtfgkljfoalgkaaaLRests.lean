/-
  The law DriverRests: for all arguments it hands back true, and every argument reads behind the call as it read before. No condition.
-/
import Derived.Test.YtfgkljfoalgkaaaWRests
import Derived.Test.YtfgkljfoalgkaaaRow5
namespace Go.Proofs.Ytfgkljfoalgkaaa
open Go.ChangeShapes Go.WideShapes Go.ChangeAt Go.RowKit

theorem driverRests_rows : ∀ t, t ∈ Try.f12.params.toList → Try.prog.readableRec t = true ∧ t < Try.prog.types.size := by
  intro t ht
  rw [Try.params12] at ht
  simp at ht
  subst ht
  exact ⟨by kernel_rfl, of_decide_eq_true (by kernel_rfl)⟩

set_option maxRecDepth 100000 in
theorem driverRests_lifted (os : Os) (started : os.Started) (H : Type) (enc : TypeId × Value → H) :
    ReturnsInHanded {} Try.checked os 12 .any (Rows.driverRestsSpec.pre6 enc Try.prog Try.f12 Rows.driverRestsRow.domain false) (Rows.driverRestsSpec.post enc Try.prog Try.f12 false true false false) := by
  refine returnsInHanded_of_change (C := Try.checked) Try.own started (by kernel_rfl) Try.func12
    (ChangeSpec.witness6 (enc := enc) (C := Try.checked) false ⟨#[], #[.agg #[.slice none 0 0, .slice none 0 0]], []⟩ 8 (by kernel_rfl) (by kernel_rfl) (by kernel_rfl) (by kernel_rfl)) ?_
  intro W base args ds gs before hval0 hW _ _
  have hval : ∀ (j : Nat) t v, Try.f12.params[j]? = some t → args[j]? = some v → Value.okWide Try.prog W .any base t v := hval0
  have hW' := hW
  obtain ⟨p, q, hA0, hV, rfl, hfz, _⟩ := hW
  have hA : DataW.TrodAll enc Try.prog W 0 (fun _ => true) true Try.f12.params.toList args.toList ds p := hA0
  rw [Try.params12] at hA hval
  obtain ⟨v0, d0, rfl, rfl, h0⟩ := trodAll_one hA
  obtain ⟨rfl, rfl⟩ := trodVars_none hV
  obtain ⟨a0, n0, k0, b0, m0, q0, C0, L0, rfl, g0, l0, c0, e0, f0⟩ := open_scene4 (hval 0 50 v0 rfl rfl) h0
  clear hA0 hval0 hfz
  refine (driverRests_walk a0 n0 k0 b0 m0 q0 C0 L0 W g0 l0 c0 e0 f0).mono fun e W' ⟨he, hb⟩ => ?_
  subst he
  exact ⟨_, rfl, law_post Try.laidOut driverRests_rows hW' rfl rfl rfl rfl rfl Try.underlying4 hb⟩

theorem driverRests_named : Try.pinned.checked.prog.funcNamed Rows.driverRestsRow.func = some 12 := by kernel_rfl
theorem driverRests_closed : joinedFacts Try.pinned.checked.prog 12 Try.f12 Rows.driverRestsSpec Rows.driverRestsRow = true := by kernel_rfl
theorem driverRests_inst : Try.f12.isInstance Try.pinned.checked.prog Rows.driverRestsRow.origin Rows.driverRestsRow.targs := of_decide_eq_true (by kernel_rfl)
theorem driverRests_wrap : Try.f12.isWrapper Try.pinned.checked.prog Rows.driverRestsRow.wrapper Rows.driverRestsRow.mainSum := by unfold Func.isWrapper; first | (rw [if_pos (by decide +kernel)]; kernel_rfl) | (rw [if_neg (by decide +kernel)]; exact ⟨rfl, rfl⟩)
theorem driverRests_holds : Rows.DriverRestsSaid :=
  OpenClaim.holds_of_wide 12 Try.f12 rfl rfl rfl rfl rfl rfl rfl ⟨rfl, rfl, rfl, rfl, rfl⟩ rfl rfl rfl rfl rfl driverRests_named Try.func12 driverRests_closed driverRests_inst driverRests_wrap
    (fun os started H enc _ => driverRests_lifted os started H enc)
#print axioms driverRests_holds
end Go.Proofs.Ytfgkljfoalgkaaa
