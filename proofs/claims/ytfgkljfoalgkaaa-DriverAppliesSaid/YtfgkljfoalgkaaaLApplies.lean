/-
  The law DriverApplies: for all arguments it hands back true, and every argument reads behind the call as it read before. No condition.
-/
import Derived.Test.YtfgkljfoalgkaaaWApplies
import Derived.Test.YtfgkljfoalgkaaaRow5
namespace Go.Proofs.Ytfgkljfoalgkaaa
open Go.ChangeShapes Go.WideShapes Go.ChangeAt Go.RowKit

theorem driverApplies_rows : ∀ t, t ∈ Try.f5.params.toList → Try.prog.readableRec t = true ∧ t < Try.prog.types.size := by
  intro t ht
  rw [Try.params5] at ht
  simp at ht
  rcases ht with rfl | rfl | rfl <;> exact ⟨by kernel_rfl, of_decide_eq_true (by kernel_rfl)⟩

set_option maxRecDepth 100000 in
theorem driverApplies_lifted (os : Os) (started : os.Started) (H : Type) (enc : TypeId × Value → H) :
    ReturnsInHanded {} Try.checked os 5 .any (Rows.driverAppliesSpec.pre6 enc Try.prog Try.f5 Rows.driverAppliesRow.domain false) (Rows.driverAppliesSpec.post enc Try.prog Try.f5 false true false false) := by
  refine returnsInHanded_of_change (C := Try.checked) Try.own started (by kernel_rfl) Try.func5
    (ChangeSpec.witness6 (enc := enc) (C := Try.checked) false ⟨#[], #[.slice none 0 0, .slice none 0 0, .agg #[.int .i64 0, .int .i64 0]], []⟩ 8 (by kernel_rfl) (by kernel_rfl) (by kernel_rfl) (by kernel_rfl)) ?_
  intro W base args ds gs before hval0 hW _ _
  have hval : ∀ (j : Nat) t v, Try.f5.params[j]? = some t → args[j]? = some v → Value.okWide Try.prog W .any base t v := hval0
  have hW' := hW
  obtain ⟨p, q, hA0, hV, rfl, hfz, _⟩ := hW
  have hA : DataW.TrodAll enc Try.prog W 0 (fun _ => true) true Try.f5.params.toList args.toList ds p := hA0
  rw [Try.params5] at hA hval
  obtain ⟨v0, v1, v2, d0, d1, d2, p0, p1, p2, rfl, rfl, rfl, h0, h1, h2⟩ := trodAll_three hA
  obtain ⟨rfl, rfl⟩ := trodVars_none hV
  obtain ⟨n0, E0, g0⟩ := open_coils (hval 0 32 v0 rfl rfl) h0
  obtain ⟨n1, E1, g1⟩ := open_drives (hval 1 27 v1 rfl rfl) h1
  obtain ⟨x2, y2, rfl⟩ := open_order (hval 2 43 v2 rfl rfl) h2
  clear hA0 hval0 hfz
  refine (driverApplies_walk v0 n0 E0 v1 n1 E1 x2 y2 W g0 g1).mono fun e W' ⟨he, hb⟩ => ?_
  subst he
  exact ⟨_, rfl, law_post Try.laidOut driverApplies_rows hW' rfl rfl rfl rfl rfl Try.underlying4 hb⟩

theorem driverApplies_named : Try.pinned.checked.prog.funcNamed Rows.driverAppliesRow.func = some 5 := by kernel_rfl
theorem driverApplies_closed : joinedFacts Try.pinned.checked.prog 5 Try.f5 Rows.driverAppliesSpec Rows.driverAppliesRow = true := by kernel_rfl
theorem driverApplies_inst : Try.f5.isInstance Try.pinned.checked.prog Rows.driverAppliesRow.origin Rows.driverAppliesRow.targs := of_decide_eq_true (by kernel_rfl)
theorem driverApplies_wrap : Try.f5.isWrapper Try.pinned.checked.prog Rows.driverAppliesRow.wrapper Rows.driverAppliesRow.mainSum := by unfold Func.isWrapper; first | (rw [if_pos (by decide +kernel)]; kernel_rfl) | (rw [if_neg (by decide +kernel)]; exact ⟨rfl, rfl⟩)
theorem driverApplies_holds : Rows.DriverAppliesSaid :=
  OpenClaim.holds_of_wide 5 Try.f5 rfl rfl rfl rfl rfl rfl rfl ⟨rfl, rfl, rfl, rfl, rfl⟩ rfl rfl rfl rfl rfl driverApplies_named Try.func5 driverApplies_closed driverApplies_inst driverApplies_wrap
    (fun os started H enc _ => driverApplies_lifted os started H enc)
#print axioms driverApplies_holds
end Go.Proofs.Ytfgkljfoalgkaaa
