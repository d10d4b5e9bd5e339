/-
  The law FuseReplaces: for all arguments it hands back true, and every argument reads behind the call as it read before. No condition.
-/
import Derived.Test.YtfgkljfoalgkaaaWReps
import Derived.Test.YtfgkljfoalgkaaaRow
namespace Go.Proofs.Ytfgkljfoalgkaaa
open Go.ChangeShapes Go.WideShapes Go.ChangeAt Go.RowKit

theorem fuseReplaces_rows : ∀ t, t ∈ Try.f22.params.toList → Try.prog.readableRec t = true ∧ t < Try.prog.types.size := by
  intro t ht
  rw [Try.params22] at ht
  simp at ht
  rcases ht with rfl | rfl <;> exact ⟨by kernel_rfl, of_decide_eq_true (by kernel_rfl)⟩

set_option maxRecDepth 100000 in
theorem fuseReplaces_lifted (os : Os) (started : os.Started) (H : Type) (enc : TypeId × Value → H) :
    ReturnsInHanded {} Try.checked os 22 .any (Rows.fuseReplacesSpec.pre6 enc Try.prog Try.f22 Rows.fuseReplacesRow.domain false) (Rows.fuseReplacesSpec.post enc Try.prog Try.f22 false true false false) := by
  refine returnsInHanded_of_change (C := Try.checked) Try.own started (by kernel_rfl) Try.func22
    (ChangeSpec.witness6 (enc := enc) (C := Try.checked) false ⟨#[], #[.agg #[.slice none 0 0, .slice none 0 0, .slice none 0 0], .int .i64 0], []⟩ 8 (by kernel_rfl) (by kernel_rfl) (by kernel_rfl) (by kernel_rfl)) ?_
  intro W base args ds gs before hval0 hW _ _
  have hval : ∀ (j : Nat) t v, Try.f22.params[j]? = some t → args[j]? = some v → Value.okWide Try.prog W .any base t v := hval0
  have hW' := hW
  obtain ⟨p, q, hA0, hV, rfl, hfz, _⟩ := hW
  have hA : DataW.TrodAll enc Try.prog W 0 (fun _ => true) true Try.f22.params.toList args.toList ds p := hA0
  rw [Try.params22] at hA hval
  obtain ⟨v0, v1, d0, d1, p0, p1, rfl, rfl, rfl, h0, h1⟩ := trodAll_two hA
  obtain ⟨rfl, rfl⟩ := trodVars_none hV
  obtain ⟨a0, b0, c0, n0, m0, l0, F0, C0, S0, rfl, g0, k0, q0⟩ := open_panel (hval 0 66 v0 rfl rfl) h0
  obtain ⟨x1, rfl, _, _⟩ := open_i64 (hval 1 3 v1 rfl rfl) h1
  clear hA0 hval0 hfz
  refine (fuseReplaces_walk a0 b0 c0 n0 m0 l0 F0 C0 S0 x1 W g0 k0 q0).mono fun e W' ⟨he, hb⟩ => ?_
  subst he
  exact ⟨_, rfl, law_post Try.laidOut fuseReplaces_rows hW' rfl rfl rfl rfl rfl Try.underlying4 hb⟩

theorem fuseReplaces_named : Try.pinned.checked.prog.funcNamed Rows.fuseReplacesRow.func = some 22 := by kernel_rfl
theorem fuseReplaces_closed : joinedFacts Try.pinned.checked.prog 22 Try.f22 Rows.fuseReplacesSpec Rows.fuseReplacesRow = true := by kernel_rfl
theorem fuseReplaces_inst : Try.f22.isInstance Try.pinned.checked.prog Rows.fuseReplacesRow.origin Rows.fuseReplacesRow.targs := of_decide_eq_true (by kernel_rfl)
theorem fuseReplaces_wrap : Try.f22.isWrapper Try.pinned.checked.prog Rows.fuseReplacesRow.wrapper Rows.fuseReplacesRow.mainSum := by unfold Func.isWrapper; first | (rw [if_pos (by decide +kernel)]; kernel_rfl) | (rw [if_neg (by decide +kernel)]; exact ⟨rfl, rfl⟩)
theorem fuseReplaces_holds : Rows.FuseReplacesSaid :=
  OpenClaim.holds_of_wide 22 Try.f22 rfl rfl rfl rfl rfl rfl rfl ⟨rfl, rfl, rfl, rfl, rfl⟩ rfl rfl rfl rfl rfl fuseReplaces_named Try.func22 fuseReplaces_closed fuseReplaces_inst fuseReplaces_wrap
    (fun os started H enc _ => fuseReplaces_lifted os started H enc)
#print axioms fuseReplaces_holds
end Go.Proofs.Ytfgkljfoalgkaaa
