/-
  The law FuseStates: for all arguments it hands back true, and every argument reads behind the call as it read before. No condition.
-/
import Derived.Test.YtfgkljfoalgkaaaWStates
import Derived.Test.YtfgkljfoalgkaaaRow
namespace Go.Proofs.Ytfgkljfoalgkaaa
open Go.ChangeShapes Go.WideShapes Go.ChangeAt Go.RowKit

theorem fuseStates_rows : ∀ t, t ∈ Try.f14.params.toList → Try.prog.readableRec t = true ∧ t < Try.prog.types.size := by
  intro t ht
  rw [Try.params14] at ht
  simp at ht
  subst ht
  exact ⟨by kernel_rfl, of_decide_eq_true (by kernel_rfl)⟩

set_option maxRecDepth 100000 in
theorem fuseStates_lifted (os : Os) (started : os.Started) (H : Type) (enc : TypeId × Value → H) :
    ReturnsInHanded {} Try.checked os 14 .any (Rows.fuseStatesSpec.pre6 enc Try.prog Try.f14 Rows.fuseStatesRow.domain false) (Rows.fuseStatesSpec.post enc Try.prog Try.f14 false true false false) := by
  refine returnsInHanded_of_change (C := Try.checked) Try.own started (by kernel_rfl) Try.func14
    (ChangeSpec.witness6 (enc := enc) (C := Try.checked) false ⟨#[], #[.agg #[.slice none 0 0, .slice none 0 0, .slice none 0 0]], []⟩ 8 (by kernel_rfl) (by kernel_rfl) (by kernel_rfl) (by kernel_rfl)) ?_
  intro W base args ds gs before hval0 hW _ _
  have hval : ∀ (j : Nat) t v, Try.f14.params[j]? = some t → args[j]? = some v → Value.okWide Try.prog W .any base t v := hval0
  have hW' := hW
  obtain ⟨p, q, hA0, hV, rfl, hfz, _⟩ := hW
  have hA : DataW.TrodAll enc Try.prog W 0 (fun _ => true) true Try.f14.params.toList args.toList ds p := hA0
  rw [Try.params14] at hA hval
  obtain ⟨v0, d0, rfl, rfl, h0⟩ := trodAll_one hA
  obtain ⟨rfl, rfl⟩ := trodVars_none hV
  obtain ⟨a0, b0, c0, n0, m0, l0, F0, C0, S0, rfl, g0, k0, q0⟩ := open_panel (hval 0 66 v0 rfl rfl) h0
  clear hA0 hval0 hfz
  refine (fuseStates_walk a0 b0 c0 n0 m0 l0 F0 C0 S0 W g0 k0 q0).mono fun e W' ⟨he, hb⟩ => ?_
  subst he
  exact ⟨_, rfl, law_post Try.laidOut fuseStates_rows hW' rfl rfl rfl rfl rfl Try.underlying4 hb⟩

theorem fuseStates_named : Try.pinned.checked.prog.funcNamed Rows.fuseStatesRow.func = some 14 := by kernel_rfl
theorem fuseStates_closed : joinedFacts Try.pinned.checked.prog 14 Try.f14 Rows.fuseStatesSpec Rows.fuseStatesRow = true := by kernel_rfl
theorem fuseStates_inst : Try.f14.isInstance Try.pinned.checked.prog Rows.fuseStatesRow.origin Rows.fuseStatesRow.targs := of_decide_eq_true (by kernel_rfl)
theorem fuseStates_wrap : Try.f14.isWrapper Try.pinned.checked.prog Rows.fuseStatesRow.wrapper Rows.fuseStatesRow.mainSum := by unfold Func.isWrapper; first | (rw [if_pos (by decide +kernel)]; kernel_rfl) | (rw [if_neg (by decide +kernel)]; exact ⟨rfl, rfl⟩)
theorem fuseStates_holds : Rows.FuseStatesSaid :=
  OpenClaim.holds_of_wide 14 Try.f14 rfl rfl rfl rfl rfl rfl rfl ⟨rfl, rfl, rfl, rfl, rfl⟩ rfl rfl rfl rfl rfl fuseStates_named Try.func14 fuseStates_closed fuseStates_inst fuseStates_wrap
    (fun os started H enc _ => fuseStates_lifted os started H enc)
#print axioms fuseStates_holds
end Go.Proofs.Ytfgkljfoalgkaaa
