/-
  The law FuseHolds: for all arguments it hands back true, and every argument reads behind the call as it read before. No condition.
-/
import Derived.Test.YtfgkljfoalgkaaaWHolds
import Derived.Test.YtfgkljfoalgkaaaRow2
namespace Go.Proofs.Ytfgkljfoalgkaaa
open Go.ChangeShapes Go.WideShapes Go.ChangeAt Go.RowKit

theorem fuseHolds_rows : ∀ t, t ∈ Try.f18.params.toList → Try.prog.readableRec t = true ∧ t < Try.prog.types.size := by
  intro t ht
  rw [Try.params18] at ht
  simp at ht
  rcases ht with rfl | rfl <;> exact ⟨by kernel_rfl, of_decide_eq_true (by kernel_rfl)⟩

set_option maxRecDepth 100000 in
theorem fuseHolds_lifted (os : Os) (started : os.Started) (H : Type) (enc : TypeId × Value → H) :
    ReturnsInHanded {} Try.checked os 18 .any (Rows.fuseHoldsSpec.pre6 enc Try.prog Try.f18 Rows.fuseHoldsRow.domain false) (Rows.fuseHoldsSpec.post enc Try.prog Try.f18 false true false false) := by
  refine returnsInHanded_of_change (C := Try.checked) Try.own started (by kernel_rfl) Try.func18
    (ChangeSpec.witness6 (enc := enc) (C := Try.checked) false ⟨#[], #[.agg #[.slice none 0 0, .slice none 0 0, .slice none 0 0], .slice none 0 0], []⟩ 8 (by kernel_rfl) (by kernel_rfl) (by kernel_rfl) (by kernel_rfl)) ?_
  intro W base args ds gs before hval0 hW _ _
  have hval : ∀ (j : Nat) t v, Try.f18.params[j]? = some t → args[j]? = some v → Value.okWide Try.prog W .any base t v := hval0
  have hW' := hW
  obtain ⟨p, q, hA0, hV, rfl, hfz, _⟩ := hW
  have hA : DataW.TrodAll enc Try.prog W 0 (fun _ => true) true Try.f18.params.toList args.toList ds p := hA0
  rw [Try.params18] at hA hval
  obtain ⟨v0, v1, d0, d1, p0, p1, rfl, rfl, rfl, h0, h1⟩ := trodAll_two hA
  obtain ⟨rfl, rfl⟩ := trodVars_none hV
  obtain ⟨a0, b0, c0, n0, m0, l0, F0, C0, S0, rfl, g0, k0, q0⟩ := open_panel (hval 0 66 v0 rfl rfl) h0
  obtain ⟨l1, E1, g1⟩ := open_u32s (hval 1 28 v1 rfl rfl) h1
  clear hA0 hval0 hfz
  refine (fuseHolds_walk a0 b0 c0 n0 m0 l0 F0 C0 S0 v1 l1 E1 W g0 k0 q0 g1).mono fun e W' ⟨he, hb⟩ => ?_
  subst he
  exact ⟨_, rfl, law_post Try.laidOut fuseHolds_rows hW' rfl rfl rfl rfl rfl Try.underlying4 hb⟩

theorem fuseHolds_named : Try.pinned.checked.prog.funcNamed Rows.fuseHoldsRow.func = some 18 := by kernel_rfl
theorem fuseHolds_closed : joinedFacts Try.pinned.checked.prog 18 Try.f18 Rows.fuseHoldsSpec Rows.fuseHoldsRow = true := by kernel_rfl
theorem fuseHolds_inst : Try.f18.isInstance Try.pinned.checked.prog Rows.fuseHoldsRow.origin Rows.fuseHoldsRow.targs := of_decide_eq_true (by kernel_rfl)
theorem fuseHolds_wrap : Try.f18.isWrapper Try.pinned.checked.prog Rows.fuseHoldsRow.wrapper Rows.fuseHoldsRow.mainSum := by unfold Func.isWrapper; first | (rw [if_pos (by decide +kernel)]; kernel_rfl) | (rw [if_neg (by decide +kernel)]; exact ⟨rfl, rfl⟩)
theorem fuseHolds_holds : Rows.FuseHoldsSaid :=
  OpenClaim.holds_of_wide 18 Try.f18 rfl rfl rfl rfl rfl rfl rfl ⟨rfl, rfl, rfl, rfl, rfl⟩ rfl rfl rfl rfl rfl fuseHolds_named Try.func18 fuseHolds_closed fuseHolds_inst fuseHolds_wrap
    (fun os started H enc _ => fuseHolds_lifted os started H enc)
#print axioms fuseHolds_holds
end Go.Proofs.Ytfgkljfoalgkaaa
