/-
  The law FuseTicks: for all arguments it hands back true, and every argument reads behind the call as it read before. No condition.
-/
import Derived.Test.YtfgkljfoalgkaaaWTicks
import Derived.Test.YtfgkljfoalgkaaaRow
namespace Go.Proofs.Ytfgkljfoalgkaaa
open Go.ChangeShapes Go.WideShapes Go.ChangeAt Go.RowKit

theorem fuseTicks_rows : ∀ t, t ∈ Try.f17.params.toList → Try.prog.readableRec t = true ∧ t < Try.prog.types.size := by
  intro t ht
  rw [Try.params17] at ht
  simp at ht
  rcases ht with rfl | rfl <;> exact ⟨by kernel_rfl, of_decide_eq_true (by kernel_rfl)⟩

set_option maxRecDepth 100000 in
theorem fuseTicks_lifted (os : Os) (started : os.Started) (H : Type) (enc : TypeId × Value → H) :
    ReturnsInHanded {} Try.checked os 17 .any (Rows.fuseTicksSpec.pre6 enc Try.prog Try.f17 Rows.fuseTicksRow.domain false) (Rows.fuseTicksSpec.post enc Try.prog Try.f17 false true false false) := by
  refine returnsInHanded_of_change (C := Try.checked) Try.own started (by kernel_rfl) Try.func17
    (ChangeSpec.witness6 (enc := enc) (C := Try.checked) false ⟨#[], #[.agg #[.slice none 0 0, .slice none 0 0, .slice none 0 0], .int .u32 0], []⟩ 8 (by kernel_rfl) (by kernel_rfl) (by kernel_rfl) (by kernel_rfl)) ?_
  intro W base args ds gs before hval0 hW _ _
  have hval : ∀ (j : Nat) t v, Try.f17.params[j]? = some t → args[j]? = some v → Value.okWide Try.prog W .any base t v := hval0
  have hW' := hW
  obtain ⟨p, q, hA0, hV, rfl, hfz, _⟩ := hW
  have hA : DataW.TrodAll enc Try.prog W 0 (fun _ => true) true Try.f17.params.toList args.toList ds p := hA0
  rw [Try.params17] at hA hval
  obtain ⟨v0, v1, d0, d1, p0, p1, rfl, rfl, rfl, h0, h1⟩ := trodAll_two hA
  obtain ⟨rfl, rfl⟩ := trodVars_none hV
  obtain ⟨a0, b0, c0, n0, m0, l0, F0, C0, S0, rfl, g0, k0, q0⟩ := open_panel (hval 0 66 v0 rfl rfl) h0
  obtain ⟨x1, rfl⟩ := open_u32 (hval 1 46 v1 rfl rfl) h1
  clear hA0 hval0 hfz
  refine (fuseTicks_walk a0 b0 c0 n0 m0 l0 F0 C0 S0 x1 W g0 k0 q0).mono fun e W' ⟨he, hb⟩ => ?_
  subst he
  exact ⟨_, rfl, law_post Try.laidOut fuseTicks_rows hW' rfl rfl rfl rfl rfl Try.underlying4 hb⟩

theorem fuseTicks_named : Try.pinned.checked.prog.funcNamed Rows.fuseTicksRow.func = some 17 := by kernel_rfl
theorem fuseTicks_closed : joinedFacts Try.pinned.checked.prog 17 Try.f17 Rows.fuseTicksSpec Rows.fuseTicksRow = true := by kernel_rfl
theorem fuseTicks_inst : Try.f17.isInstance Try.pinned.checked.prog Rows.fuseTicksRow.origin Rows.fuseTicksRow.targs := of_decide_eq_true (by kernel_rfl)
theorem fuseTicks_wrap : Try.f17.isWrapper Try.pinned.checked.prog Rows.fuseTicksRow.wrapper Rows.fuseTicksRow.mainSum := by unfold Func.isWrapper; first | (rw [if_pos (by decide +kernel)]; kernel_rfl) | (rw [if_neg (by decide +kernel)]; exact ⟨rfl, rfl⟩)
theorem fuseTicks_holds : Rows.FuseTicksSaid :=
  OpenClaim.holds_of_wide 17 Try.f17 rfl rfl rfl rfl rfl rfl rfl ⟨rfl, rfl, rfl, rfl, rfl⟩ rfl rfl rfl rfl rfl fuseTicks_named Try.func17 fuseTicks_closed fuseTicks_inst fuseTicks_wrap
    (fun os started H enc _ => fuseTicks_lifted os started H enc)
#print axioms fuseTicks_holds
end Go.Proofs.Ytfgkljfoalgkaaa
