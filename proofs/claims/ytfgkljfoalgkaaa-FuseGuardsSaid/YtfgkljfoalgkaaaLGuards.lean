/-
  The law FuseGuards: for all arguments it hands back true, and every argument reads behind the call as it read before. No condition.
-/
import Derived.Test.YtfgkljfoalgkaaaWGuards
import Derived.Test.YtfgkljfoalgkaaaRow3
namespace Go.Proofs.Ytfgkljfoalgkaaa
open Go.ChangeShapes Go.WideShapes Go.ChangeAt Go.RowKit

theorem fuseGuards_rows : ∀ t, t ∈ Try.f16.params.toList → Try.prog.readableRec t = true ∧ t < Try.prog.types.size := by
  intro t ht
  rw [Try.params16] at ht
  simp at ht
  rcases ht with rfl | rfl <;> exact ⟨by kernel_rfl, of_decide_eq_true (by kernel_rfl)⟩

set_option maxRecDepth 100000 in
theorem fuseGuards_lifted (os : Os) (started : os.Started) (H : Type) (enc : TypeId × Value → H) :
    ReturnsInHanded {} Try.checked os 16 .any (Rows.fuseGuardsSpec.pre6 enc Try.prog Try.f16 Rows.fuseGuardsRow.domain false) (Rows.fuseGuardsSpec.post enc Try.prog Try.f16 false true false false) := by
  refine returnsInHanded_of_change (C := Try.checked) Try.own started (by kernel_rfl) Try.func16
    (ChangeSpec.witness6 (enc := enc) (C := Try.checked) false ⟨#[], #[.agg #[.slice none 0 0, .slice none 0 0], .int .u16 0], []⟩ 8 (by kernel_rfl) (by kernel_rfl) (by kernel_rfl) (by kernel_rfl)) ?_
  intro W base args ds gs before hval0 hW _ _
  have hval : ∀ (j : Nat) t v, Try.f16.params[j]? = some t → args[j]? = some v → Value.okWide Try.prog W .any base t v := hval0
  have hW' := hW
  obtain ⟨p, q, hA0, hV, rfl, hfz, _⟩ := hW
  have hA : DataW.TrodAll enc Try.prog W 0 (fun _ => true) true Try.f16.params.toList args.toList ds p := hA0
  rw [Try.params16] at hA hval
  obtain ⟨v0, v1, d0, d1, p0, p1, rfl, rfl, rfl, h0, h1⟩ := trodAll_two hA
  obtain ⟨rfl, rfl⟩ := trodVars_none hV
  obtain ⟨a0, b0, n0, m0, C0, L0, rfl, g0, k0⟩ := open_wiring (hval 0 76 v0 rfl rfl) h0
  obtain ⟨x1, rfl, y1, z1⟩ := open_u16 (hval 1 77 v1 rfl rfl) h1
  clear hA0 hval0 hfz
  refine (fuseGuards_walk a0 b0 n0 m0 C0 L0 x1 W g0 k0 y1 z1).mono fun e W' ⟨he, hb⟩ => ?_
  subst he
  exact ⟨_, rfl, law_post Try.laidOut fuseGuards_rows hW' rfl rfl rfl rfl rfl Try.underlying4 hb⟩

theorem fuseGuards_named : Try.pinned.checked.prog.funcNamed Rows.fuseGuardsRow.func = some 16 := by kernel_rfl
theorem fuseGuards_closed : joinedFacts Try.pinned.checked.prog 16 Try.f16 Rows.fuseGuardsSpec Rows.fuseGuardsRow = true := by kernel_rfl
theorem fuseGuards_inst : Try.f16.isInstance Try.pinned.checked.prog Rows.fuseGuardsRow.origin Rows.fuseGuardsRow.targs := of_decide_eq_true (by kernel_rfl)
theorem fuseGuards_wrap : Try.f16.isWrapper Try.pinned.checked.prog Rows.fuseGuardsRow.wrapper Rows.fuseGuardsRow.mainSum := by unfold Func.isWrapper; first | (rw [if_pos (by decide +kernel)]; kernel_rfl) | (rw [if_neg (by decide +kernel)]; exact ⟨rfl, rfl⟩)
theorem fuseGuards_holds : Rows.FuseGuardsSaid :=
  OpenClaim.holds_of_wide 16 Try.f16 rfl rfl rfl rfl rfl rfl rfl ⟨rfl, rfl, rfl, rfl, rfl⟩ rfl rfl rfl rfl rfl fuseGuards_named Try.func16 fuseGuards_closed fuseGuards_inst fuseGuards_wrap
    (fun os started H enc _ => fuseGuards_lifted os started H enc)
#print axioms fuseGuards_holds
end Go.Proofs.Ytfgkljfoalgkaaa
