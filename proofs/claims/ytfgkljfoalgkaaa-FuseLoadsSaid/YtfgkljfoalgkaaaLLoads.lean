/-
  The law FuseLoads: for all arguments it hands back true, and every argument reads behind the call as it read before. No condition.
-/
import Derived.Test.YtfgkljfoalgkaaaWLoads
import Derived.Test.YtfgkljfoalgkaaaRow
namespace Go.Proofs.Ytfgkljfoalgkaaa
open Go.ChangeShapes Go.WideShapes Go.ChangeAt Go.RowKit

theorem fuseLoads_rows : ∀ t, t ∈ Try.f15.params.toList → Try.prog.readableRec t = true ∧ t < Try.prog.types.size := by
  intro t ht
  rw [Try.params15] at ht
  simp at ht
  rcases ht with rfl | rfl | rfl <;> exact ⟨by kernel_rfl, of_decide_eq_true (by kernel_rfl)⟩

set_option maxRecDepth 100000 in
theorem fuseLoads_lifted (os : Os) (started : os.Started) (H : Type) (enc : TypeId × Value → H) :
    ReturnsInHanded {} Try.checked os 15 .any (Rows.fuseLoadsSpec.pre6 enc Try.prog Try.f15 Rows.fuseLoadsRow.domain false) (Rows.fuseLoadsSpec.post enc Try.prog Try.f15 false true false false) := by
  refine returnsInHanded_of_change (C := Try.checked) Try.own started (by kernel_rfl) Try.func15
    (ChangeSpec.witness6 (enc := enc) (C := Try.checked) false ⟨#[], #[.agg #[.slice none 0 0, .slice none 0 0, .slice none 0 0], .int .u32 0, .int .i64 0], []⟩ 8 (by kernel_rfl) (by kernel_rfl) (by kernel_rfl) (by kernel_rfl)) ?_
  intro W base args ds gs before hval0 hW _ _
  have hval : ∀ (j : Nat) t v, Try.f15.params[j]? = some t → args[j]? = some v → Value.okWide Try.prog W .any base t v := hval0
  have hW' := hW
  obtain ⟨p, q, hA0, hV, rfl, hfz, _⟩ := hW
  have hA : DataW.TrodAll enc Try.prog W 0 (fun _ => true) true Try.f15.params.toList args.toList ds p := hA0
  rw [Try.params15] at hA hval
  obtain ⟨v0, v1, v2, d0, d1, d2, p0, p1, p2, rfl, rfl, rfl, h0, h1, h2⟩ := trodAll_three hA
  obtain ⟨rfl, rfl⟩ := trodVars_none hV
  obtain ⟨a0, b0, c0, n0, m0, l0, F0, C0, S0, rfl, g0, k0, q0⟩ := open_panel (hval 0 66 v0 rfl rfl) h0
  obtain ⟨x1, rfl⟩ := open_u32 (hval 1 46 v1 rfl rfl) h1
  obtain ⟨x2, rfl, _, _⟩ := open_i64 (hval 2 3 v2 rfl rfl) h2
  clear hA0 hval0 hfz
  refine (fuseLoads_walk a0 b0 c0 n0 m0 l0 F0 C0 S0 x1 x2 W g0 k0 q0).mono fun e W' ⟨he, hb⟩ => ?_
  subst he
  exact ⟨_, rfl, law_post Try.laidOut fuseLoads_rows hW' rfl rfl rfl rfl rfl Try.underlying4 hb⟩

theorem fuseLoads_named : Try.pinned.checked.prog.funcNamed Rows.fuseLoadsRow.func = some 15 := by kernel_rfl
theorem fuseLoads_closed : joinedFacts Try.pinned.checked.prog 15 Try.f15 Rows.fuseLoadsSpec Rows.fuseLoadsRow = true := by kernel_rfl
theorem fuseLoads_inst : Try.f15.isInstance Try.pinned.checked.prog Rows.fuseLoadsRow.origin Rows.fuseLoadsRow.targs := of_decide_eq_true (by kernel_rfl)
theorem fuseLoads_wrap : Try.f15.isWrapper Try.pinned.checked.prog Rows.fuseLoadsRow.wrapper Rows.fuseLoadsRow.mainSum := by unfold Func.isWrapper; first | (rw [if_pos (by decide +kernel)]; kernel_rfl) | (rw [if_neg (by decide +kernel)]; exact ⟨rfl, rfl⟩)
theorem fuseLoads_holds : Rows.FuseLoadsSaid :=
  OpenClaim.holds_of_wide 15 Try.f15 rfl rfl rfl rfl rfl rfl rfl ⟨rfl, rfl, rfl, rfl, rfl⟩ rfl rfl rfl rfl rfl fuseLoads_named Try.func15 fuseLoads_closed fuseLoads_inst fuseLoads_wrap
    (fun os started H enc _ => fuseLoads_lifted os started H enc)
#print axioms fuseLoads_holds
end Go.Proofs.Ytfgkljfoalgkaaa
